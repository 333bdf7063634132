/- Sequences of elements behind pointers: what stands but for some blocks; the walk of extend. -/
import Derived.Test.YtpbbiidfahaamaaStK0
import Derived.Maps.AppendAt
namespace Go.Proofs.Ytpbbiidfahaamaa
open Go.RowKit

/-- everything but the blocks of S stands -/
structure Touch (S : Nat → Prop) (w w' : World) : Prop where
  os : w'.os = w.os
  tape : w'.tape = w.tape
  output : w'.output = w.output
  size : w.heap.size ≤ w'.heap.size
  block : ∀ j, j < w.heap.size → ¬ S j → w'.heap[j]? = w.heap[j]?

theorem Touch.refl (S : Nat → Prop) (w : World) : Touch S w w := ⟨rfl, rfl, rfl, Nat.le_refl _, fun _ _ _ => rfl⟩
theorem Touch.trans {S T : Nat → Prop} {a b c : World} (h : Touch S a b) (h2 : Touch T b c) (hT : ∀ j, j < a.heap.size → T j → S j) : Touch S a c :=
  ⟨h2.os.trans h.os, h2.tape.trans h.tape, h2.output.trans h.output, Nat.le_trans h.size h2.size, fun j hj hn => (h2.block j (Nat.lt_of_lt_of_le hj h.size) (fun t => hn (hT j hj t))).trans (h.block j hj hn)⟩
theorem Touch.of_below {S : Nat → Prop} {a b : World} (h : Below a.heap.size a b) : Touch S a b := ⟨h.os, h.tape, h.output, h.size, fun j hj _ => h.block j hj⟩
theorem Touch.of_grown {a b : World} {row : Option Nat} (h : a.grownBy b row) : Touch (fun j => some j = row) a b := ⟨h.os, h.tape, h.output, h.size, fun j hj hn => h.block j hj hn⟩
theorem Touch.of_set (a : World) (g i : Nat) (u : Value) : Touch (fun j => j = g) a (a.setCell ⟨g, i, none⟩ u) :=
  ⟨rfl, rfl, rfl, by simp [World.setCell], fun j _ hn => Below.heap_setCell a ⟨g, i, none⟩ u j (fun e => hn e)⟩
theorem Touch.below {S : Nat → Prop} {W0 a b : World} (h : Touch S a b) (hb : Below W0.heap.size W0 a) (hS : ∀ j, S j → W0.heap.size ≤ j) : Below W0.heap.size W0 b :=
  ⟨h.os.trans hb.os, h.tape.trans hb.tape, h.output.trans hb.output, Nat.le_trans hb.size h.size, fun j hj => (h.block j (Nat.lt_of_lt_of_le hj hb.size) (fun t => by have := hS j t; omega)).trans (hb.block j hj)⟩
theorem Touch.blk {S : Nat → Prop} {a b : World} {g : Nat} {t : TypeId} {cs : Array Value} (h : Touch S a b) (hb : Blk a g t cs) (hn : ¬ S g) : Blk b g t cs := (h.block g hb.lt hn).trans hb
theorem Touch.own {S : Nat → Prop} {a b : World} {base : Nat} {e : TypeId} {size n : Nat} {v : Value} {xs : List Value} (h : Touch S a b) (ho : a.ownsRow base e size v n xs) (hn : ∀ j, v.ownBlock = some j → ¬ S j) : b.ownsRow base e size v n xs := by
  refine ⟨ho.1, ?_⟩
  rcases ho.2 with h0 | ⟨g, cap, cur, rfl, hg, hh, r⟩
  · exact .inl h0
  · exact .inr ⟨g, cap, cur, rfl, hg, (h.block g (Array.getElem?_eq_some_iff.1 hh).1 (hn g rfl)).trans hh, r⟩
theorem Touch.drew {S : Nat → Prop} {a b : World} (h : Touch S a b) : Touch S a b.drew := ⟨h.os, h.tape, h.output, h.size, h.block⟩
theorem Touch.undrew {S : Nat → Prop} {a b : World} (h : Touch S a.drew b) : Touch S a b := ⟨h.os, h.tape, h.output, h.size, h.block⟩

structure Sq where
  len : Int
  els : List Int

/-- the pointer's block b holds the sequence; its elements lie in a row of their own -/
structure SeqAt (B : Nat) (w : World) (b : Nat) (v : Value) (q : Sq) : Prop where
  low : B ≤ b
  blk : Blk w b 79 #[.int .i64 q.len, v]
  els : IntsNew B w v q.els
theorem SeqAt.touch {S : Nat → Prop} {B : Nat} {w w' : World} {b : Nat} {v : Value} {q : Sq} (h : SeqAt B w b v q) (ht : Touch S w w') (h1 : ¬ S b) (h2 : ∀ j, v.ownBlock = some j → ¬ S j) : SeqAt B w' b v q :=
  ⟨h.low, ht.blk h.blk h1, ht.own h.els h2⟩
theorem SeqAt.next {B : Nat} {w w' : World} {b : Nat} {v : Value} {q : Sq} (h : SeqAt B w b v q) (hb : Below w.heap.size w w') : SeqAt B w' b v q :=
  ⟨h.low, h.blk.next hb, own_below h.els hb⟩

theorem ints_set {w : World} {B g n cap : Nat} {l : List Int} (h : IntsNew B w (.slice (some ⟨g, 0, none⟩) n cap) l) (j : Nat) (x : Int) : IntsNew B (w.setCell ⟨g, j, none⟩ (.int .i64 x)) (.slice (some ⟨g, 0, none⟩) n cap) (l.set j x) := by
  have hn : n = l.length := by
    rcases h.2 with ⟨h0, _⟩ | ⟨g', cap', cur, he, _⟩
    · cases h0
    · injection he
  subst hn
  have := (World.ownsRow.stored h j (.int .i64 x)).1
  unfold IntsNew
  rw [List.length_set]
  have hs : intsV (l.set j x) = (intsV l).set j (.int .i64 x) := by simp [intsV, List.map_set]
  rw [hs]
  exact this

def pad (n : Nat) (l : List Int) : List Int := l ++ List.replicate (n - l.length) 0
theorem pad_len (n : Nat) (l : List Int) : (pad n l).length = max n l.length := by
  unfold pad
  rw [List.length_append, List.length_replicate]
  omega

/-- the blocks of a sequence -/
def SqB (b : Nat) (v : Value) (j : Nat) : Prop := j = b ∨ v.ownBlock = some j

set_option maxRecDepth 100000 in
set_option maxHeartbeats 4000000 in
theorem extend_any (B b n : Nat) (v : Value) (q : Sq) (w : World) (h : SeqAt B w b v q) (hn : n ≤ 5000) (hq : q.els.length ≤ 5000) :
    Calls Try.prog 58 #[.pointer (some ⟨b, 0, none⟩), .int .i64 n] w fun e w' => e = .returned (.tuple #[]) ∧
      ∃ v', SeqAt B w' b v' ⟨q.len, pad n q.els⟩ ∧ Touch (SqB b v) w w' ∧ ∀ j, v'.ownBlock = some j → v.ownBlock = some j ∨ w.heap.size ≤ j := by
  obtain ⟨len, els⟩ := q
  simp only at hq
  obtain ⟨hlow, hblk, hels⟩ := h
  simp only at hblk hels
  have hBw : B ≤ w.heap.size := Nat.le_trans hlow (Nat.le_of_lt hblk.lt)
  have hbl := hblk.lt
  have HB := Lib.hid hblk
  have HE := Lib.hid hels
  obtain ⟨i0, hi, hz0, hz1, hz2⟩ := info_parts intInfo
  clear hblk hels
  go_enter Try.func58, Try.ntmps58
  go_wp2
  go_loopg [] (n - els.length) (fun q wr => ∃ (k : Nat) (u : Value), k + q = n - els.length ∧ Blk wr b 79 #[.int .i64 len, u] ∧ IntsNew B wr u (els ++ List.replicate k 0) ∧ Touch (SqB b v) w wr ∧ (∀ j, u.ownBlock = some j → v.ownBlock = some j ∨ w.heap.size ≤ j))
  case atStart => exact ⟨0, v, by omega, HB.out, by simpa using HE.out, Touch.refl _ _, fun j hj => .inl hj⟩
  case round =>
    obtain ⟨k, u, hk, hbk, hown, ht, hu⟩ := hrel
    have hl : (els ++ List.replicate k (0 : Int)).length = els.length + k := by simp
    have hown' := hown
    unfold IntsNew at hown'
    rw [hl] at hown'
    obtain ⟨a, c, rfl⟩ := own_form hown'
    have Hk := Lib.hid hk
    have HBK := Lib.hid hbk
    have HOWN := Lib.hid hown'
    have HT := Lib.hid ht
    have HU := Lib.hid hu
    have hsz := ht.size
    have hkm : k ≤ n - els.length := by omega
    have y1 := hbk.cell 1
    simp only [List.getElem?_toArray, List.getElem?_cons_succ, List.getElem?_cons_zero] at y1
    have hblr : b < wr.heap.size := hbk.lt
    clear hk hbk hown hown' ht hu hl
    by_cases hlt : els.length + k < n
    · have hlt' : ((els.length + k : Nat) : Int) < (n : Int) := by omega
      generalize hm : els.length + k = m at *
      have HM := Lib.hid hm
      have hm5 : m < 5000 := by omega
      go_wp2_with (at_builtin; refine wpList_append_own_at _ rfl (.tmp 15) (.tmp 16) 23 rfl B 3 i0 (.int .i64 0) 1 8 Try.underlying23 hi hz0 hz1 hz2 rfl (by decide) _ _ _ rfl (HOWN.out.alloc _) ⟨wr.heap.size, 0, none⟩ 1 1 [.int .i64 0] rfl rfl ?c1 ?c2 ?c3 ?c4 ?c5 ?_)
      case c1 => exact cell_one_new _ _ _
      case c2 => intro u hu; simp only [List.mem_cons, List.not_mem_nil, or_false] at hu; rcases hu with rfl; rfl
      case c3 => unfold maxLen; omega
      case c4 => omega
      case c5 => simp; omega
      intro v1 w1 hown1 hgrow1 _ hob1
      obtain ⟨a1, c1, rfl⟩ := own_form hown1
      have hbk1 := (HBK.out.al (.cells #[.int .i64 0] 3)).grown hgrow1 (Blk.own_ne (HBK.out.al (.cells #[.int .i64 0] 3)) (HOWN.out.alloc _) (by decide))
      have y2 := hbk1.cell 1
      simp only [List.getElem?_toArray, List.getElem?_cons_succ, List.getElem?_cons_zero] at y2
      have y3 := hbk1.free 1
      have hbl1 : b < w1.heap.size := hbk1.lt
      have htt : Touch (SqB b v) w w1 := HT.out.trans (Touch.trans (Touch.of_below (below_alloc wr _)) (Touch.of_grown hgrow1) (fun j _ hj => hj)) (fun j hj hj2 => by
        rcases HU.out j hj2.symm with hh | hh
        · exact .inr hh
        · omega)
      have hou : ∀ j, (Value.slice a1 (m + 1) c1).ownBlock = some j → v.ownBlock = some j ∨ w.heap.size ≤ j := by
        intro j hj
        rcases hob1 with hh | hh
        · rw [hh] at hj
          exact HU.out j hj
        · rw [hh] at hj
          have : j = wr.heap.size + 1 := by simpa using hj.symm
          exact .inr (by omega)
      have HBK1 := Lib.hid hbk1
      have HOWN1 := Lib.hid hown1
      have HT1 := Lib.hid htt
      have HU1 := Lib.hid hou
      clear hbk1 hown1 hgrow1 hob1 htt hou
      go_wp2
      have hk := Hk.out
      have hm := HM.out
      go_roundg (n - els.length - (k + 1))
      case measure => omega
      case rel =>
        refine ⟨k + 1, _, by omega, HBK1.out.set 1 _, ?_, HT1.out.trans (Touch.of_set _ _ _ _) (fun j _ hj => .inl hj), HU1.out⟩
        unfold IntsNew
        have hl : (els ++ List.replicate (k + 1) (0 : Int)).length = m + 1 := by simp; omega
        have hv : intsV (els ++ List.replicate (k + 1) (0 : Int)) = intsV (els ++ List.replicate k 0) ++ [.int .i64 0] := by
          simp [intsV, List.replicate_succ']
        rw [hl, hv]
        exact own_set HOWN1.out HBK1.out (by decide) _ _
    · have hge : ¬ ((els.length + k : Nat) : Int) < (n : Int) := by omega
      have he : n - els.length = k := by omega
      go_wp2
      go_end0
      refine ⟨rfl, _, ⟨hlow, HBK.out, ?_⟩, HT.out, HU.out⟩
      unfold pad
      simp only
      rw [he]
      unfold IntsNew
      have hl : (els ++ List.replicate k (0 : Int)).length = els.length + k := by simp
      rw [hl]
      exact HOWN.out

end Go.Proofs.Ytpbbiidfahaamaa
