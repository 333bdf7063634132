/- The collecting round, where the list's variable lies in an old block. -/
import Derived.Test.YtklbaocgjegdfaaEnCo
namespace Go.Proofs.Ytklbaocgjegdfaa
open Go.RowKit Go.Shelf

/-- between two rounds: the list's variable lies at n, its row behind w -/
structure CoJ (w : World) (n lv : Nat) (pre : List St) (O : Nat → Prop) (W : World) : Prop where
  got : ∃ v, Blk W n 27 #[v] ∧ Coll lv O W v pre
  old : ∀ j, O j → w.heap.size ≤ j ∧ j < W.heap.size
  bel : Touch (fun j => j = n) w W
  lt : n < w.heap.size
  lv : lv + 1 = w.heap.size
theorem CoJ.own {w : World} {n lv B : Nat} (hB : w.heap.size ≤ B) (O : Nat → Prop) : OwnFrom B (fun s W => CoJ w n lv s O W) := by
  rintro pre A A' row ⟨⟨v, h2, h3⟩, h5, h6, h7, h8⟩ hg hr
  refine ⟨⟨v, h2.row hg hr, h3.row hg hr⟩, fun j hj => ⟨(h5 j hj).1, Nat.lt_of_lt_of_le (h5 j hj).2 hg.size⟩, ⟨hg.os.trans h6.os, hg.tape.trans h6.tape, hg.output.trans h6.output, Nat.le_trans h6.size hg.size, fun j hj hn => (hg.block j (Nat.lt_of_lt_of_le hj h6.size) (fun e => ?_)).trans (h6.block j hj hn)⟩, h7, h8⟩
  have := (hr j e.symm).1
  omega
theorem CoJ.bides (w : World) (n lv : Nat) : Bides (CoJ w n lv) := by
  rintro pre O O' A A' ⟨⟨v, h2, h3⟩, h5, h6, h7, h8⟩ hgr
  obtain ⟨ht, hn⟩ := id hgr
  have hsz := h6.size
  refine ⟨⟨v, h2.touch ht (fun h => by have := (h5 _ h).1; omega), h3.grows hgr⟩, fun j hj => ?_, ?_, h7, h8⟩
  · rcases hn j hj with h | h
    · exact ⟨(h5 j h).1, Nat.lt_of_lt_of_le (h5 j h).2 ht.size⟩
    · omega
  · exact ⟨ht.os.trans h6.os, ht.tape.trans h6.tape, ht.output.trans h6.output, Nat.le_trans h6.size ht.size, fun j hj hne => (ht.block j (Nat.lt_of_lt_of_le hj hsz) (fun ho => by have := (h5 j ho).1; omega)).trans (h6.block j hj hne)⟩

/-- what a round leaves: the clone lies in A, the list's row has grown to w5 -/
theorem cj_fin {w W A w5 : World} {n lv g : Nat} {pre : List St} {x : St} {O : Nat → Prop} {v v5 x0 x1 x2 : Value} {ts : List (Value × Value × Value)} (hI : CoJ w n lv pre O W) (hb : Below W.heap.size W A) (hgot : Blk W n 27 #[v]) (h0 : ts.length = pre.length)
    (h1 : W.ownsRow (lv + 1) 35 3 v pre.length (flatS ts)) (h2 : RowOff O v) (h3 : ∀ (k : Nat) (x : St), pre[k]? = some x → ∃ t : Value × Value × Value, ts[k]? = some t ∧ StOff (lv + 1) O W (.agg #[t.1, t.2.1, t.2.2]) x)
    (hs : StNew g A (.agg #[x0, x1, x2]) x) (hg : W.heap.size ≤ g) (h4 : w5.ownsRow (lv + 1) 35 3 v5 (pre.length + 1) (flatS ts ++ [x0, x1, x2])) (hgr : A.grownBy w5 v.ownBlock) (h5 : v5.ownBlock = v.ownBlock ∨ v5.ownBlock = some A.heap.size) (B : Nat) :
    Blk w5 n 27 #[v] ∧ KeepsFrom B W (w5.setCell ⟨n, 0, none⟩ v5) ∧ Leaves O W (w5.setCell ⟨n, 0, none⟩ v5) ∧ CoJ w n lv (pre ++ [x]) O (w5.setCell ⟨n, 0, none⟩ v5) := by
  have hold := hI.old
  have hbel := hI.bel
  have hlt := hI.lt
  have hlv := hI.lv
  have hbs := hbel.size
  have hAs := hb.size
  have hgA := hgot.next hb
  have h1A := own_below h1 hb
  have n1 := hgA.own_ne h1A (by decide)
  have hg5 := hgA.grown hgr n1
  refine ⟨hg5, ?_, ?_, ⟨⟨v5, hg5.set 0 v5, ?_⟩, fun j hj => ?_, ?_, hlt, hlv⟩⟩
  · exact ((keeps_below hb B).trans (keeps_own h1A hgr B)).trans (keeps_set _ _ _ _ _)
  · refine ((leaves_below hb (fun j hj => (hold j hj).2)).trans (leaves_gr hgr (fun j hj => ⟨by have := (hold j hj).2; omega, fun e => h2 j hj e.symm⟩))).trans (leaves_set _ _ _ (fun h => by have := (hold _ h).1; omega))
  · refine (Coll.more (g := g) h0 h1A h2 (fun k y hk => ?_) hgr (StOff.of_new hs (fun j hj => by have := (hold j hj).2; omega)) (by omega) h4 h5 (fun j hj => by have := (hold j hj).2; omega)).set (by omega) 0 v5
    obtain ⟨t, a, b⟩ := h3 k y hk
    exact ⟨t, a, b.next hb⟩
  · have := hgr.size
    have h2 := hold j hj
    exact ⟨h2.1, by simp [World.setCell]; omega⟩
  · have h6 : Touch (fun j => j = n) w w5 := ⟨hgr.os.trans (hb.os.trans hbel.os), hgr.tape.trans (hb.tape.trans hbel.tape), hgr.output.trans (hb.output.trans hbel.output), Nat.le_trans hbs (Nat.le_trans hAs hgr.size), fun j hj hn => (hgr.block j (by omega) (fun e => by have := (h1A.lt j e.symm).1; omega)).trans ((hb.block j (by omega)).trans (hbel.block j hj hn))⟩
    exact h6.trans (Touch.of_set w5 n 0 v5) (fun j _ e => e)
end Go.Proofs.Ytklbaocgjegdfaa
