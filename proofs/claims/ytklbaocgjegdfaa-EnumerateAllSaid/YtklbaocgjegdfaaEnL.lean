/- The walk of 'list' (distribute$1): a list is chosen. -/
import Derived.Test.YtklbaocgjegdfaaEnN2
namespace Go.Proofs.Ytklbaocgjegdfaa
open Go.RowKit Go.Shelf

section
variable {l : Nat} {h : Int} {B : List Bd} {x : Fix} {J : List St → (Nat → Prop) → World → Prop} {Jx : List St → World → Prop} {L : List St}

theorem FixAt.lt {W : World} (hf : FixAt l h B x W) (hB : 0 < B.length) : ∀ b, x.fx b → b < W.heap.size := by
  rintro b (rfl | rfl | rfl | rfl | rfl | rfl | rfl | rfl | rfl | rfl)
  · exact hf.s.lt
  · exact hf.y.lt
  · exact hf.lv.lt
  · exact hf.r.lt
  · exact hf.hv.lt
  · exact hf.i.lt
  · exact hf.n.lt
  · exact World.block_lt_of_cell? W _ (hf.ll 0 _ (List.getElem?_eq_getElem hB)).1
  · exact World.block_lt_of_cell? W _ (hf.lr 0 (Nat.zero_le _)).1
  · exact hf.e.lt

/-- a new list of zeros at place c -/
theorem Inv.add {O : Nat → Prop} {W : World} {c : Nat} {vs : Nat → Value} {P : Nat → List Int} (hi : Inv l h B x O W c vs P) (hc : c < B.length) (m : Nat) (hm : m ≤ 1000) :
    Inv l h B x (fun b => O b ∨ b = W.heap.size) ((W.alloc (.cells (Array.replicate m (Value.int .i64 0)) 3)).setCell ⟨x.Ls, c, none⟩ (.slice (some ⟨W.heap.size, 0, none⟩) m m)) (c + 1)
      (fun j => if j = c then .slice (some ⟨W.heap.size, 0, none⟩) m m else vs j) (fun j => if j = c then List.replicate m 0 else P j) ∧
    Grows O (fun b => O b ∨ b = W.heap.size) W ((W.alloc (.cells (Array.replicate m (Value.int .i64 0)) 3)).setCell ⟨x.Ls, c, none⟩ (.slice (some ⟨W.heap.size, 0, none⟩) m m)) := by
  have hlt := hi.fix.lt (by omega)
  have hLs := hi.lists.blk.lt
  have hk : ∀ b, b < W.heap.size → b ≠ x.Ls → ((W.alloc (.cells (Array.replicate m (Value.int .i64 0)) 3)).setCell ⟨x.Ls, c, none⟩ (.slice (some ⟨W.heap.size, 0, none⟩) m m)).heap[b]? = W.heap[b]? := fun b hb hne => by
    rw [Below.heap_setCell _ ⟨x.Ls, c, none⟩ _ b hne]
    exact (below_alloc W _).block b hb
  have hsz : ((W.alloc (.cells (Array.replicate m (Value.int .i64 0)) 3)).setCell ⟨x.Ls, c, none⟩ (.slice (some ⟨W.heap.size, 0, none⟩) m m)).heap.size = W.heap.size + 1 := by simp [World.setCell]
  have hnew : IntsNew 0 ((W.alloc (.cells (Array.replicate m (Value.int .i64 0)) 3)).setCell ⟨x.Ls, c, none⟩ (.slice (some ⟨W.heap.size, 0, none⟩) m m)) (.slice (some ⟨W.heap.size, 0, none⟩) m m) (List.replicate m 0) := by
    have h1 := World.ownsRow_lit (base := 0) (e := 3) (size := 1) W (Array.replicate m (Value.int .i64 0)) m (Nat.zero_le _) (by unfold maxLen; omega) (by simp)
    have h2 : IntsNew 0 (W.alloc (.cells (Array.replicate m (Value.int .i64 0)) 3)) (.slice (some ⟨W.heap.size, 0, none⟩) m m) (List.replicate m 0) := by
      unfold IntsNew
      rw [List.length_replicate]
      have e : (Array.replicate m (Value.int .i64 0)).toList = intsV (List.replicate m 0) := by rw [Array.toList_replicate]; simp [intsV]
      rw [← e]
      exact h1
    refine h2.keep (fun b hb => ?_)
    have : W.heap.size = b := by simpa [Value.ownBlock] using hb
    exact Below.heap_setCell _ ⟨x.Ls, c, none⟩ _ b (by show b ≠ x.Ls; omega)
  refine ⟨⟨hi.fix.keep (fun b hb => hk b (hlt b hb) (fun e => hi.lists.out (e ▸ hb))), fun b hb => .inl (hi.own b hb), ⟨?_, .inl hi.lists.own, hi.lists.out, fun j hj => ?_, fun i j h1 h2 hne => ?_, fun j hj y hy => ?_, fun j hj => ?_⟩, fun b hb => by
    rw [hsz]
    rcases hb with hb | hb
    · have := hi.old b hb; omega
    · omega⟩, ⟨?_, fun b hb => ?_⟩⟩
  · have := (hi.lists.blk.next (below_alloc W (.cells (Array.replicate m (Value.int .i64 0)) 3))).set c (.slice (some ⟨W.heap.size, 0, none⟩) m m)
    rw [arr_set] at this
    exact this
  · by_cases e : j = c
    · simp only [if_pos e]
      exact ⟨W.heap.size, m, by rw [List.length_replicate], hnew, .inr rfl, fun hf => by have := hlt _ hf; omega, by omega⟩
    · simp only [if_neg e]
      obtain ⟨g, cp, ev, hn, ho, hf, hl⟩ := hi.lists.row j (by omega)
      have hg : g < W.heap.size := by
        have := World.ownsRow.lt hn g (by rw [ev]; rfl)
        exact this.2
      exact ⟨g, cp, ev, hn.keep (fun b hb => by
        rw [ev] at hb
        have : g = b := by simpa [Value.ownBlock] using hb
        exact hk b (this ▸ hg) (this ▸ hl)), .inl ho, hf, hl⟩
  · have hrow : ∀ t, t < c → ∀ b, (vs t).ownBlock = some b → b < W.heap.size := fun t ht b hb => by
      obtain ⟨g, cp, ev, hn, _⟩ := hi.lists.row t ht
      exact (World.ownsRow.lt hn b hb).2
    by_cases e1 : i = c
    · have e2 : j ≠ c := by omega
      simp only [if_pos e1, if_neg e2]
      intro he
      have := hrow j (by omega) W.heap.size (by rw [← he]; rfl)
      omega
    · by_cases e2 : j = c
      · simp only [if_neg e1, if_pos e2]
        intro he
        have := hrow i (by omega) W.heap.size (by rw [he]; rfl)
        omega
      · simp only [if_neg e1, if_neg e2]
        exact hi.lists.apart i j (by omega) (by omega) hne
  · by_cases e : j = c
    · simp only [if_pos e] at hy
      rw [(List.mem_replicate.1 hy).2]
      exact ⟨by decide, by decide⟩
    · simp only [if_neg e] at hy
      exact hi.lists.i64 j (by omega) y hy
  · by_cases e : j = c
    · simp only [if_pos e]
      rw [List.length_replicate]
      exact hm
    · simp only [if_neg e]
      exact hi.lists.len j (by omega)
  · refine ⟨rfl, rfl, rfl, by omega, fun j hj hn => hk j hj (fun e => hn (e ▸ hi.lists.own))⟩
  · rcases hb with hb | hb
    · exact .inl hb
    · exact .inr (by omega)

/-- one choice of the list's length -/
theorem listRes_succ {c : Nat} {P : Nat → List Int} {left least most : Int} {b : Bd} (hb : B[c]? = some b) (hl : least = max b.lo ((left - (rwP h (B.drop (c + 1))).hi + h - 1).tdiv h)) (hm : most = min b.hi (left - (rwP h (B.drop (c + 1))).lo)) :
    listRes h B c P left = (List.range (most - least + 1).toNat).flatMap fun (k : Nat) => numRes h B c 0 (least + k).toNat P left := by
  have hc : c < B.length := (List.getElem?_eq_some_iff.1 hb).1
  have hd : B.drop c = b :: B.drop (c + 1) := by
    rw [List.drop_eq_getElem_cons hc]
    congr 1
    exact (List.getElem?_eq_some_iff.1 hb).2
  unfold listRes numRes numOne
  rw [hd]
  simp only [listsP]
  rw [← hl, ← hm, List.map_flatMap]
  congr 1
  funext k
  rw [List.map_flatMap]
  congr 1
  funext y
  rw [List.map_map]
  apply List.map_congr_left
  intro xs _
  simp only [Function.comp, List.take_zero, List.nil_append]
theorem numRes_congr {c m : Nat} {P P' : Nat → List Int} {left : Int} (hP : ∀ j, j < c → P' j = P j) : numRes h B c 0 m P' left = numRes h B c 0 m P left := by
  unfold numRes
  congr 1
  funext y
  exact numOne_congr hP (by simp) y
end
end Go.Proofs.Ytklbaocgjegdfaa
