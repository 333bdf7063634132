/- The stacks grow by one number a step at most. -/
import Derived.Test.YtichiccohmeecaaDoorWhP5
namespace Go.Proofs.YtichiccohmeecaaDoor
open Go.RowKit

def LenS (L : Nat) (S : List (List Int)) : Prop := ∀ s ∈ S, s.length ≤ L
theorem LenS.mono {L L' : Nat} {S : List (List Int)} (h : LenS L S) (hl : L ≤ L') : LenS L' S := fun s hs => Nat.le_trans (h s hs) hl
theorem LenS.getD {L : Nat} {S : List (List Int)} (h : LenS L S) (k : Nat) : (S.getD k []).length ≤ L := by
  rw [List.getD_eq_getElem?_getD]
  cases hk : S[k]? with
  | none => exact Nat.zero_le _
  | some x => exact h x (List.mem_of_getElem? hk)
theorem LenS.set {L : Nat} {S : List (List Int)} (h : LenS L S) (k : Nat) {x : List Int} (hx : x.length ≤ L) : LenS L (S.set k x) := fun s hs => by
  rcases List.mem_or_eq_of_mem_set hs with h1 | h1
  · exact h s h1
  · rw [h1]; exact hx

theorem stack_lens {L : Nat} {m : Mach} (h : LenS L m.S) (i : Ins) : LenS (L + 1) (stackP m i).2.S := by
  have h1 := h.mono (Nat.le_succ L)
  have hg : (stk m (find m i.b)).length ≤ L := h.getD _
  unfold stackP
  dsimp only
  split
  · exact h1
  split
  · exact h1
  split
  · split
    · exact h1
    · refine h1.set _ ?_
      rw [List.length_append]
      simpa using hg
  split
  · exact h1
  split
  · exact h1
  split
  · exact h1
  · refine h1.set _ ?_
    rw [List.length_take]
    omega
theorem swap_lens {L : Nat} {m : Mach} (h : LenS L m.S) (k l : Int) : LenS L (swapP m k l).2.S := by
  unfold swapP
  dsimp only
  split
  · exact h
  split
  · exact h
  split
  · exact h
  · exact (h.set _ (h.getD _)).set _ (h.getD _)
theorem exec_lens {L : Nat} {m : Mach} (h : LenS L m.S) (i : Ins) : LenS (L + 1) (exec m i).2.S := by
  have h1 := h.mono (Nat.le_succ L)
  have hx : ∀ (r a : Int), LenS (L + 1) (exchange m r a).2.S := fun r a => by unfold exchange; split <;> exact h1
  unfold exec
  split
  all_goals first
    | exact h1
    | exact hx _ _
    | exact stack_lens h i
    | exact (swap_lens h _ _).mono (Nat.le_succ L)
    | (unfold calcP; split <;> exact h1)
    | (unfold zeroP; split <;> exact h1)
    | (unfold idxP; split; exact hx _ _; exact h1)
    | (unfold readP; split; exact h1; split <;> exact h1)
    | (unfold unreadP; split <;> exact h1)
    | (unfold writeP; split <;> exact h1)
    | (unfold unwriteP; split; exact h1; split <;> exact h1)
    | (unfold shift; split <;> exact h1)
theorem step_lens {L : Nat} {im : Im} {m : Mach} (h : LenS L m.S) : LenS (L + 1) (stepP im m).2.S := by
  have h1 := h.mono (Nat.le_succ L)
  unfold stepP
  dsimp only
  split
  · exact h1
  split
  · exact h1
  split
  · unfold enterP
    split
    · exact h1
    split <;> exact h1
  split
  · unfold leaveP
    dsimp only
    split
    · exact h1
    split <;> exact h1
  split
  · unfold jumpP
    split
    · exact h1
    split
    · exact h1
    split <;> exact h1
  split
  · exact exec_lens h _
  · exact exec_lens h _
theorem go_lens {L : Nat} {b : Bool} {im : Im} {m : Mach} (h : LenS L m.S) : LenS (L + 1) (goP b im m).2.S := by
  unfold goP
  split
  · unfold backP
    exact step_lens (m := turn m) h
  · exact step_lens h
theorem trail_lens {L : Nat} {b : Bool} {im : Im} {m : Mach} (h : LenS L m.S) : ∀ (k : Nat) (m' : Mach), Trail b im m k m' → LenS (L + k) m'.S
  | 0, m', ht => by
    obtain rfl : m' = m := ht
    exact h
  | k + 1, m', ht => by
    obtain ⟨n, hn, hg⟩ := ht
    have := go_lens (b := b) (im := im) (trail_lens h k n hn)
    rw [hg] at this
    exact this

end Go.Proofs.YtichiccohmeecaaDoor
