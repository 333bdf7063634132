/- Walks: slices.Clone at []int, element, components. -/
import Derived.Test.YtklbaocgjegdfaaStW1
import Derived.Maps.AppendAt
namespace Go.Proofs.Ytklbaocgjegdfaa
open Go.RowKit

def intsV (l : List Int) : List Value := l.map (Value.int .i64)

theorem IntsAt.of_own {w : World} {base : Nat} {v : Value} {l : List Int} (h : w.ownsRow base 3 1 v l.length (intsV l)) (hl : ∀ x ∈ l, I64 x) : IntsAt w v l := by
  refine ⟨?_, hl⟩
  rcases h.2 with ⟨rfl, h0⟩ | ⟨g, cap, cur, rfl, _, hg, hn, hm, hc, ht⟩
  · rw [h0]
    exact ⟨none, 0, rfl, Nat.le_refl _, by unfold maxLen; omega, fun h => absurd h (by decide)⟩
  · refine ⟨_, cap, rfl, hn, hm, fun hp => ⟨g, 0, rfl, (Array.getElem?_eq_some_iff.1 hg).1, fun i x hx => ?_⟩⟩
    rw [Nat.zero_add, cell_of_row w g i cur 3 (0, 0) hg]
    have hi : i < l.length := by
      rcases Nat.lt_or_ge i l.length with hh | hh
      · exact hh
      · rw [List.getElem?_eq_none hh] at hx; cases hx
    have := congrArg (fun z => z[i]?) ht
    simp only [List.getElem?_take, intsV, List.getElem?_map, hx, Option.map_some] at this
    rw [if_pos (by omega)] at this
    simpa using this

theorem clone_any (l : List Int) (v : Value) (w : World) (h : IntsAt w v l) (hl : l.length ≤ 1099511627776) :
    Calls Try.prog 37 #[v] w fun e w' => ∃ u, e = .returned u ∧ w'.ownsRow w.heap.size 3 1 u l.length (intsV l) ∧ Below w.heap.size w w' := by
  obtain ⟨⟨a, c, rfl, hn, hm, hc⟩, hi⟩ := h
  rcases Nat.eq_zero_or_pos l.length with h0 | h0
  · have : l = [] := List.eq_nil_of_length_eq_zero h0
    subst this
    cases a with
    | none =>
      refine (Try.slices_Clone_int_nil 0 c w).mono ?_
      rintro e w' ⟨rfl, rfl⟩
      exact ⟨_, rfl, World.ownsRow_nil _ _ _ _, Below.refl _ _⟩
    | some a =>
      refine (Try.slices_Clone_int_zero a c w).mono ?_
      rintro e w' ⟨u, rfl, h1, _, h2⟩
      exact ⟨_, rfl, h1, h2⟩
  · obtain ⟨g, o, rfl, hg, hq⟩ := hc h0
    refine (Try.slices_Clone_int g o l.length c l w (Nat.le_refl _) (by omega) (fun j hj => ?_)).mono ?_
    · have := hq j _ (List.getElem?_eq_getElem hj)
      rw [this, List.getD_eq_getElem?_getD, List.getElem?_eq_getElem hj]
      rfl
    · rintro e w' ⟨u, rfl, h1, _, h2⟩
      rw [List.take_length] at h1
      exact ⟨_, rfl, h1, h2⟩

end Go.Proofs.Ytklbaocgjegdfaa
