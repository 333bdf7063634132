/- Plain facts on quotients and remainders; no program in sight. -/
import Derived.Test.YtgoaplmmeciamaaM
namespace Go.Proofs.Ytgoaplmmeciamaa
open Go.RowKit

theorem quo_facts {x y : Int} (hx : I64 x) (hy : I64 y) (h0 : y ≠ 0) :
    wrap64 (wrap64 (applyV 11 x y * y) + applyV 12 x y) = x := by
  have e1 : applyV 11 x y = wrap64 (x.tdiv y) := by simp [applyV, divV, h0]
  have e2 : applyV 12 x y = x.tmod y := by simp [applyV, divV, h0]
  rw [e1, e2]
  have h := Int.mul_tdiv_add_tmod x y
  rw [Int.mul_comm] at h
  unfold I64 at hx hy
  by_cases hm : y = -1
  · subst hm
    have h1 : x.tdiv (-1) = -x := by rw [Int.tdiv_neg, Int.tdiv_one]
    have h2 : x.tmod (-1) = 0 := by rw [Int.tmod_neg, Int.tmod_one]
    rw [h1, h2]
    unfold wrap64
    omega
  · have hr : -9223372036854775808 ≤ x.tdiv y ∧ x.tdiv y ≤ 9223372036854775807 := by
      by_cases h1 : y = 1
      · subst h1; rw [Int.tdiv_one]; omega
      · have hb : (x.tdiv y).natAbs = x.natAbs / y.natAbs := Int.natAbs_tdiv x y
        have h2 : x.natAbs / y.natAbs ≤ x.natAbs / 2 := Nat.div_le_div_left (by omega) (by omega)
        omega
    have e3 : wrap64 (x.tdiv y) = x.tdiv y := by unfold wrap64; omega
    rw [e3]
    generalize x.tdiv y * y = p at h
    unfold wrap64
    omega

theorem rem_facts {x y : Int} (h0 : y ≠ 0) : (applyV 12 x y).natAbs < y.natAbs ∧ (0 ≤ x → 0 ≤ applyV 12 x y) ∧ (x ≤ 0 → applyV 12 x y ≤ 0) := by
  have e2 : applyV 12 x y = x.tmod y := by simp [applyV, divV, h0]
  rw [e2]
  refine ⟨?_, Int.tmod_nonneg y, fun h => ?_⟩
  · rw [Int.natAbs_tmod]; exact Nat.mod_lt _ (by omega)
  · have := Int.tmod_nonneg y (a := -x) (by omega)
    rw [Int.neg_tmod] at this
    omega

end Go.Proofs.Ytgoaplmmeciamaa
