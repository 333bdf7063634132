/- Rank, Unrank, the reference's Rank; plain. -/
import Derived.Test.YtklbaocgjegdfaaStL0
namespace Go.Proofs.Ytklbaocgjegdfaa
open Go.RowKit

def rankP (x : Int) : Int := if 0 < x then 2 * x - 1 else -2 * x
def unrankP (r : Int) : Int := if r < 0 then 0 else if r.tmod 2 = 1 then r.tdiv 2 + 1 else -(r.tdiv 2)
theorem rankP_nonneg (x : Int) : 0 ≤ rankP x := by unfold rankP; split <;> omega
theorem unrank_rank (x : Int) : unrankP (rankP x) = x := by
  unfold unrankP
  rw [if_neg (by have := rankP_nonneg x; omega)]
  unfold rankP
  split
  · rw [Int.tmod_eq_emod_of_nonneg (by omega), Int.tdiv_eq_ediv_of_nonneg (by omega), if_pos (by omega)]
    omega
  · rw [Int.tmod_eq_emod_of_nonneg (by omega), Int.tdiv_eq_ediv_of_nonneg (by omega), if_neg (by omega)]
    omega

def Mid (x : Int) : Prop := -1099511627776 ≤ x ∧ x ≤ 1099511627776

set_option maxHeartbeats 1000000 in
theorem rank_any (x : Int) (hx : Mid x) (w : World) :
    Calls Try.prog 16 #[.int .i64 x] w fun e w' => e = .returned (.int .i64 (rankP x)) ∧ w' = w := by
  unfold Mid at hx
  by_cases h : 0 < x
  · have f1 : IntKind.i64.wrap (2 * x) = 2 * x := IntWalk.i64_in _ (by omega)
    have f2 : IntKind.i64.wrap (2 * x - 1) = 2 * x - 1 := IntWalk.i64_in _ (by omega)
    have e : rankP x = 2 * x - 1 := if_pos h
    rw [e]
    clear e
    go_enter Try.func16, Try.ntmps16
    go_wp2
    go_ret
    exact ⟨rfl, rfl⟩
  · have f1 : IntKind.i64.wrap (-2 * x) = -2 * x := IntWalk.i64_in _ (by omega)
    have f2 : IntKind.i64.wrap (-(2 * x)) = -(2 * x) := IntWalk.i64_in _ (by omega)
    have e : rankP x = -2 * x := if_neg h
    rw [e]
    clear e
    go_enter Try.func16, Try.ntmps16
    go_wp2
    go_ret
    exact ⟨rfl, rfl⟩

set_option maxHeartbeats 1000000 in
theorem rrank_any (x : Int) (hx : Mid x) (w : World) :
    Calls Try.prog 18 #[.int .i64 x] w fun e w' => e = .returned (.int .i64 (rankP x)) ∧ w' = w := by
  unfold Mid at hx
  by_cases h : 0 < x
  · have f1 : IntKind.i64.wrap (2 * x) = 2 * x := IntWalk.i64_in _ (by omega)
    have f2 : IntKind.i64.wrap (2 * x - 1) = 2 * x - 1 := IntWalk.i64_in _ (by omega)
    have e : rankP x = 2 * x - 1 := if_pos h
    rw [e]
    clear e
    go_enter Try.func18, Try.ntmps18
    go_wp2
    go_ret
    exact ⟨rfl, rfl⟩
  · have f1 : IntKind.i64.wrap (2 * x) = 2 * x := IntWalk.i64_in _ (by omega)
    have f2 : IntKind.i64.wrap (-(2 * x)) = -(2 * x) := IntWalk.i64_in _ (by omega)
    have f3 : IntKind.i64.wrap (0 - 2 * x) = -(2 * x) := by rw [IntWalk.i64_in _ (by omega)]; omega
    have e : rankP x = -(2 * x) := by unfold rankP; rw [if_neg h]; omega
    rw [e]
    clear e
    go_enter Try.func18, Try.ntmps18
    go_wp2
    go_ret
    exact ⟨rfl, rfl⟩

set_option maxHeartbeats 1000000 in
theorem unrank_any (r : Int) (hr : r ≤ 9223372036854775800) (hr2 : -9223372036854775808 ≤ r) (w : World) :
    Calls Try.prog 17 #[.int .i64 r] w fun e w' => e = .returned (.int .i64 (unrankP r)) ∧ w' = w := by
  by_cases h : r < 0
  · have e : unrankP r = 0 := if_pos h
    rw [e]
    clear e
    go_enter Try.func17, Try.ntmps17
    go_wp2
    go_ret
    exact ⟨rfl, rfl⟩
  · have h0 : 0 ≤ r := by omega
    have g1 : r.tmod 2 = r % 2 := Int.tmod_eq_emod_of_nonneg h0
    have g2 : r.tdiv 2 = r / 2 := Int.tdiv_eq_ediv_of_nonneg h0
    have f0 : IntKind.i64.wrap (r.tmod 2) = r.tmod 2 := IntWalk.i64_in _ (by omega)
    have f1 : IntKind.i64.wrap (r.tdiv 2) = r.tdiv 2 := IntWalk.i64_in _ (by omega)
    have f2 : IntKind.i64.wrap (r.tdiv 2 + 1) = r.tdiv 2 + 1 := IntWalk.i64_in _ (by omega)
    have f3 : IntKind.i64.wrap (-(r.tdiv 2)) = -(r.tdiv 2) := IntWalk.i64_in _ (by omega)
    by_cases h1 : r.tmod 2 = 1
    · have e : unrankP r = r.tdiv 2 + 1 := by unfold unrankP; rw [if_neg h, if_pos h1]
      rw [e]
      clear e
      have h2 : (r.tmod 2 == 1) = true := by simp [h1]
      have h3 : r % 2 = 1 := by rw [← g1]; exact h1
      clear g1 g2
      go_enter Try.func17, Try.ntmps17
      go_wp2
      go_ret
      exact ⟨rfl, rfl⟩
    · have e : unrankP r = -(r.tdiv 2) := by unfold unrankP; rw [if_neg h, if_neg h1]
      rw [e]
      clear e
      have h2 : (r.tmod 2 == 1) = false := by simp [h1]
      have h3 : ¬ r % 2 = 1 := by rw [← g1]; exact h1
      clear g1 g2
      go_enter Try.func17, Try.ntmps17
      go_wp2
      go_ret
      exact ⟨rfl, rfl⟩
end Go.Proofs.Ytklbaocgjegdfaa
