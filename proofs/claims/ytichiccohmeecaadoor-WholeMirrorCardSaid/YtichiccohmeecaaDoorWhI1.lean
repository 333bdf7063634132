/- Walks of the small functions of package isa. -/
import Derived.Test.YtichiccohmeecaaDoorWhO
namespace Go.Proofs.YtichiccohmeecaaDoor
open Go.RowKit

theorem register_any (x : Int) (w : World) : Calls Tryd.prog 41 #[.int .i64 x] w fun e w' => e = .returned (.bool (regB x)) ∧ w = w' := by
  go_enter Tryd.func41, Tryd.ntmps41
  go_wp2
  all_goals go_ret
  all_goals exact ⟨ret_bool (by unfold regB; simp_all <;> omega), rfl⟩
theorem number_is (x : Int) (w : World) : Calls Tryd.prog 43 #[.int .i64 x] w fun e w' => e = .returned (.bool (numB x)) ∧ w = w' := by
  go_enter Tryd.func43, Tryd.ntmps43
  go_wp2
  all_goals go_ret
  all_goals exact ⟨ret_bool (by unfold numB; simp_all <;> omega), rfl⟩
theorem index_any (x : Int) (w : World) : Calls Tryd.prog 44 #[.int .i64 x] w fun e w' => e = .returned (.bool (idxB x)) ∧ w = w' := by
  go_enter Tryd.func44, Tryd.ntmps44
  go_wp2
  all_goals go_ret
  all_goals exact ⟨ret_bool (by unfold idxB; simp_all <;> omega), rfl⟩
theorem operator_any (x : Int) (w : World) : Calls Tryd.prog 42 #[.int .i64 x] w fun e w' => e = .returned (.bool (operB x)) ∧ w = w' := by
  go_enter Tryd.func42, Tryd.ntmps42
  go_wp2
  all_goals go_ret
  all_goals exact ⟨ret_bool (by unfold operB; simp_all <;> omega), rfl⟩

theorem natlit (op k : Nat) : ((op : Int) == (k : Int)) = decide (op = k) := by
  rw [Bool.eq_iff_iff]; simp; omega
theorem isjump_any (op : Nat) (w : World) : Calls Tryd.prog 34 #[.int .u8 op] w fun e w' => e = .returned (.bool (jumpB op)) ∧ w = w' := by
  go_enter Tryd.func34, Tryd.ntmps34
  go_wp2
  all_goals go_ret
  all_goals exact ⟨ret_bool (by unfold jumpB; simp_all <;> omega), rfl⟩
theorem island_any (op : Nat) (w : World) : Calls Tryd.prog 35 #[.int .u8 op] w fun e w' => e = .returned (.bool (landB op)) ∧ w = w' := by
  go_enter Tryd.func35, Tryd.ntmps35
  go_wp2
  all_goals go_ret
  all_goals exact ⟨ret_bool (by unfold landB; simp_all <;> omega), rfl⟩

end Go.Proofs.YtichiccohmeecaaDoor
