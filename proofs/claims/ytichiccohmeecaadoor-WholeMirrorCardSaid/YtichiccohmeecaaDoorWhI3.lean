/- The walk of isa.Valid. -/
import Derived.Test.YtichiccohmeecaaDoorWhI2
namespace Go.Proofs.YtichiccohmeecaaDoor
open Go.RowKit

theorem four0 (a b c d : Int) : ∀ w, (Instr.index 73 (.agg #[.int .i64 a, .int .i64 b, .int .i64 c, .int .i64 d]) (.int .i64 0)).run Tryd.prog w = .ok (.int .i64 a) w := fun _ => by kernel_rfl
theorem four1 (a b c d : Int) : ∀ w, (Instr.index 73 (.agg #[.int .i64 a, .int .i64 b, .int .i64 c, .int .i64 d]) (.int .i64 1)).run Tryd.prog w = .ok (.int .i64 b) w := fun _ => by kernel_rfl
theorem four2 (a b c d : Int) : ∀ w, (Instr.index 73 (.agg #[.int .i64 a, .int .i64 b, .int .i64 c, .int .i64 d]) (.int .i64 2)).run Tryd.prog w = .ok (.int .i64 c) w := fun _ => by kernel_rfl
theorem four3 (a b c d : Int) : ∀ w, (Instr.index 73 (.agg #[.int .i64 a, .int .i64 b, .int .i64 c, .int .i64 d]) (.int .i64 3)).run Tryd.prog w = .ok (.int .i64 d) w := fun _ => by kernel_rfl

def ValidAt (op : Nat) : Prop := ∀ (a b c d : Int) (w : World), 0 < w.heap.size → w.cell? ⟨0, op * 2 + 1, none⟩ = some (.int .i64 (opsL.getD op 0 : Nat)) →
  Calls Tryd.prog 31 #[.agg #[.int .u8 op, .int .i64 a, .int .i64 b, .int .i64 c, .int .i64 d]] w fun e w' => e = .returned (.bool (validI ⟨op, a, b, c, d⟩)) ∧ Below w.heap.size w w'

set_option maxRecDepth 100000 in
set_option maxHeartbeats 16000000 in
theorem valid_n0 (op : Nat) (hm : op = 0 ∨ op = 34) : ValidAt op := by
  intro a b c d w h0 hc
  have hn : opsL.getD op 0 = 0 := by rcases hm with rfl | rfl <;> rfl
  rw [hn] at hc
  replace hc : w.cell? ⟨0, op * 2 + 1, none⟩ = some (.int .i64 0) := hc
  have hm2 : (op : Int) = 0 ∨ (op : Int) = 34 := by omega
  have h35 : (op : Int) < 35 := by omega
  have h00 : (0 : Int) ≤ op := by omega
  obtain ⟨T, hT⟩ : ∃ T, validI ⟨op, a, b, c, d⟩ = T := ⟨_, rfl⟩
  rw [hT]
  have HT := Lib.hid hT
  have HM := Lib.hid hm2
  have HN := Lib.hid hn
  clear hT hm hm2 hn
  have i0 := four0 a b c d
  have i1 := four1 a b c d
  have i2 := four2 a b c d
  have i3 := four3 a b c d
  by_cases h0 : a = 0
  rotate_left
  · have e0 : (a != 0) = true := by simpa using h0
    have hr : T = false := by rw [← HT.out]; unfold validI; dsimp only; rw [HN.out]; simp [idleB, h0]
    subst hr
    clear h0 HT
    go_enter Tryd.func31, Tryd.ntmps31
    go_wp2
    refine wp_loop_rounds 5 ?_
    rw [rounds_succ]
    go_wp2
    go_ret
    exact ⟨rfl, below_alloc _ _⟩
  subst h0
  by_cases h1 : b = 0
  rotate_left
  · have e1 : (b != 0) = true := by simpa using h1
    have hr : T = false := by rw [← HT.out]; unfold validI; dsimp only; rw [HN.out]; simp [idleB, h1]
    subst hr
    clear h1 HT
    go_enter Tryd.func31, Tryd.ntmps31
    go_wp2
    refine wp_loop_rounds 5 ?_
    rw [rounds_succ]
    go_wp2
    rw [rounds_succ]
    go_wp2
    go_ret
    exact ⟨rfl, below_alloc _ _⟩
  subst h1
  by_cases h2 : c = 0
  rotate_left
  · have e2 : (c != 0) = true := by simpa using h2
    have hr : T = false := by rw [← HT.out]; unfold validI; dsimp only; rw [HN.out]; simp [idleB, h2]
    subst hr
    clear h2 HT
    go_enter Tryd.func31, Tryd.ntmps31
    go_wp2
    refine wp_loop_rounds 5 ?_
    rw [rounds_succ]
    go_wp2
    rw [rounds_succ]
    go_wp2
    rw [rounds_succ]
    go_wp2
    go_ret
    exact ⟨rfl, below_alloc _ _⟩
  subst h2
  by_cases h3 : d = 0
  rotate_left
  · have e3 : (d != 0) = true := by simpa using h3
    have hr : T = false := by rw [← HT.out]; unfold validI; dsimp only; rw [HN.out]; simp [idleB, h3]
    subst hr
    clear h3 HT
    go_enter Tryd.func31, Tryd.ntmps31
    go_wp2
    refine wp_loop_rounds 5 ?_
    rw [rounds_succ]
    go_wp2
    rw [rounds_succ]
    go_wp2
    rw [rounds_succ]
    go_wp2
    rw [rounds_succ]
    go_wp2
    go_ret
    exact ⟨rfl, below_alloc _ _⟩
  subst h3
  go_enter Tryd.func31, Tryd.ntmps31
  go_wp2
  refine wp_loop_rounds 5 ?_
  rw [rounds_succ]
  go_wp2
  rw [rounds_succ]
  go_wp2
  rw [rounds_succ]
  go_wp2
  rw [rounds_succ]
  go_wp2
  rw [rounds_succ]
  rcases HM.out with hop | hop
  · have HOP := Lib.hid hop
    go_wp2_with (first
        | (go_at_call 41; refine (register_any _ _).mono ?_; rintro e w' ⟨rfl, rfl⟩)
        | (go_at_call 43; refine (number_is _ _).mono ?_; rintro e w' ⟨rfl, rfl⟩)
        | (go_at_call 44; refine (index_any _ _).mono ?_; rintro e w' ⟨rfl, rfl⟩)
        | (go_at_call 42; refine (operator_any _ _).mono ?_; rintro e w' ⟨rfl, rfl⟩))
    all_goals go_ret
    all_goals refine ⟨ret_bool ?_, below_alloc _ _⟩
    all_goals obtain rfl : op = 0 := by have := HOP.out; omega
    all_goals rw [← HT.out]
    all_goals simp [validI, idleB, opsL, formB, *]
  · have HOP := Lib.hid hop
    go_wp2_with (first
        | (go_at_call 41; refine (register_any _ _).mono ?_; rintro e w' ⟨rfl, rfl⟩)
        | (go_at_call 43; refine (number_is _ _).mono ?_; rintro e w' ⟨rfl, rfl⟩)
        | (go_at_call 44; refine (index_any _ _).mono ?_; rintro e w' ⟨rfl, rfl⟩)
        | (go_at_call 42; refine (operator_any _ _).mono ?_; rintro e w' ⟨rfl, rfl⟩))
    all_goals go_ret
    all_goals refine ⟨ret_bool ?_, below_alloc _ _⟩
    all_goals obtain rfl : op = 34 := by have := HOP.out; omega
    all_goals rw [← HT.out]
    all_goals simp [validI, idleB, opsL, formB, *]
set_option maxRecDepth 100000 in
set_option maxHeartbeats 16000000 in
theorem valid_n1 (op : Nat) (hm : op = 8 ∨ op = 17 ∨ op = 18 ∨ op = 19 ∨ op = 20 ∨ op = 22 ∨ op = 25 ∨ op = 30 ∨ op = 31 ∨ op = 32 ∨ op = 33) : ValidAt op := by
  intro a b c d w h0 hc
  have hn : opsL.getD op 0 = 1 := by rcases hm with rfl | rfl | rfl | rfl | rfl | rfl | rfl | rfl | rfl | rfl | rfl <;> rfl
  rw [hn] at hc
  replace hc : w.cell? ⟨0, op * 2 + 1, none⟩ = some (.int .i64 1) := hc
  have hm2 : (op : Int) = 8 ∨ (op : Int) = 17 ∨ (op : Int) = 18 ∨ (op : Int) = 19 ∨ (op : Int) = 20 ∨ (op : Int) = 22 ∨ (op : Int) = 25 ∨ (op : Int) = 30 ∨ (op : Int) = 31 ∨ (op : Int) = 32 ∨ (op : Int) = 33 := by omega
  have h35 : (op : Int) < 35 := by omega
  have h00 : (0 : Int) ≤ op := by omega
  obtain ⟨T, hT⟩ : ∃ T, validI ⟨op, a, b, c, d⟩ = T := ⟨_, rfl⟩
  rw [hT]
  have HT := Lib.hid hT
  have HM := Lib.hid hm2
  have HN := Lib.hid hn
  clear hT hm hm2 hn
  have i0 := four0 a b c d
  have i1 := four1 a b c d
  have i2 := four2 a b c d
  have i3 := four3 a b c d
  by_cases h1 : b = 0
  rotate_left
  · have e1 : (b != 0) = true := by simpa using h1
    have hr : T = false := by rw [← HT.out]; unfold validI; dsimp only; rw [HN.out]; simp [idleB, h1]
    subst hr
    clear h1 HT
    go_enter Tryd.func31, Tryd.ntmps31
    go_wp2
    refine wp_loop_rounds 5 ?_
    rw [rounds_succ]
    go_wp2
    rw [rounds_succ]
    go_wp2
    go_ret
    exact ⟨rfl, below_alloc _ _⟩
  subst h1
  by_cases h2 : c = 0
  rotate_left
  · have e2 : (c != 0) = true := by simpa using h2
    have hr : T = false := by rw [← HT.out]; unfold validI; dsimp only; rw [HN.out]; simp [idleB, h2]
    subst hr
    clear h2 HT
    go_enter Tryd.func31, Tryd.ntmps31
    go_wp2
    refine wp_loop_rounds 5 ?_
    rw [rounds_succ]
    go_wp2
    rw [rounds_succ]
    go_wp2
    rw [rounds_succ]
    go_wp2
    go_ret
    exact ⟨rfl, below_alloc _ _⟩
  subst h2
  by_cases h3 : d = 0
  rotate_left
  · have e3 : (d != 0) = true := by simpa using h3
    have hr : T = false := by rw [← HT.out]; unfold validI; dsimp only; rw [HN.out]; simp [idleB, h3]
    subst hr
    clear h3 HT
    go_enter Tryd.func31, Tryd.ntmps31
    go_wp2
    refine wp_loop_rounds 5 ?_
    rw [rounds_succ]
    go_wp2
    rw [rounds_succ]
    go_wp2
    rw [rounds_succ]
    go_wp2
    rw [rounds_succ]
    go_wp2
    go_ret
    exact ⟨rfl, below_alloc _ _⟩
  subst h3
  go_enter Tryd.func31, Tryd.ntmps31
  go_wp2
  refine wp_loop_rounds 5 ?_
  rw [rounds_succ]
  go_wp2
  rw [rounds_succ]
  go_wp2
  rw [rounds_succ]
  go_wp2
  rw [rounds_succ]
  go_wp2
  rw [rounds_succ]
  rcases HM.out with hop | hop | hop | hop | hop | hop | hop | hop | hop | hop | hop
  · have HOP := Lib.hid hop
    go_wp2_with (first
        | (go_at_call 41; refine (register_any _ _).mono ?_; rintro e w' ⟨rfl, rfl⟩)
        | (go_at_call 43; refine (number_is _ _).mono ?_; rintro e w' ⟨rfl, rfl⟩)
        | (go_at_call 44; refine (index_any _ _).mono ?_; rintro e w' ⟨rfl, rfl⟩)
        | (go_at_call 42; refine (operator_any _ _).mono ?_; rintro e w' ⟨rfl, rfl⟩))
    all_goals go_ret
    all_goals refine ⟨ret_bool ?_, below_alloc _ _⟩
    all_goals obtain rfl : op = 8 := by have := HOP.out; omega
    all_goals rw [← HT.out]
    all_goals simp [validI, idleB, opsL, formB, *]
  · have HOP := Lib.hid hop
    go_wp2_with (first
        | (go_at_call 41; refine (register_any _ _).mono ?_; rintro e w' ⟨rfl, rfl⟩)
        | (go_at_call 43; refine (number_is _ _).mono ?_; rintro e w' ⟨rfl, rfl⟩)
        | (go_at_call 44; refine (index_any _ _).mono ?_; rintro e w' ⟨rfl, rfl⟩)
        | (go_at_call 42; refine (operator_any _ _).mono ?_; rintro e w' ⟨rfl, rfl⟩))
    all_goals go_ret
    all_goals refine ⟨ret_bool ?_, below_alloc _ _⟩
    all_goals obtain rfl : op = 17 := by have := HOP.out; omega
    all_goals rw [← HT.out]
    all_goals simp [validI, idleB, opsL, formB, *]
  · have HOP := Lib.hid hop
    go_wp2_with (first
        | (go_at_call 41; refine (register_any _ _).mono ?_; rintro e w' ⟨rfl, rfl⟩)
        | (go_at_call 43; refine (number_is _ _).mono ?_; rintro e w' ⟨rfl, rfl⟩)
        | (go_at_call 44; refine (index_any _ _).mono ?_; rintro e w' ⟨rfl, rfl⟩)
        | (go_at_call 42; refine (operator_any _ _).mono ?_; rintro e w' ⟨rfl, rfl⟩))
    all_goals go_ret
    all_goals refine ⟨ret_bool ?_, below_alloc _ _⟩
    all_goals obtain rfl : op = 18 := by have := HOP.out; omega
    all_goals rw [← HT.out]
    all_goals simp [validI, idleB, opsL, formB, *]
  · have HOP := Lib.hid hop
    go_wp2_with (first
        | (go_at_call 41; refine (register_any _ _).mono ?_; rintro e w' ⟨rfl, rfl⟩)
        | (go_at_call 43; refine (number_is _ _).mono ?_; rintro e w' ⟨rfl, rfl⟩)
        | (go_at_call 44; refine (index_any _ _).mono ?_; rintro e w' ⟨rfl, rfl⟩)
        | (go_at_call 42; refine (operator_any _ _).mono ?_; rintro e w' ⟨rfl, rfl⟩))
    all_goals go_ret
    all_goals refine ⟨ret_bool ?_, below_alloc _ _⟩
    all_goals obtain rfl : op = 19 := by have := HOP.out; omega
    all_goals rw [← HT.out]
    all_goals simp [validI, idleB, opsL, formB, *]
  · have HOP := Lib.hid hop
    go_wp2_with (first
        | (go_at_call 41; refine (register_any _ _).mono ?_; rintro e w' ⟨rfl, rfl⟩)
        | (go_at_call 43; refine (number_is _ _).mono ?_; rintro e w' ⟨rfl, rfl⟩)
        | (go_at_call 44; refine (index_any _ _).mono ?_; rintro e w' ⟨rfl, rfl⟩)
        | (go_at_call 42; refine (operator_any _ _).mono ?_; rintro e w' ⟨rfl, rfl⟩))
    all_goals go_ret
    all_goals refine ⟨ret_bool ?_, below_alloc _ _⟩
    all_goals obtain rfl : op = 20 := by have := HOP.out; omega
    all_goals rw [← HT.out]
    all_goals simp [validI, idleB, opsL, formB, *]
  · have HOP := Lib.hid hop
    go_wp2_with (first
        | (go_at_call 41; refine (register_any _ _).mono ?_; rintro e w' ⟨rfl, rfl⟩)
        | (go_at_call 43; refine (number_is _ _).mono ?_; rintro e w' ⟨rfl, rfl⟩)
        | (go_at_call 44; refine (index_any _ _).mono ?_; rintro e w' ⟨rfl, rfl⟩)
        | (go_at_call 42; refine (operator_any _ _).mono ?_; rintro e w' ⟨rfl, rfl⟩))
    all_goals go_ret
    all_goals refine ⟨ret_bool ?_, below_alloc _ _⟩
    all_goals obtain rfl : op = 22 := by have := HOP.out; omega
    all_goals rw [← HT.out]
    all_goals simp [validI, idleB, opsL, formB, *]
  · have HOP := Lib.hid hop
    go_wp2_with (first
        | (go_at_call 41; refine (register_any _ _).mono ?_; rintro e w' ⟨rfl, rfl⟩)
        | (go_at_call 43; refine (number_is _ _).mono ?_; rintro e w' ⟨rfl, rfl⟩)
        | (go_at_call 44; refine (index_any _ _).mono ?_; rintro e w' ⟨rfl, rfl⟩)
        | (go_at_call 42; refine (operator_any _ _).mono ?_; rintro e w' ⟨rfl, rfl⟩))
    all_goals go_ret
    all_goals refine ⟨ret_bool ?_, below_alloc _ _⟩
    all_goals obtain rfl : op = 25 := by have := HOP.out; omega
    all_goals rw [← HT.out]
    all_goals simp [validI, idleB, opsL, formB, *]
  · have HOP := Lib.hid hop
    go_wp2_with (first
        | (go_at_call 41; refine (register_any _ _).mono ?_; rintro e w' ⟨rfl, rfl⟩)
        | (go_at_call 43; refine (number_is _ _).mono ?_; rintro e w' ⟨rfl, rfl⟩)
        | (go_at_call 44; refine (index_any _ _).mono ?_; rintro e w' ⟨rfl, rfl⟩)
        | (go_at_call 42; refine (operator_any _ _).mono ?_; rintro e w' ⟨rfl, rfl⟩))
    all_goals go_ret
    all_goals refine ⟨ret_bool ?_, below_alloc _ _⟩
    all_goals obtain rfl : op = 30 := by have := HOP.out; omega
    all_goals rw [← HT.out]
    all_goals simp [validI, idleB, opsL, formB, *]
  · have HOP := Lib.hid hop
    go_wp2_with (first
        | (go_at_call 41; refine (register_any _ _).mono ?_; rintro e w' ⟨rfl, rfl⟩)
        | (go_at_call 43; refine (number_is _ _).mono ?_; rintro e w' ⟨rfl, rfl⟩)
        | (go_at_call 44; refine (index_any _ _).mono ?_; rintro e w' ⟨rfl, rfl⟩)
        | (go_at_call 42; refine (operator_any _ _).mono ?_; rintro e w' ⟨rfl, rfl⟩))
    all_goals go_ret
    all_goals refine ⟨ret_bool ?_, below_alloc _ _⟩
    all_goals obtain rfl : op = 31 := by have := HOP.out; omega
    all_goals rw [← HT.out]
    all_goals simp [validI, idleB, opsL, formB, *]
  · have HOP := Lib.hid hop
    go_wp2_with (first
        | (go_at_call 41; refine (register_any _ _).mono ?_; rintro e w' ⟨rfl, rfl⟩)
        | (go_at_call 43; refine (number_is _ _).mono ?_; rintro e w' ⟨rfl, rfl⟩)
        | (go_at_call 44; refine (index_any _ _).mono ?_; rintro e w' ⟨rfl, rfl⟩)
        | (go_at_call 42; refine (operator_any _ _).mono ?_; rintro e w' ⟨rfl, rfl⟩))
    all_goals go_ret
    all_goals refine ⟨ret_bool ?_, below_alloc _ _⟩
    all_goals obtain rfl : op = 32 := by have := HOP.out; omega
    all_goals rw [← HT.out]
    all_goals simp [validI, idleB, opsL, formB, *]
  · have HOP := Lib.hid hop
    go_wp2_with (first
        | (go_at_call 41; refine (register_any _ _).mono ?_; rintro e w' ⟨rfl, rfl⟩)
        | (go_at_call 43; refine (number_is _ _).mono ?_; rintro e w' ⟨rfl, rfl⟩)
        | (go_at_call 44; refine (index_any _ _).mono ?_; rintro e w' ⟨rfl, rfl⟩)
        | (go_at_call 42; refine (operator_any _ _).mono ?_; rintro e w' ⟨rfl, rfl⟩))
    all_goals go_ret
    all_goals refine ⟨ret_bool ?_, below_alloc _ _⟩
    all_goals obtain rfl : op = 33 := by have := HOP.out; omega
    all_goals rw [← HT.out]
    all_goals simp [validI, idleB, opsL, formB, *]
set_option maxRecDepth 100000 in
set_option maxHeartbeats 16000000 in
theorem valid_n2 (op : Nat) (hm : op = 1 ∨ op = 2 ∨ op = 3 ∨ op = 4 ∨ op = 5 ∨ op = 6 ∨ op = 7 ∨ op = 10 ∨ op = 12 ∨ op = 13 ∨ op = 14 ∨ op = 15 ∨ op = 16 ∨ op = 21 ∨ op = 23 ∨ op = 24 ∨ op = 26 ∨ op = 27 ∨ op = 28 ∨ op = 29) : ValidAt op := by
  intro a b c d w h0 hc
  have hn : opsL.getD op 0 = 2 := by rcases hm with rfl | rfl | rfl | rfl | rfl | rfl | rfl | rfl | rfl | rfl | rfl | rfl | rfl | rfl | rfl | rfl | rfl | rfl | rfl | rfl <;> rfl
  rw [hn] at hc
  replace hc : w.cell? ⟨0, op * 2 + 1, none⟩ = some (.int .i64 2) := hc
  have hm2 : (op : Int) = 1 ∨ (op : Int) = 2 ∨ (op : Int) = 3 ∨ (op : Int) = 4 ∨ (op : Int) = 5 ∨ (op : Int) = 6 ∨ (op : Int) = 7 ∨ (op : Int) = 10 ∨ (op : Int) = 12 ∨ (op : Int) = 13 ∨ (op : Int) = 14 ∨ (op : Int) = 15 ∨ (op : Int) = 16 ∨ (op : Int) = 21 ∨ (op : Int) = 23 ∨ (op : Int) = 24 ∨ (op : Int) = 26 ∨ (op : Int) = 27 ∨ (op : Int) = 28 ∨ (op : Int) = 29 := by omega
  have h35 : (op : Int) < 35 := by omega
  have h00 : (0 : Int) ≤ op := by omega
  obtain ⟨T, hT⟩ : ∃ T, validI ⟨op, a, b, c, d⟩ = T := ⟨_, rfl⟩
  rw [hT]
  have HT := Lib.hid hT
  have HM := Lib.hid hm2
  have HN := Lib.hid hn
  clear hT hm hm2 hn
  have i0 := four0 a b c d
  have i1 := four1 a b c d
  have i2 := four2 a b c d
  have i3 := four3 a b c d
  by_cases h2 : c = 0
  rotate_left
  · have e2 : (c != 0) = true := by simpa using h2
    have hr : T = false := by rw [← HT.out]; unfold validI; dsimp only; rw [HN.out]; simp [idleB, h2]
    subst hr
    clear h2 HT
    go_enter Tryd.func31, Tryd.ntmps31
    go_wp2
    refine wp_loop_rounds 5 ?_
    rw [rounds_succ]
    go_wp2
    rw [rounds_succ]
    go_wp2
    rw [rounds_succ]
    go_wp2
    go_ret
    exact ⟨rfl, below_alloc _ _⟩
  subst h2
  by_cases h3 : d = 0
  rotate_left
  · have e3 : (d != 0) = true := by simpa using h3
    have hr : T = false := by rw [← HT.out]; unfold validI; dsimp only; rw [HN.out]; simp [idleB, h3]
    subst hr
    clear h3 HT
    go_enter Tryd.func31, Tryd.ntmps31
    go_wp2
    refine wp_loop_rounds 5 ?_
    rw [rounds_succ]
    go_wp2
    rw [rounds_succ]
    go_wp2
    rw [rounds_succ]
    go_wp2
    rw [rounds_succ]
    go_wp2
    go_ret
    exact ⟨rfl, below_alloc _ _⟩
  subst h3
  go_enter Tryd.func31, Tryd.ntmps31
  go_wp2
  refine wp_loop_rounds 5 ?_
  rw [rounds_succ]
  go_wp2
  rw [rounds_succ]
  go_wp2
  rw [rounds_succ]
  go_wp2
  rw [rounds_succ]
  go_wp2
  rw [rounds_succ]
  rcases HM.out with hop | hop | hop | hop | hop | hop | hop | hop | hop | hop | hop | hop | hop | hop | hop | hop | hop | hop | hop | hop
  · have HOP := Lib.hid hop
    go_wp2_with (first
        | (go_at_call 41; refine (register_any _ _).mono ?_; rintro e w' ⟨rfl, rfl⟩)
        | (go_at_call 43; refine (number_is _ _).mono ?_; rintro e w' ⟨rfl, rfl⟩)
        | (go_at_call 44; refine (index_any _ _).mono ?_; rintro e w' ⟨rfl, rfl⟩)
        | (go_at_call 42; refine (operator_any _ _).mono ?_; rintro e w' ⟨rfl, rfl⟩))
    all_goals go_ret
    all_goals refine ⟨ret_bool ?_, below_alloc _ _⟩
    all_goals obtain rfl : op = 1 := by have := HOP.out; omega
    all_goals rw [← HT.out]
    all_goals simp [validI, idleB, opsL, formB, *]
  · have HOP := Lib.hid hop
    go_wp2_with (first
        | (go_at_call 41; refine (register_any _ _).mono ?_; rintro e w' ⟨rfl, rfl⟩)
        | (go_at_call 43; refine (number_is _ _).mono ?_; rintro e w' ⟨rfl, rfl⟩)
        | (go_at_call 44; refine (index_any _ _).mono ?_; rintro e w' ⟨rfl, rfl⟩)
        | (go_at_call 42; refine (operator_any _ _).mono ?_; rintro e w' ⟨rfl, rfl⟩))
    all_goals go_ret
    all_goals refine ⟨ret_bool ?_, below_alloc _ _⟩
    all_goals obtain rfl : op = 2 := by have := HOP.out; omega
    all_goals rw [← HT.out]
    all_goals simp [validI, idleB, opsL, formB, *]
  · have HOP := Lib.hid hop
    go_wp2_with (first
        | (go_at_call 41; refine (register_any _ _).mono ?_; rintro e w' ⟨rfl, rfl⟩)
        | (go_at_call 43; refine (number_is _ _).mono ?_; rintro e w' ⟨rfl, rfl⟩)
        | (go_at_call 44; refine (index_any _ _).mono ?_; rintro e w' ⟨rfl, rfl⟩)
        | (go_at_call 42; refine (operator_any _ _).mono ?_; rintro e w' ⟨rfl, rfl⟩))
    all_goals go_ret
    all_goals refine ⟨ret_bool ?_, below_alloc _ _⟩
    all_goals obtain rfl : op = 3 := by have := HOP.out; omega
    all_goals rw [← HT.out]
    all_goals simp [validI, idleB, opsL, formB, *]
  · have HOP := Lib.hid hop
    go_wp2_with (first
        | (go_at_call 41; refine (register_any _ _).mono ?_; rintro e w' ⟨rfl, rfl⟩)
        | (go_at_call 43; refine (number_is _ _).mono ?_; rintro e w' ⟨rfl, rfl⟩)
        | (go_at_call 44; refine (index_any _ _).mono ?_; rintro e w' ⟨rfl, rfl⟩)
        | (go_at_call 42; refine (operator_any _ _).mono ?_; rintro e w' ⟨rfl, rfl⟩))
    all_goals go_ret
    all_goals refine ⟨ret_bool ?_, below_alloc _ _⟩
    all_goals obtain rfl : op = 4 := by have := HOP.out; omega
    all_goals rw [← HT.out]
    all_goals simp [validI, idleB, opsL, formB, *]
  · have HOP := Lib.hid hop
    go_wp2_with (first
        | (go_at_call 41; refine (register_any _ _).mono ?_; rintro e w' ⟨rfl, rfl⟩)
        | (go_at_call 43; refine (number_is _ _).mono ?_; rintro e w' ⟨rfl, rfl⟩)
        | (go_at_call 44; refine (index_any _ _).mono ?_; rintro e w' ⟨rfl, rfl⟩)
        | (go_at_call 42; refine (operator_any _ _).mono ?_; rintro e w' ⟨rfl, rfl⟩))
    all_goals go_ret
    all_goals refine ⟨ret_bool ?_, below_alloc _ _⟩
    all_goals obtain rfl : op = 5 := by have := HOP.out; omega
    all_goals rw [← HT.out]
    all_goals simp [validI, idleB, opsL, formB, *]
  · have HOP := Lib.hid hop
    go_wp2_with (first
        | (go_at_call 41; refine (register_any _ _).mono ?_; rintro e w' ⟨rfl, rfl⟩)
        | (go_at_call 43; refine (number_is _ _).mono ?_; rintro e w' ⟨rfl, rfl⟩)
        | (go_at_call 44; refine (index_any _ _).mono ?_; rintro e w' ⟨rfl, rfl⟩)
        | (go_at_call 42; refine (operator_any _ _).mono ?_; rintro e w' ⟨rfl, rfl⟩))
    all_goals go_ret
    all_goals refine ⟨ret_bool ?_, below_alloc _ _⟩
    all_goals obtain rfl : op = 6 := by have := HOP.out; omega
    all_goals rw [← HT.out]
    all_goals simp [validI, idleB, opsL, formB, *]
  · have HOP := Lib.hid hop
    go_wp2_with (first
        | (go_at_call 41; refine (register_any _ _).mono ?_; rintro e w' ⟨rfl, rfl⟩)
        | (go_at_call 43; refine (number_is _ _).mono ?_; rintro e w' ⟨rfl, rfl⟩)
        | (go_at_call 44; refine (index_any _ _).mono ?_; rintro e w' ⟨rfl, rfl⟩)
        | (go_at_call 42; refine (operator_any _ _).mono ?_; rintro e w' ⟨rfl, rfl⟩))
    all_goals go_ret
    all_goals refine ⟨ret_bool ?_, below_alloc _ _⟩
    all_goals obtain rfl : op = 7 := by have := HOP.out; omega
    all_goals rw [← HT.out]
    all_goals simp [validI, idleB, opsL, formB, *]
  · have HOP := Lib.hid hop
    go_wp2_with (first
        | (go_at_call 41; refine (register_any _ _).mono ?_; rintro e w' ⟨rfl, rfl⟩)
        | (go_at_call 43; refine (number_is _ _).mono ?_; rintro e w' ⟨rfl, rfl⟩)
        | (go_at_call 44; refine (index_any _ _).mono ?_; rintro e w' ⟨rfl, rfl⟩)
        | (go_at_call 42; refine (operator_any _ _).mono ?_; rintro e w' ⟨rfl, rfl⟩))
    all_goals go_ret
    all_goals refine ⟨ret_bool ?_, below_alloc _ _⟩
    all_goals obtain rfl : op = 10 := by have := HOP.out; omega
    all_goals rw [← HT.out]
    all_goals simp [validI, idleB, opsL, formB, *]
  · have HOP := Lib.hid hop
    go_wp2_with (first
        | (go_at_call 41; refine (register_any _ _).mono ?_; rintro e w' ⟨rfl, rfl⟩)
        | (go_at_call 43; refine (number_is _ _).mono ?_; rintro e w' ⟨rfl, rfl⟩)
        | (go_at_call 44; refine (index_any _ _).mono ?_; rintro e w' ⟨rfl, rfl⟩)
        | (go_at_call 42; refine (operator_any _ _).mono ?_; rintro e w' ⟨rfl, rfl⟩))
    all_goals go_ret
    all_goals refine ⟨ret_bool ?_, below_alloc _ _⟩
    all_goals obtain rfl : op = 12 := by have := HOP.out; omega
    all_goals rw [← HT.out]
    all_goals simp [validI, idleB, opsL, formB, *]
  · have HOP := Lib.hid hop
    go_wp2_with (first
        | (go_at_call 41; refine (register_any _ _).mono ?_; rintro e w' ⟨rfl, rfl⟩)
        | (go_at_call 43; refine (number_is _ _).mono ?_; rintro e w' ⟨rfl, rfl⟩)
        | (go_at_call 44; refine (index_any _ _).mono ?_; rintro e w' ⟨rfl, rfl⟩)
        | (go_at_call 42; refine (operator_any _ _).mono ?_; rintro e w' ⟨rfl, rfl⟩))
    all_goals go_ret
    all_goals refine ⟨ret_bool ?_, below_alloc _ _⟩
    all_goals obtain rfl : op = 13 := by have := HOP.out; omega
    all_goals rw [← HT.out]
    all_goals simp [validI, idleB, opsL, formB, *]
  · have HOP := Lib.hid hop
    go_wp2_with (first
        | (go_at_call 41; refine (register_any _ _).mono ?_; rintro e w' ⟨rfl, rfl⟩)
        | (go_at_call 43; refine (number_is _ _).mono ?_; rintro e w' ⟨rfl, rfl⟩)
        | (go_at_call 44; refine (index_any _ _).mono ?_; rintro e w' ⟨rfl, rfl⟩)
        | (go_at_call 42; refine (operator_any _ _).mono ?_; rintro e w' ⟨rfl, rfl⟩))
    all_goals go_ret
    all_goals refine ⟨ret_bool ?_, below_alloc _ _⟩
    all_goals obtain rfl : op = 14 := by have := HOP.out; omega
    all_goals rw [← HT.out]
    all_goals simp [validI, idleB, opsL, formB, *]
  · have HOP := Lib.hid hop
    go_wp2_with (first
        | (go_at_call 41; refine (register_any _ _).mono ?_; rintro e w' ⟨rfl, rfl⟩)
        | (go_at_call 43; refine (number_is _ _).mono ?_; rintro e w' ⟨rfl, rfl⟩)
        | (go_at_call 44; refine (index_any _ _).mono ?_; rintro e w' ⟨rfl, rfl⟩)
        | (go_at_call 42; refine (operator_any _ _).mono ?_; rintro e w' ⟨rfl, rfl⟩))
    all_goals go_ret
    all_goals refine ⟨ret_bool ?_, below_alloc _ _⟩
    all_goals obtain rfl : op = 15 := by have := HOP.out; omega
    all_goals rw [← HT.out]
    all_goals simp [validI, idleB, opsL, formB, *]
  · have HOP := Lib.hid hop
    go_wp2_with (first
        | (go_at_call 41; refine (register_any _ _).mono ?_; rintro e w' ⟨rfl, rfl⟩)
        | (go_at_call 43; refine (number_is _ _).mono ?_; rintro e w' ⟨rfl, rfl⟩)
        | (go_at_call 44; refine (index_any _ _).mono ?_; rintro e w' ⟨rfl, rfl⟩)
        | (go_at_call 42; refine (operator_any _ _).mono ?_; rintro e w' ⟨rfl, rfl⟩))
    all_goals go_ret
    all_goals refine ⟨ret_bool ?_, below_alloc _ _⟩
    all_goals obtain rfl : op = 16 := by have := HOP.out; omega
    all_goals rw [← HT.out]
    all_goals simp [validI, idleB, opsL, formB, *]
  · have HOP := Lib.hid hop
    go_wp2_with (first
        | (go_at_call 41; refine (register_any _ _).mono ?_; rintro e w' ⟨rfl, rfl⟩)
        | (go_at_call 43; refine (number_is _ _).mono ?_; rintro e w' ⟨rfl, rfl⟩)
        | (go_at_call 44; refine (index_any _ _).mono ?_; rintro e w' ⟨rfl, rfl⟩)
        | (go_at_call 42; refine (operator_any _ _).mono ?_; rintro e w' ⟨rfl, rfl⟩))
    all_goals go_ret
    all_goals refine ⟨ret_bool ?_, below_alloc _ _⟩
    all_goals obtain rfl : op = 21 := by have := HOP.out; omega
    all_goals rw [← HT.out]
    all_goals simp [validI, idleB, opsL, formB, *]
    all_goals omega
  · have HOP := Lib.hid hop
    go_wp2_with (first
        | (go_at_call 41; refine (register_any _ _).mono ?_; rintro e w' ⟨rfl, rfl⟩)
        | (go_at_call 43; refine (number_is _ _).mono ?_; rintro e w' ⟨rfl, rfl⟩)
        | (go_at_call 44; refine (index_any _ _).mono ?_; rintro e w' ⟨rfl, rfl⟩)
        | (go_at_call 42; refine (operator_any _ _).mono ?_; rintro e w' ⟨rfl, rfl⟩))
    all_goals go_ret
    all_goals refine ⟨ret_bool ?_, below_alloc _ _⟩
    all_goals obtain rfl : op = 23 := by have := HOP.out; omega
    all_goals rw [← HT.out]
    all_goals simp [validI, idleB, opsL, formB, *]
  · have HOP := Lib.hid hop
    go_wp2_with (first
        | (go_at_call 41; refine (register_any _ _).mono ?_; rintro e w' ⟨rfl, rfl⟩)
        | (go_at_call 43; refine (number_is _ _).mono ?_; rintro e w' ⟨rfl, rfl⟩)
        | (go_at_call 44; refine (index_any _ _).mono ?_; rintro e w' ⟨rfl, rfl⟩)
        | (go_at_call 42; refine (operator_any _ _).mono ?_; rintro e w' ⟨rfl, rfl⟩))
    all_goals go_ret
    all_goals refine ⟨ret_bool ?_, below_alloc _ _⟩
    all_goals obtain rfl : op = 24 := by have := HOP.out; omega
    all_goals rw [← HT.out]
    all_goals simp [validI, idleB, opsL, formB, *]
  · have HOP := Lib.hid hop
    go_wp2_with (first
        | (go_at_call 41; refine (register_any _ _).mono ?_; rintro e w' ⟨rfl, rfl⟩)
        | (go_at_call 43; refine (number_is _ _).mono ?_; rintro e w' ⟨rfl, rfl⟩)
        | (go_at_call 44; refine (index_any _ _).mono ?_; rintro e w' ⟨rfl, rfl⟩)
        | (go_at_call 42; refine (operator_any _ _).mono ?_; rintro e w' ⟨rfl, rfl⟩))
    all_goals go_ret
    all_goals refine ⟨ret_bool ?_, below_alloc _ _⟩
    all_goals obtain rfl : op = 26 := by have := HOP.out; omega
    all_goals rw [← HT.out]
    all_goals simp [validI, idleB, opsL, formB, *]
  · have HOP := Lib.hid hop
    go_wp2_with (first
        | (go_at_call 41; refine (register_any _ _).mono ?_; rintro e w' ⟨rfl, rfl⟩)
        | (go_at_call 43; refine (number_is _ _).mono ?_; rintro e w' ⟨rfl, rfl⟩)
        | (go_at_call 44; refine (index_any _ _).mono ?_; rintro e w' ⟨rfl, rfl⟩)
        | (go_at_call 42; refine (operator_any _ _).mono ?_; rintro e w' ⟨rfl, rfl⟩))
    all_goals go_ret
    all_goals refine ⟨ret_bool ?_, below_alloc _ _⟩
    all_goals obtain rfl : op = 27 := by have := HOP.out; omega
    all_goals rw [← HT.out]
    all_goals simp [validI, idleB, opsL, formB, *]
  · have HOP := Lib.hid hop
    go_wp2_with (first
        | (go_at_call 41; refine (register_any _ _).mono ?_; rintro e w' ⟨rfl, rfl⟩)
        | (go_at_call 43; refine (number_is _ _).mono ?_; rintro e w' ⟨rfl, rfl⟩)
        | (go_at_call 44; refine (index_any _ _).mono ?_; rintro e w' ⟨rfl, rfl⟩)
        | (go_at_call 42; refine (operator_any _ _).mono ?_; rintro e w' ⟨rfl, rfl⟩))
    all_goals go_ret
    all_goals refine ⟨ret_bool ?_, below_alloc _ _⟩
    all_goals obtain rfl : op = 28 := by have := HOP.out; omega
    all_goals rw [← HT.out]
    all_goals simp [validI, idleB, opsL, formB, *]
  · have HOP := Lib.hid hop
    go_wp2_with (first
        | (go_at_call 41; refine (register_any _ _).mono ?_; rintro e w' ⟨rfl, rfl⟩)
        | (go_at_call 43; refine (number_is _ _).mono ?_; rintro e w' ⟨rfl, rfl⟩)
        | (go_at_call 44; refine (index_any _ _).mono ?_; rintro e w' ⟨rfl, rfl⟩)
        | (go_at_call 42; refine (operator_any _ _).mono ?_; rintro e w' ⟨rfl, rfl⟩))
    all_goals go_ret
    all_goals refine ⟨ret_bool ?_, below_alloc _ _⟩
    all_goals obtain rfl : op = 29 := by have := HOP.out; omega
    all_goals rw [← HT.out]
    all_goals simp [validI, idleB, opsL, formB, *]
set_option maxRecDepth 100000 in
set_option maxHeartbeats 16000000 in
theorem valid_n4 (op : Nat) (hm : op = 9 ∨ op = 11) : ValidAt op := by
  intro a b c d w h0 hc
  have hn : opsL.getD op 0 = 4 := by rcases hm with rfl | rfl <;> rfl
  rw [hn] at hc
  replace hc : w.cell? ⟨0, op * 2 + 1, none⟩ = some (.int .i64 4) := hc
  have hm2 : (op : Int) = 9 ∨ (op : Int) = 11 := by omega
  have h35 : (op : Int) < 35 := by omega
  have h00 : (0 : Int) ≤ op := by omega
  obtain ⟨T, hT⟩ : ∃ T, validI ⟨op, a, b, c, d⟩ = T := ⟨_, rfl⟩
  rw [hT]
  have HT := Lib.hid hT
  have HM := Lib.hid hm2
  have HN := Lib.hid hn
  clear hT hm hm2 hn
  have i0 := four0 a b c d
  have i1 := four1 a b c d
  have i2 := four2 a b c d
  have i3 := four3 a b c d
  go_enter Tryd.func31, Tryd.ntmps31
  go_wp2
  refine wp_loop_rounds 5 ?_
  rw [rounds_succ]
  go_wp2
  rw [rounds_succ]
  go_wp2
  rw [rounds_succ]
  go_wp2
  rw [rounds_succ]
  go_wp2
  rw [rounds_succ]
  rcases HM.out with hop | hop
  · have HOP := Lib.hid hop
    go_wp2_with (first
        | (go_at_call 41; refine (register_any _ _).mono ?_; rintro e w' ⟨rfl, rfl⟩)
        | (go_at_call 43; refine (number_is _ _).mono ?_; rintro e w' ⟨rfl, rfl⟩)
        | (go_at_call 44; refine (index_any _ _).mono ?_; rintro e w' ⟨rfl, rfl⟩)
        | (go_at_call 42; refine (operator_any _ _).mono ?_; rintro e w' ⟨rfl, rfl⟩))
    all_goals go_ret
    all_goals refine ⟨ret_bool ?_, below_alloc _ _⟩
    all_goals obtain rfl : op = 9 := by have := HOP.out; omega
    all_goals rw [← HT.out]
    all_goals simp [validI, idleB, opsL, formB, *]
  · have HOP := Lib.hid hop
    go_wp2_with (first
        | (go_at_call 41; refine (register_any _ _).mono ?_; rintro e w' ⟨rfl, rfl⟩)
        | (go_at_call 43; refine (number_is _ _).mono ?_; rintro e w' ⟨rfl, rfl⟩)
        | (go_at_call 44; refine (index_any _ _).mono ?_; rintro e w' ⟨rfl, rfl⟩)
        | (go_at_call 42; refine (operator_any _ _).mono ?_; rintro e w' ⟨rfl, rfl⟩))
    all_goals go_ret
    all_goals refine ⟨ret_bool ?_, below_alloc _ _⟩
    all_goals obtain rfl : op = 11 := by have := HOP.out; omega
    all_goals rw [← HT.out]
    all_goals simp [validI, idleB, opsL, formB, *]

end Go.Proofs.YtichiccohmeecaaDoor
