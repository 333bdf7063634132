/- Walks of isa.inverse, Inverse, Target, Retarget. -/
import Derived.Test.YtichiccohmeecaaDoorWhI1
namespace Go.Proofs.YtichiccohmeecaaDoor
open Go.RowKit

set_option maxHeartbeats 2000000 in
theorem inverse_op (op : Nat) (w : World) (h35 : op < 35) : Calls Tryd.prog 40 #[.int .u8 op] w fun e w' => e = .returned (.int .u8 (invO op)) ∧ w = w' := by
  refine ops_all (fun op => Calls Tryd.prog 40 #[.int .u8 op] w fun e w' => e = .returned (.int .u8 (invO op)) ∧ w = w') h35 (fun o hp => plain_ops (fun op => Calls Tryd.prog 40 #[.int .u8 op] w fun e w' => e = .returned (.int .u8 (invO op)) ∧ w = w') hp ?_ ?_ ?_ ?_ ?_ ?_ ?_ ?_ ?_ ?_ ?_ ?_ ?_ ?_ ?_ ?_ ?_ ?_ ?_ ?_ ?_ ?_ ?_ ?_) ?_ ?_ ?_ ?_ ?_ ?_ ?_ ?_ ?_ ?_ ?_
  all_goals
    go_enter Tryd.func40, Tryd.ntmps40
    go_wp2
    go_ret
    exact ⟨rfl, rfl⟩

theorem results_ins {fn : Func} {r : Tmp} (h : fn.results = #[.cell r 45]) (tmps : Array Value) (w : World) (g : Nat) (i : Ins) (hp : tmps.getD r undef = .pointer (some ⟨g, 0, none⟩)) (hb : Blk w g 45 #[.int .u8 i.op, .int .i64 i.a, .int .i64 i.b, .int .i64 i.c, .int .i64 i.d]) :
    (results fn tmps).run Tryd.prog w = .ok (insV i) w := by
  have b0 := hb.cell 0
  have b1 := hb.cell 1
  have b2 := hb.cell 2
  have b3 := hb.cell 3
  have b4 := hb.cell 4
  rw [Array.getD_eq_getD_getElem?] at hp
  simp [results, h, hp, go_sem, b0, b1, b2, b3, b4, insV]

def iCells (i : Ins) : Array Value := #[.int .u8 i.op, .int .i64 i.a, .int .i64 i.b, .int .i64 i.c, .int .i64 i.d]

set_option maxHeartbeats 2000000 in
theorem inverse_ins (i : Ins) (w : World) (h35 : i.op < 35) : Calls Tryd.prog 28 #[insV i] w fun e w' => e = .returned (insV (invI i)) ∧ Below w.heap.size w w' := by
  obtain ⟨op, a, b, c, d⟩ := i
  have h35 : op < 35 := h35
  unfold insV
  go_enter Tryd.func28, Tryd.ntmps28
  go_wp2_with ((go_at_call 40; refine (inverse_op _ _ h35).mono ?_; rintro e w' ⟨rfl, rfl⟩))
  exact bodyPost_ret (results_ins rfl _ _ (w.heap.size + 1) (invI ⟨op, a, b, c, d⟩) rfl (Blk.new' (by simp))) rfl ⟨rfl, ((Below.refl _ _).alloc (Nat.le_refl _) _).alloc (by simp) _⟩

theorem targ_A {i : Ins} (h : i.op = 22 ∨ i.op = 25 ∨ i.op = 30 ∨ i.op = 31 ∨ i.op = 32 ∨ i.op = 33) : targ i = some i.a := by
  unfold targ
  rw [if_pos (by unfold inA; simp only [Bool.or_eq_true, decide_eq_true_eq]; omega)]
theorem targ_B {i : Ins} (h : i.op = 23 ∨ i.op = 24 ∨ i.op = 26 ∨ i.op = 27) : targ i = some i.b := by
  unfold targ
  rw [if_neg (by unfold inA; simp only [Bool.or_eq_true, decide_eq_true_eq]; omega), if_pos (by unfold inB; simp only [Bool.or_eq_true, decide_eq_true_eq]; omega)]
theorem targ_N {i : Ins} (h : i.op < 22 ∨ i.op = 28 ∨ i.op = 29 ∨ 34 ≤ i.op) : targ i = none := by
  unfold targ
  rw [if_neg (by unfold inA; simp only [Bool.or_eq_true, decide_eq_true_eq]; omega), if_neg (by unfold inB; simp only [Bool.or_eq_true, decide_eq_true_eq]; omega)]

set_option maxHeartbeats 1000000 in
theorem target_any (i : Ins) (w : World) : Calls Tryd.prog 29 #[insV i] w fun e w' => e = .returned (.tuple #[.int .i64 ((targ i).getD 0), .bool (targ i).isSome]) ∧ Below w.heap.size w w' := by
  obtain ⟨op, a, b, c, d⟩ := i
  obtain ⟨T, hT⟩ : ∃ T, targ ⟨op, a, b, c, d⟩ = T := ⟨_, rfl⟩
  rw [hT]
  have HT := Lib.hid hT
  clear hT
  unfold insV
  go_enter Tryd.func29, Tryd.ntmps29
  go_wp2
  all_goals go_ret2
  all_goals refine ⟨ret_ib ?_ ?_, (Below.refl _ _).alloc (Nat.le_refl _) _⟩
  all_goals simp only [beq_iff_eq, beq_eq_false_iff_ne] at *
  all_goals rw [← HT.out]
  all_goals first | rw [targ_A (by dsimp only; omega)] | rw [targ_B (by dsimp only; omega)] | rw [targ_N (by dsimp only; omega)]
  all_goals rfl

set_option maxHeartbeats 1000000 in
theorem retarget_any (i : Ins) (t : Int) (w : World) : Calls Tryd.prog 30 #[insV i, .int .i64 t] w fun e w' => e = .returned (insV (retarg i t)) ∧ Below w.heap.size w w' := by
  obtain ⟨op, a, b, c, d⟩ := i
  obtain ⟨T, hT⟩ : ∃ T, retarg ⟨op, a, b, c, d⟩ t = T := ⟨_, rfl⟩
  have hb := fun (o1 o2 : Obj) => ((Below.refl w.heap.size w).alloc (Nat.le_refl _) o1).alloc (by simp) o2
  rw [hT]
  have HT := Lib.hid hT
  have HB := Lib.hid hb
  clear hT hb
  unfold insV
  go_enter Tryd.func30, Tryd.ntmps30
  go_wp2
  all_goals simp only [beq_iff_eq, beq_eq_false_iff_ne] at *
  all_goals rw [← HT.out]
  all_goals first
    | exact bodyPost_ret (results_ins rfl _ _ (w.heap.size + 1) ⟨op, t, b, c, d⟩ rfl (Blk.new' (by simp))) rfl ⟨by unfold retarg; rw [if_pos (by unfold inA; simp only [Bool.or_eq_true, decide_eq_true_eq]; omega)]; rfl, HB.out _ _⟩
    | exact bodyPost_ret (results_ins rfl _ _ (w.heap.size + 1) ⟨op, a, t, c, d⟩ rfl (Blk.new' (by simp))) rfl ⟨by unfold retarg; rw [if_neg (by unfold inA; simp only [Bool.or_eq_true, decide_eq_true_eq]; omega), if_pos (by unfold inB; simp only [Bool.or_eq_true, decide_eq_true_eq]; omega)]; rfl, HB.out _ _⟩
    | exact bodyPost_ret (results_ins rfl _ _ (w.heap.size + 1) ⟨op, a, b, c, d⟩ rfl (Blk.new' (by simp))) rfl ⟨by unfold retarg; rw [if_neg (by unfold inA; simp only [Bool.or_eq_true, decide_eq_true_eq]; omega), if_neg (by unfold inB; simp only [Bool.or_eq_true, decide_eq_true_eq]; omega)]; rfl, HB.out _ _⟩

end Go.Proofs.YtichiccohmeecaaDoor
