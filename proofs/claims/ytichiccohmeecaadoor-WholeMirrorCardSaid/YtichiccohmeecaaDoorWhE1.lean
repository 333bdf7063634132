/- The walk of cpu.execute, opcodes 0 to 9 and 21. -/
import Derived.Test.YtichiccohmeecaaDoorWhC1
import Derived.BigRegion
import Derived.RegionTactic
namespace Go.Proofs.YtichiccohmeecaaDoor
open Go.RowKit

theorem reg_nat {x : Int} (h : regB x = true) : ∃ a : Nat, x = a ∧ a < 16 := by
  unfold regB at h
  simp only [Bool.and_eq_true, decide_eq_true_eq] at h
  obtain ⟨a, rfl⟩ := Int.eq_ofNat_of_zero_le h.1
  exact ⟨a, rfl, by omega⟩
theorem alloc_cell {w : World} {g j : Nat} {u : Value} (h : w.cell? ⟨g, j, none⟩ = some u) (o : Obj) : (w.alloc o).cell? ⟨g, j, none⟩ = some u :=
  cell_lo (below_alloc w o) (World.block_lt_of_cell? w _ h) h
theorem exec_done {F : Nat → Prop} {g : Nat} {m' : Mach} {V' : MV} {w w' : World} {e0 : Int} {e : Ending} (h : MachW F w' g m' V') (ht : Touch F w w') (he : e = .returned (.int .i64 e0)) : ExecR F w g (e0, m') e w' :=
  ⟨V', he, ht, h.mono (fun _ hj => .inl hj)⟩

set_option maxRecDepth 100000 in
set_option maxHeartbeats 4000000 in
theorem exec_0 (F : Nat → Prop) (g : Nat) (m : Mach) (V : MV) (w : World) (h : MachW F w g m V) (a b c d : Int) :
    Calls Tryd.prog 37 #[.pointer (some ⟨g, 0, none⟩), .agg #[.int .u8 0, .int .i64 a, .int .i64 b, .int .i64 c, .int .i64 d]] w (ExecR F w g (exec m ⟨0, a, b, c, d⟩)) := by
  have hg := h.blk.lt
  have HW := Lib.hid h
  clear h 
  go_enter Tryd.func37, Tryd.ntmps37
  go_wp2
  go_ret
  exact exec_done (HW.out.al _) ((Touch.refl F w).alloc _) rfl

set_option maxRecDepth 100000 in
set_option maxHeartbeats 4000000 in
theorem exec_1 (F : Nat → Prop) (g : Nat) (m : Mach) (V : MV) (w : World) (h : MachW F w g m V) (a b : Nat) (c d : Int) (ha : a < 16) (hb : b < 16) :
    Calls Tryd.prog 37 #[.pointer (some ⟨g, 0, none⟩), .agg #[.int .u8 1, .int .i64 (a : Int), .int .i64 (b : Int), .int .i64 c, .int .i64 d]] w (ExecR F w g (exec m ⟨1, a, b, c, d⟩)) := by
  have hg := h.blk.lt
  have ya : w.cell? ⟨g, 2 + a, none⟩ = some (.int .i64 (m.R a)) := by rw [← mf_reg m V ha]; exact h.cell (by omega)
  have a0 : (0 : Int) ≤ (a : Int) := Int.natCast_nonneg _
  have a1 : (a : Int) < 16 := by omega
  have fa := h.blk.free (2 + a)
  have yb : w.cell? ⟨g, 2 + b, none⟩ = some (.int .i64 (m.R b)) := by rw [← mf_reg m V hb]; exact h.cell (by omega)
  have b0 : (0 : Int) ≤ (b : Int) := Int.natCast_nonneg _
  have b1 : (b : Int) < 16 := by omega
  obtain ⟨x, hx⟩ : ∃ x, m.R a = x := ⟨_, rfl⟩
  rw [hx] at ya
  have HX := Lib.hid hx
  obtain ⟨y, hy⟩ : ∃ y, m.R b = y := ⟨_, rfl⟩
  rw [hy] at yb
  have HY := Lib.hid hy
  have e : exec m ⟨1, a, b, c, d⟩ = (0, { m with R := upd m.R a (wrap64 (x + y)) }) := by
    show (_, _) = _
    rw [← hx, ← hy]; rfl
  rw [e]
  have HA := Lib.hid ha
  have HW := Lib.hid h
  clear h hx hy e ha hb
  go_enter Tryd.func37, Tryd.ntmps37
  go_wp2
  go_region
  all_goals go_wp2
  all_goals go_ret
  all_goals exact exec_done (((HW.out.reg HA.out _).al _).drew) ((((Touch.refl F w).of_set (.inl HW.out.own) _ _).alloc _).drew) rfl

set_option maxRecDepth 100000 in
set_option maxHeartbeats 4000000 in
theorem exec_2 (F : Nat → Prop) (g : Nat) (m : Mach) (V : MV) (w : World) (h : MachW F w g m V) (a b : Nat) (c d : Int) (ha : a < 16) (hb : b < 16) :
    Calls Tryd.prog 37 #[.pointer (some ⟨g, 0, none⟩), .agg #[.int .u8 2, .int .i64 (a : Int), .int .i64 (b : Int), .int .i64 c, .int .i64 d]] w (ExecR F w g (exec m ⟨2, a, b, c, d⟩)) := by
  have hg := h.blk.lt
  have ya : w.cell? ⟨g, 2 + a, none⟩ = some (.int .i64 (m.R a)) := by rw [← mf_reg m V ha]; exact h.cell (by omega)
  have a0 : (0 : Int) ≤ (a : Int) := Int.natCast_nonneg _
  have a1 : (a : Int) < 16 := by omega
  have fa := h.blk.free (2 + a)
  have yb : w.cell? ⟨g, 2 + b, none⟩ = some (.int .i64 (m.R b)) := by rw [← mf_reg m V hb]; exact h.cell (by omega)
  have b0 : (0 : Int) ≤ (b : Int) := Int.natCast_nonneg _
  have b1 : (b : Int) < 16 := by omega
  obtain ⟨x, hx⟩ : ∃ x, m.R a = x := ⟨_, rfl⟩
  rw [hx] at ya
  have HX := Lib.hid hx
  obtain ⟨y, hy⟩ : ∃ y, m.R b = y := ⟨_, rfl⟩
  rw [hy] at yb
  have HY := Lib.hid hy
  have e : exec m ⟨2, a, b, c, d⟩ = (0, { m with R := upd m.R a (wrap64 (x - y)) }) := by
    show (_, _) = _
    rw [← hx, ← hy]; rfl
  rw [e]
  have HA := Lib.hid ha
  have HW := Lib.hid h
  clear h hx hy e ha hb
  go_enter Tryd.func37, Tryd.ntmps37
  go_wp2
  go_region
  all_goals go_wp2
  all_goals go_ret
  all_goals exact exec_done (((HW.out.reg HA.out _).al _).drew) ((((Touch.refl F w).of_set (.inl HW.out.own) _ _).alloc _).drew) rfl

set_option maxRecDepth 100000 in
set_option maxHeartbeats 4000000 in
theorem exec_3 (F : Nat → Prop) (g : Nat) (m : Mach) (V : MV) (w : World) (h : MachW F w g m V) (a b : Nat) (c d : Int) (ha : a < 16) (hb : b < 16) :
    Calls Tryd.prog 37 #[.pointer (some ⟨g, 0, none⟩), .agg #[.int .u8 3, .int .i64 (a : Int), .int .i64 (b : Int), .int .i64 c, .int .i64 d]] w (ExecR F w g (exec m ⟨3, a, b, c, d⟩)) := by
  have hg := h.blk.lt
  have ya : w.cell? ⟨g, 2 + a, none⟩ = some (.int .i64 (m.R a)) := by rw [← mf_reg m V ha]; exact h.cell (by omega)
  have a0 : (0 : Int) ≤ (a : Int) := Int.natCast_nonneg _
  have a1 : (a : Int) < 16 := by omega
  have fa := h.blk.free (2 + a)
  have yb : w.cell? ⟨g, 2 + b, none⟩ = some (.int .i64 (m.R b)) := by rw [← mf_reg m V hb]; exact h.cell (by omega)
  have b0 : (0 : Int) ≤ (b : Int) := Int.natCast_nonneg _
  have b1 : (b : Int) < 16 := by omega
  obtain ⟨x, hx⟩ : ∃ x, m.R a = x := ⟨_, rfl⟩
  rw [hx] at ya
  have HX := Lib.hid hx
  obtain ⟨y, hy⟩ : ∃ y, m.R b = y := ⟨_, rfl⟩
  rw [hy] at yb
  have HY := Lib.hid hy
  have e : exec m ⟨3, a, b, c, d⟩ = (0, { m with R := upd m.R a (xor64 x y) }) := by
    show (_, _) = _
    rw [← hx, ← hy]; rfl
  rw [e]
  have HA := Lib.hid ha
  have HW := Lib.hid h
  clear h hx hy e ha hb
  go_enter Tryd.func37, Tryd.ntmps37
  go_wp2
  go_region
  all_goals go_wp2
  all_goals go_ret
  all_goals exact exec_done (((HW.out.reg HA.out _).al _).drew) ((((Touch.refl F w).of_set (.inl HW.out.own) _ _).alloc _).drew) rfl

set_option maxRecDepth 100000 in
set_option maxHeartbeats 4000000 in
theorem exec_4 (F : Nat → Prop) (g : Nat) (m : Mach) (V : MV) (w : World) (h : MachW F w g m V) (a : Nat) (b c d : Int) (ha : a < 16) :
    Calls Tryd.prog 37 #[.pointer (some ⟨g, 0, none⟩), .agg #[.int .u8 4, .int .i64 (a : Int), .int .i64 b, .int .i64 c, .int .i64 d]] w (ExecR F w g (exec m ⟨4, a, b, c, d⟩)) := by
  have hg := h.blk.lt
  have ya : w.cell? ⟨g, 2 + a, none⟩ = some (.int .i64 (m.R a)) := by rw [← mf_reg m V ha]; exact h.cell (by omega)
  have a0 : (0 : Int) ≤ (a : Int) := Int.natCast_nonneg _
  have a1 : (a : Int) < 16 := by omega
  have fa := h.blk.free (2 + a)
  obtain ⟨x, hx⟩ : ∃ x, m.R a = x := ⟨_, rfl⟩
  rw [hx] at ya
  have HX := Lib.hid hx
  have e : exec m ⟨4, a, b, c, d⟩ = (0, { m with R := upd m.R a (wrap64 (x + b)) }) := by
    show (_, _) = _
    rw [← hx]; rfl
  rw [e]
  have HA := Lib.hid ha
  have HW := Lib.hid h
  clear h hx e ha
  go_enter Tryd.func37, Tryd.ntmps37
  go_wp2
  go_region
  all_goals go_wp2
  all_goals go_ret
  all_goals exact exec_done (((HW.out.reg HA.out _).al _).drew) ((((Touch.refl F w).of_set (.inl HW.out.own) _ _).alloc _).drew) rfl

set_option maxRecDepth 100000 in
set_option maxHeartbeats 4000000 in
theorem exec_5 (F : Nat → Prop) (g : Nat) (m : Mach) (V : MV) (w : World) (h : MachW F w g m V) (a : Nat) (b c d : Int) (ha : a < 16) :
    Calls Tryd.prog 37 #[.pointer (some ⟨g, 0, none⟩), .agg #[.int .u8 5, .int .i64 (a : Int), .int .i64 b, .int .i64 c, .int .i64 d]] w (ExecR F w g (exec m ⟨5, a, b, c, d⟩)) := by
  have hg := h.blk.lt
  have ya : w.cell? ⟨g, 2 + a, none⟩ = some (.int .i64 (m.R a)) := by rw [← mf_reg m V ha]; exact h.cell (by omega)
  have a0 : (0 : Int) ≤ (a : Int) := Int.natCast_nonneg _
  have a1 : (a : Int) < 16 := by omega
  have fa := h.blk.free (2 + a)
  obtain ⟨x, hx⟩ : ∃ x, m.R a = x := ⟨_, rfl⟩
  rw [hx] at ya
  have HX := Lib.hid hx
  have e : exec m ⟨5, a, b, c, d⟩ = (0, { m with R := upd m.R a (wrap64 (x - b)) }) := by
    show (_, _) = _
    rw [← hx]; rfl
  rw [e]
  have HA := Lib.hid ha
  have HW := Lib.hid h
  clear h hx e ha
  go_enter Tryd.func37, Tryd.ntmps37
  go_wp2
  go_region
  all_goals go_wp2
  all_goals go_ret
  all_goals exact exec_done (((HW.out.reg HA.out _).al _).drew) ((((Touch.refl F w).of_set (.inl HW.out.own) _ _).alloc _).drew) rfl

set_option maxRecDepth 100000 in
set_option maxHeartbeats 4000000 in
theorem exec_6 (F : Nat → Prop) (g : Nat) (m : Mach) (V : MV) (w : World) (h : MachW F w g m V) (a : Nat) (b c d : Int) (ha : a < 16) :
    Calls Tryd.prog 37 #[.pointer (some ⟨g, 0, none⟩), .agg #[.int .u8 6, .int .i64 (a : Int), .int .i64 b, .int .i64 c, .int .i64 d]] w (ExecR F w g (exec m ⟨6, a, b, c, d⟩)) := by
  have hg := h.blk.lt
  have ya : w.cell? ⟨g, 2 + a, none⟩ = some (.int .i64 (m.R a)) := by rw [← mf_reg m V ha]; exact h.cell (by omega)
  have a0 : (0 : Int) ≤ (a : Int) := Int.natCast_nonneg _
  have a1 : (a : Int) < 16 := by omega
  have fa := h.blk.free (2 + a)
  obtain ⟨x, hx⟩ : ∃ x, m.R a = x := ⟨_, rfl⟩
  rw [hx] at ya
  have HX := Lib.hid hx
  have e : exec m ⟨6, a, b, c, d⟩ = (0, { m with R := upd m.R a (xor64 x b) }) := by
    show (_, _) = _
    rw [← hx]; rfl
  rw [e]
  have HA := Lib.hid ha
  have HW := Lib.hid h
  clear h hx e ha
  go_enter Tryd.func37, Tryd.ntmps37
  go_wp2
  go_region
  all_goals go_wp2
  all_goals go_ret
  all_goals exact exec_done (((HW.out.reg HA.out _).al _).drew) ((((Touch.refl F w).of_set (.inl HW.out.own) _ _).alloc _).drew) rfl

set_option maxRecDepth 100000 in
set_option maxHeartbeats 4000000 in
theorem exec_8 (F : Nat → Prop) (g : Nat) (m : Mach) (V : MV) (w : World) (h : MachW F w g m V) (a : Nat) (b c d : Int) (ha : a < 16) :
    Calls Tryd.prog 37 #[.pointer (some ⟨g, 0, none⟩), .agg #[.int .u8 8, .int .i64 (a : Int), .int .i64 b, .int .i64 c, .int .i64 d]] w (ExecR F w g (exec m ⟨8, a, b, c, d⟩)) := by
  have hg := h.blk.lt
  have ya : w.cell? ⟨g, 2 + a, none⟩ = some (.int .i64 (m.R a)) := by rw [← mf_reg m V ha]; exact h.cell (by omega)
  have a0 : (0 : Int) ≤ (a : Int) := Int.natCast_nonneg _
  have a1 : (a : Int) < 16 := by omega
  have fa := h.blk.free (2 + a)
  obtain ⟨x, hx⟩ : ∃ x, m.R a = x := ⟨_, rfl⟩
  rw [hx] at ya
  have HX := Lib.hid hx
  have e : exec m ⟨8, a, b, c, d⟩ = (0, { m with R := upd m.R a (wrap64 (-x)) }) := by
    show (_, _) = _
    rw [← hx]; rfl
  rw [e]
  have HA := Lib.hid ha
  have HW := Lib.hid h
  clear h hx e ha
  go_enter Tryd.func37, Tryd.ntmps37
  go_wp2
  go_region
  all_goals go_wp2
  all_goals go_ret
  all_goals exact exec_done (((HW.out.reg HA.out _).al _).drew) ((((Touch.refl F w).of_set (.inl HW.out.own) _ _).alloc _).drew) rfl

set_option maxRecDepth 100000 in
set_option maxHeartbeats 4000000 in
theorem exec_7 (F : Nat → Prop) (g : Nat) (m : Mach) (V : MV) (w : World) (h : MachW F w g m V) (a b : Nat) (c d : Int) (ha : a < 16) (hb : b < 16) :
    Calls Tryd.prog 37 #[.pointer (some ⟨g, 0, none⟩), .agg #[.int .u8 7, .int .i64 (a : Int), .int .i64 (b : Int), .int .i64 c, .int .i64 d]] w (ExecR F w g (exec m ⟨7, a, b, c, d⟩)) := by
  have hg := h.blk.lt
  have ya : w.cell? ⟨g, 2 + a, none⟩ = some (.int .i64 (m.R a)) := by rw [← mf_reg m V ha]; exact h.cell (by omega)
  have a0 : (0 : Int) ≤ (a : Int) := Int.natCast_nonneg _
  have a1 : (a : Int) < 16 := by omega
  have fa := h.blk.free (2 + a)
  have yb : w.cell? ⟨g, 2 + b, none⟩ = some (.int .i64 (m.R b)) := by rw [← mf_reg m V hb]; exact h.cell (by omega)
  have b0 : (0 : Int) ≤ (b : Int) := Int.natCast_nonneg _
  have b1 : (b : Int) < 16 := by omega
  have fb := h.blk.free (2 + b)
  obtain ⟨x, hx⟩ : ∃ x, m.R a = x := ⟨_, rfl⟩
  rw [hx] at ya
  have HX := Lib.hid hx
  obtain ⟨y, hy⟩ : ∃ y, m.R b = y := ⟨_, rfl⟩
  rw [hy] at yb
  have HY := Lib.hid hy
  have e : exec m ⟨7, a, b, c, d⟩ = (0, { m with R := upd (upd m.R a y) b x }) := by
    show (_, _) = _
    rw [← hx, ← hy]; rfl
  rw [e]
  have HA := Lib.hid ha
  have HB := Lib.hid hb
  have yb2 : (w.setCell ⟨g, 2 + a, none⟩ (.int .i64 y)).cell? ⟨g, 2 + b, none⟩ = some (.int .i64 (upd m.R a y b)) := by
    exact ((h.reg ha y).cell (j := 2 + b) (by omega)).trans (by rw [mf_reg _ _ hb])
  generalize upd m.R a y b = z at yb2
  have HW := Lib.hid h
  clear h hx hy e ha hb
  go_enter Tryd.func37, Tryd.ntmps37
  go_wp2
  go_region
  all_goals go_wp2
  all_goals go_ret
  all_goals exact exec_done ((((HW.out.reg HA.out _).reg HB.out _).al _).drew) (((((Touch.refl F w).of_set (.inl HW.out.own) _ _).of_set (.inl HW.out.own) _ _).alloc _).drew) rfl

set_option maxRecDepth 100000 in
set_option maxHeartbeats 4000000 in
theorem exec_9 (F : Nat → Prop) (g : Nat) (m : Mach) (V : MV) (w : World) (h : MachW F w g m V) (a b c : Nat) (d : Int) (ha : a < 16) (hb : b < 16) (hc : c < 16) (hd : operB d = true) :
    Calls Tryd.prog 37 #[.pointer (some ⟨g, 0, none⟩), .agg #[.int .u8 9, .int .i64 (a : Int), .int .i64 (b : Int), .int .i64 (c : Int), .int .i64 d]] w (ExecR F w g (exec m ⟨9, a, b, c, d⟩)) := by
  have hg := h.blk.lt
  have ya : w.cell? ⟨g, 2 + a, none⟩ = some (.int .i64 (m.R a)) := by rw [← mf_reg m V ha]; exact h.cell (by omega)
  have a0 : (0 : Int) ≤ (a : Int) := Int.natCast_nonneg _
  have a1 : (a : Int) < 16 := by omega
  have fa := h.blk.free (2 + a)
  have yb : w.cell? ⟨g, 2 + b, none⟩ = some (.int .i64 (m.R b)) := by rw [← mf_reg m V hb]; exact h.cell (by omega)
  have b0 : (0 : Int) ≤ (b : Int) := Int.natCast_nonneg _
  have b1 : (b : Int) < 16 := by omega
  have yc : w.cell? ⟨g, 2 + c, none⟩ = some (.int .i64 (m.R c)) := by rw [← mf_reg m V hc]; exact h.cell (by omega)
  have c0 : (0 : Int) ≤ (c : Int) := Int.natCast_nonneg _
  have c1 : (c : Int) < 16 := by omega
  obtain ⟨x, hx⟩ : ∃ x, m.R a = x := ⟨_, rfl⟩
  rw [hx] at ya
  have HX := Lib.hid hx
  obtain ⟨y, hy⟩ : ∃ y, m.R b = y := ⟨_, rfl⟩
  rw [hy] at yb
  have HY := Lib.hid hy
  obtain ⟨z, hz⟩ : ∃ z, m.R c = z := ⟨_, rfl⟩
  rw [hz] at yc
  have HZ := Lib.hid hz
  obtain ⟨d1, d2⟩ : 8 ≤ d ∧ d ≤ 23 := by unfold operB at hd; simpa using hd
  obtain ⟨v, hv⟩ : ∃ v, applyV d y z = v := ⟨_, rfl⟩
  obtain ⟨e0, he0⟩ : ∃ e0, applyE d z = e0 := ⟨_, rfl⟩
  have e : exec m ⟨9, a, b, c, d⟩ = if e0 ≠ 0 then (e0, m) else (0, { m with R := upd m.R a (xor64 x v) }) := by
    show calcP m ⟨9, a, b, c, d⟩ = _
    unfold calcP
    have e1 : m.reg (a : Int) = x := hx
    have e2 : m.reg (b : Int) = y := hy
    have e3 : m.reg (c : Int) = z := hz
    dsimp only
    rw [e1, e2, e3, he0, hv]
    rfl
  rw [e]
  have HA := Lib.hid ha
  have HC : Hid (∀ w', Calls Tryd.prog 49 #[.int .u8 d, .int .i64 y, .int .i64 z] w' fun e w'' => e = .returned (.tuple #[.int .i64 v, .int .i64 e0]) ∧ w'' = w') := Lib.hid (fun w' => (apply_any d y z w').mono fun e w'' ⟨h1, h2⟩ => ⟨by rw [h1, hv, he0], h2.symm⟩)
  have hw8 : IntKind.u8.wrap d = d := by rw [IntKind.wrap_u8]; omega
  have HWL := Lib.hid h
  clear hv he0 e hd hx hy hz
  by_cases h0 : e0 = 0
  · subst h0
    rw [if_neg (by simp)]
    clear h ha hb hc
    go_enter Tryd.func37, Tryd.ntmps37
    go_wp2
    go_quiet ((go_at_call 49; exact Calls.quiet_of_same (HC.out _)))
    go_wp2
    have ya' : ((w.alloc (.cells #[.int .u8 9, .int .i64 a, .int .i64 b, .int .i64 c, .int .i64 d] 45)).drewN nq).cell? ⟨g, 2 + a, none⟩ = some (.int .i64 x) := alloc_cell ya _
    go_region
    all_goals go_wp2
    all_goals go_ret
    all_goals exact exec_done (((HWL.out.al _).drewN _).reg HA.out _) ((((Touch.refl F w).alloc _).drewN _).of_set (.inl HWL.out.own) _ _) rfl
  · rw [if_pos h0]
    have e1 : (e0 != 0) = true := by simpa using h0
    clear h ha hb hc h0
    go_enter Tryd.func37, Tryd.ntmps37
    go_wp2
    go_quiet ((go_at_call 49; exact Calls.quiet_of_same (HC.out _)))
    go_wp2
    go_ret
    exact exec_done ((HWL.out.al _).drewN _) (((Touch.refl F w).alloc _).drewN _) rfl

set_option maxRecDepth 100000 in
set_option maxHeartbeats 4000000 in
theorem exec_21 (F : Nat → Prop) (g : Nat) (m : Mach) (V : MV) (w : World) (h : MachW F w g m V) (a : Nat) (b c d : Int) (ha : a < 16) :
    Calls Tryd.prog 37 #[.pointer (some ⟨g, 0, none⟩), .agg #[.int .u8 21, .int .i64 (a : Int), .int .i64 b, .int .i64 c, .int .i64 d]] w (ExecR F w g (exec m ⟨21, a, b, c, d⟩)) := by
  have hg := h.blk.lt
  have ya : w.cell? ⟨g, 2 + a, none⟩ = some (.int .i64 (m.R a)) := by rw [← mf_reg m V ha]; exact h.cell (by omega)
  have a0 : (0 : Int) ≤ (a : Int) := Int.natCast_nonneg _
  have a1 : (a : Int) < 16 := by omega
  obtain ⟨x, hx⟩ : ∃ x, m.R a = x := ⟨_, rfl⟩
  rw [hx] at ya
  have HX := Lib.hid hx
  have HWL := Lib.hid h
  by_cases h0 : x = 0
  · have e : exec m ⟨21, a, b, c, d⟩ = (0, m) := by
      show zeroP m ⟨21, a, b, c, d⟩ = _
      unfold zeroP
      have e1 : m.reg (a : Int) = x := hx
      dsimp only
      rw [e1, if_neg (by simpa using h0)]
    rw [e]
    subst h0
    clear e h hx ha
    go_enter Tryd.func37, Tryd.ntmps37
    go_wp2
    go_quiet (fail)
    go_wp2
    go_ret
    exact exec_done ((HWL.out.al _).drewN _) (((Touch.refl F w).alloc _).drewN _) rfl
  · have e : exec m ⟨21, a, b, c, d⟩ = (b, m) := by
      show zeroP m ⟨21, a, b, c, d⟩ = _
      unfold zeroP
      have e1 : m.reg (a : Int) = x := hx
      dsimp only
      rw [e1, if_pos (by simpa using h0)]
    rw [e]
    have e1 : (x != 0) = true := by simpa using h0
    clear e h hx ha h0
    go_enter Tryd.func37, Tryd.ntmps37
    go_wp2
    go_quiet (fail)
    have m2 : ((w.alloc (.cells #[.int .u8 21, .int .i64 a, .int .i64 b, .int .i64 c, .int .i64 d] 45)).drewN nq).cell? ⟨w.heap.size, 2, none⟩ = some (.int .i64 b) := (Blk.new w 45 #[.int .u8 21, .int .i64 a, .int .i64 b, .int .i64 c, .int .i64 d]).cell 2
    go_wp2
    go_ret
    exact exec_done ((HWL.out.al _).drewN _) (((Touch.refl F w).alloc _).drewN _) rfl


end Go.Proofs.YtichiccohmeecaaDoor
