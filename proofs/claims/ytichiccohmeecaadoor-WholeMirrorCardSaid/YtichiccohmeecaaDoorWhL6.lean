/- cpu.Equal at two equal machines. -/
import Derived.Test.YtichiccohmeecaaDoorWhLa
namespace Go.Proofs.YtichiccohmeecaaDoor
open Go.RowKit

theorem eq_regsL (m : Mach) (w : World) : (Op.equalIn 10000 25 (.agg (regsL m).toArray) (.agg (regsL m).toArray)).run Tryd.prog w = .ok true w := eq_regs _ _ _ _ _ _ _ _ _ _ _ _ _ _ _ _ w
theorem regsL_at {P : Nat → Prop} {w : World} {g : Nat} {m : Mach} {V : MV} (h : MachR P w g m V) : w.rangeAt g 2 (regsL m) := fun j v hv => by
  have hj : j < 16 := by have := (List.getElem?_eq_some_iff.1 hv).1; simpa [regsL] using this
  rw [h.cell (by omega), mf_reg m V hj, ← hv]
  simp [regsL, hj]
theorem MachR.keep0 {P : Nat → Prop} {w : World} {g : Nat} {m : Mach} {V : MV} (h : MachR P w g m V) (n : Nat) : MachR P (w.drewN n) g m V := h.below ⟨rfl, rfl, rfl, Nat.le_refl _, fun _ _ => rfl⟩
theorem regsSize (m : Mach) : (Tryd.prog.info? 25).map (·.size) = some (regsL m).length := by
  rw [show (regsL m).length = 16 by simp [regsL]]
  kernel_rfl

set_option maxRecDepth 100000 in
set_option maxHeartbeats 16000000 in
theorem Equal_any {P Q : Nat → Prop} {w : World} {g h : Nat} {m : Mach} {V V' : MV} (hx : MachR P w g m V) (hy : MachR Q w h m V') :
    Calls Tryd.prog 11 #[.pointer (some ⟨g, 0, none⟩), .pointer (some ⟨h, 0, none⟩)] w (TrueR w) := by
  have HM : Hid (∀ q, Calls Tryd.prog 22 #[V.vM, V'.vM] (w.drewN q) (fun e w' => e = .returned (.bool true) ∧ ∃ d, w' = (w.drewN q).drewN d)) := Lib.hid (fun q => eq_ints (hx.rows.mem.drewN q) (hy.rows.mem.drewN q))
  have HI : Hid (∀ q, Calls Tryd.prog 22 #[V.vI, V'.vI] (w.drewN q) (fun e w' => e = .returned (.bool true) ∧ ∃ d, w' = (w.drewN q).drewN d)) := Lib.hid (fun q => eq_ints (hx.rows.inp.drewN q) (hy.rows.inp.drewN q))
  have HO : Hid (∀ q, Calls Tryd.prog 22 #[V.vO, V'.vO] (w.drewN q) (fun e w' => e = .returned (.bool true) ∧ ∃ d, w' = (w.drewN q).drewN d)) := Lib.hid (fun q => eq_ints (hx.rows.out.drewN q) (hy.rows.out.drewN q))
  have HA : Hid (∀ q, Calls Tryd.prog 25 #[V.vC, V'.vC] (w.drewN q) (fun e w' => e = .returned (.bool true) ∧ ∃ d, w' = (w.drewN q).drewN d)) := Lib.hid (fun q => eq_acts (hx.rows.acts.drewN q) (hy.rows.acts.drewN q))
  have HS : Hid (∀ q, Calls Tryd.prog 23 #[V.vS, V'.vS, .func (.func 24) #[] #[]] (w.drewN q) (fun e w' => e = .returned (.bool true) ∧ ∃ d, w' = (w.drewN q).drewN d)) :=
    Lib.hid (fun q => eq_stk (hx.rows.stk.keep (w' := w.drewN q) ⟨Nat.le_refl _, fun _ _ _ => rfl⟩ (fun _ h => h)) (hy.rows.stk.keep (w' := w.drewN q) ⟨Nat.le_refl _, fun _ _ _ => rfl⟩ (fun _ h => h)))
  obtain ⟨vM, vS, vC, vI, vO, us⟩ := V
  obtain ⟨vM', vS', vC', vI', vO', us'⟩ := V'
  have hz := fun j (hj : j < 25) => hx.cell hj
  have hu := fun j (hj : j < 25) => hy.cell hj
  dsimp only at HM HS HA HI HO
  have y0 : w.cell? ⟨g, 0, none⟩ = some (.int .i64 m.pc) := hz 0 (by decide)
  have y1 : w.cell? ⟨g, 1, none⟩ = some (.int .i64 m.dir) := hz 1 (by decide)
  have y18 : w.cell? ⟨g, 18, none⟩ = some (vM) := hz 18 (by decide)
  have y19 : w.cell? ⟨g, 19, none⟩ = some (vS) := hz 19 (by decide)
  have y20 : w.cell? ⟨g, 20, none⟩ = some (vC) := hz 20 (by decide)
  have y21 : w.cell? ⟨g, 21, none⟩ = some (.int .i64 m.fp) := hz 21 (by decide)
  have y22 : w.cell? ⟨g, 22, none⟩ = some (.int .i64 m.sb) := hz 22 (by decide)
  have y23 : w.cell? ⟨g, 23, none⟩ = some (vI) := hz 23 (by decide)
  have y24 : w.cell? ⟨g, 24, none⟩ = some (vO) := hz 24 (by decide)
  have x0 : w.cell? ⟨h, 0, none⟩ = some (.int .i64 m.pc) := hu 0 (by decide)
  have x1 : w.cell? ⟨h, 1, none⟩ = some (.int .i64 m.dir) := hu 1 (by decide)
  have x18 : w.cell? ⟨h, 18, none⟩ = some (vM') := hu 18 (by decide)
  have x19 : w.cell? ⟨h, 19, none⟩ = some (vS') := hu 19 (by decide)
  have x20 : w.cell? ⟨h, 20, none⟩ = some (vC') := hu 20 (by decide)
  have x21 : w.cell? ⟨h, 21, none⟩ = some (.int .i64 m.fp) := hu 21 (by decide)
  have x22 : w.cell? ⟨h, 22, none⟩ = some (.int .i64 m.sb) := hu 22 (by decide)
  have x23 : w.cell? ⟨h, 23, none⟩ = some (vI') := hu 23 (by decide)
  have x24 : w.cell? ⟨h, 24, none⟩ = some (vO') := hu 24 (by decide)
  have HRX : Hid (∀ W, (∃ n, W = w.drewN n) → W.rangeAt g 2 (regsL m)) := Lib.hid (fun W hW => by obtain ⟨n, rfl⟩ := hW; exact regsL_at (hx.keep0 n))
  have HRY : Hid (∀ W, (∃ n, W = w.drewN n) → W.rangeAt h 2 (regsL m)) := Lib.hid (fun W hW => by obtain ⟨n, rfl⟩ := hW; exact regsL_at (hy.keep0 n))
  have hre := eq_regsL m
  have hsz := regsSize m
  clear hx hy hz hu
  generalize regsL m = rl at *
  generalize m.pc = pc at *
  generalize m.dir = dir at *
  generalize m.fp = fp at *
  generalize m.sb = sb at *
  go_enter Tryd.func11, Tryd.ntmps11
  go_wp2
  refine wp_region_quiet_great (by kernel_rfl) (by kernel_rfl) (by kernel_rfl) (by kernel_rfl) ?_
  iterate 24 (quiet_step (fail))
  refine wpQuiet_load 25 _ rfl g 2 rfl rl _ Tryd.underlying25 rfl hsz HRX.out (by rfl) ?_
  iterate 3 (quiet_step (fail))
  refine wpQuiet_load 25 _ rfl h 2 rfl rl _ Tryd.underlying25 rfl hsz HRY.out (by rfl) ?_
  repeat (quiet_step ((first | (go_at_call 22; first | (with_reducible exact Calls.quiet_of (HM.out _)) | (with_reducible exact Calls.quiet_of (HI.out _)) | (with_reducible exact Calls.quiet_of (HO.out _))) | (go_at_call 23; (with_reducible exact Calls.quiet_of (HS.out _))) | (go_at_call 25; (with_reducible exact Calls.quiet_of (HA.out _))))))
  refine wpQuiet_nil ?_
  intro wz hwz
  obtain ⟨nq, hwz⟩ := hwz
  subst hwz
  go_wp2
  go_ret
  exact ⟨rfl, _, rfl⟩

end Go.Proofs.YtichiccohmeecaaDoor
