/- Stores into a machine of the call's own; the walks of Turn, behind, holds, find. -/
import Derived.Test.YtichiccohmeecaaDoorWhG4
import Derived.Deep.RegionLaw
namespace Go.Proofs.YtichiccohmeecaaDoor
open Go.RowKit

theorem IntsIn.set_far {P : Nat → Prop} {w : World} {v : Value} {l : List Int} (h : IntsIn P w v l) {g : Nat} (hg : ¬ P g) (i : Nat) (u : Value) : IntsIn P (w.setCell ⟨g, i, none⟩ u) v l :=
  h.keep ⟨by simp [World.setCell], fun j _ hj => Below.heap_setCell w ⟨g, i, none⟩ u j (fun e => hg (by have e : j = g := e; rw [← e]; exact hj))⟩ (fun _ h => h)
theorem ActsIn.set_far {P : Nat → Prop} {w : World} {v : Value} {l : List (Int × Bool)} (h : ActsIn P w v l) {g : Nat} (hg : ¬ P g) (i : Nat) (u : Value) : ActsIn P (w.setCell ⟨g, i, none⟩ u) v l :=
  h.keep ⟨by simp [World.setCell], fun j _ hj => Below.heap_setCell w ⟨g, i, none⟩ u j (fun e => hg (by have e : j = g := e; rw [← e]; exact hj))⟩ (fun _ h => h)
theorem RO.not_self {F : Nat → Prop} {g : Nat} {V : MV} : ¬ RO F g V g := fun h => h.2.1 rfl
theorem RO.not_mem {F : Nat → Prop} {g j : Nat} {V : MV} (h : V.vM.ownBlock = some j) : ¬ RO F g V j := fun hr => hr.2.2.1 h.symm
theorem RO.not_stk {F : Nat → Prop} {g j : Nat} {V : MV} (h : V.vS.ownBlock = some j) : ¬ RO F g V j := fun hr => hr.2.2.2 h.symm

/-- a store into the machine's own cells -/
theorem MachW.put {F : Nat → Prop} {w : World} {g : Nat} {m m' : Mach} {V : MV} (h : MachW F w g m V) {k : Nat} {u vC vI vO : Value}
    (hs : (mcs m V).setIfInBounds k u = mcs m' { V with vC := vC, vI := vI, vO := vO }) (hM : m'.M = m.M) (hS : m'.S = m.S)
    (ha : ActsIn (RO F g V) w vC m'.calls) (hi : IntsIn (RO F g V) w vI m'.inp) (ho : IntsIn (RO F g V) w vO m'.out) : MachW F (w.setCell ⟨g, k, none⟩ u) g m' { V with vC := vC, vI := vI, vO := vO } := by
  refine ⟨h.own, by rw [← hs]; exact h.blk.set k u, ?_, h.memF, ?_, h.stkF, fun i l hl => ?_, ha.set_far RO.not_self k u, hi.set_far RO.not_self k u, ho.set_far RO.not_self k u⟩
  · rw [hM]; exact own_set h.mem h.blk (by decide) _ _
  · rw [hS]; exact own_set h.stk h.blk (by decide) _ _
  · rw [hS] at hl
    obtain ⟨x, h1, h2⟩ := h.rows i l hl
    exact ⟨x, h1, h2.set_far RO.not_self k u⟩
theorem MachW.put1 {F : Nat → Prop} {w : World} {g : Nat} {m m' : Mach} {V : MV} (h : MachW F w g m V) {k : Nat} {u : Value}
    (hs : (mcs m V).setIfInBounds k u = mcs m' V) (hM : m'.M = m.M) (hS : m'.S = m.S) (ha : m'.calls = m.calls) (hi : m'.inp = m.inp) (ho : m'.out = m.out) : MachW F (w.setCell ⟨g, k, none⟩ u) g m' V :=
  h.put (vC := V.vC) (vI := V.vI) (vO := V.vO) hs hM hS (by rw [ha]; exact h.acts) (by rw [hi]; exact h.inp) (by rw [ho]; exact h.out)
theorem MachW.reg {F : Nat → Prop} {w : World} {g : Nat} {m : Mach} {V : MV} (h : MachW F w g m V) {a : Nat} (ha : a < 16) (x : Int) : MachW F (w.setCell ⟨g, 2 + a, none⟩ (.int .i64 x)) g { m with R := upd m.R a x } V :=
  h.put1 (mcs_reg m V ha x) rfl rfl rfl rfl rfl
theorem MachW.dir {F : Nat → Prop} {w : World} {g : Nat} {m : Mach} {V : MV} (h : MachW F w g m V) (x : Int) : MachW F (w.setCell ⟨g, 1, none⟩ (.int .i64 x)) g { m with dir := x } V := h.put1 (mcs_dir m V x) rfl rfl rfl rfl rfl
theorem MachW.pc {F : Nat → Prop} {w : World} {g : Nat} {m : Mach} {V : MV} (h : MachW F w g m V) (x : Int) : MachW F (w.setCell ⟨g, 0, none⟩ (.int .i64 x)) g { m with pc := x } V := h.put1 (mcs_pc m V x) rfl rfl rfl rfl rfl
theorem MachW.fp {F : Nat → Prop} {w : World} {g : Nat} {m : Mach} {V : MV} (h : MachW F w g m V) (x : Int) : MachW F (w.setCell ⟨g, 21, none⟩ (.int .i64 x)) g { m with fp := x } V := h.put1 (mcs_fp m V x) rfl rfl rfl rfl rfl
theorem MachW.sb {F : Nat → Prop} {w : World} {g : Nat} {m : Mach} {V : MV} (h : MachW F w g m V) (x : Int) : MachW F (w.setCell ⟨g, 22, none⟩ (.int .i64 x)) g { m with sb := x } V := h.put1 (mcs_sb m V x) rfl rfl rfl rfl rfl
theorem MachW.drew {F : Nat → Prop} {w : World} {g : Nat} {m : Mach} {V : MV} (h : MachW F w g m V) : MachW F w.drew g m V := h.keep (w' := w.drew) ⟨Nat.le_refl _, fun _ _ _ => rfl⟩ (fun _ h => h)
theorem MachW.drewN {F : Nat → Prop} {w : World} {g : Nat} {m : Mach} {V : MV} (h : MachW F w g m V) (n : Nat) : MachW F (w.drewN n) g m V := h.keep (w' := w.drewN n) ⟨Nat.le_refl _, fun _ _ _ => rfl⟩ (fun _ h => h)
theorem MachW.al {F : Nat → Prop} {w : World} {g : Nat} {m : Mach} {V : MV} (h : MachW F w g m V) (o : Obj) : MachW F (w.alloc o) g m V := h.below (below_alloc w o)
theorem MachW.same {F : Nat → Prop} {w w' : World} {g : Nat} {m : Mach} {V : MV} (h : MachW F w g m V) (hw : w'.heap = w.heap) : MachW F w' g m V := h.keep (w' := w') ⟨by rw [hw]; exact Nat.le_refl _, fun _ _ _ => by rw [hw]⟩ (fun _ h => h)

/-- what a call does that is handed the machine -/
def ExecR (F : Nat → Prop) (w : World) (g : Nat) (r : Int × Mach) (e : Ending) (w' : World) : Prop := ∃ V', e = .returned (.int .i64 r.1) ∧ Touch F w w' ∧ MachW (grow F w w') w' g r.2 V'
theorem grow_le {F : Nat → Prop} {w w' : World} (j : Nat) (h : F j) : grow F w w' j := .inl h

theorem behind_any (i d : Int) (w : World) (hi : i ≤ 9223372036854775000) (hi0 : -1 ≤ i) : Calls Tryd.prog 47 #[.int .i64 i, .int .i64 d] w fun e w' => e = .returned (.int .i64 (behind i d)) ∧ w' = w := by
  by_cases h : 0 < d
  · rw [show behind i d = i + 1 from if_pos h]
    go_enter Tryd.func47, Tryd.ntmps47
    go_wp2
    go_ret
    exact ⟨rfl, rfl⟩
  · rw [show behind i d = i from if_neg h]
    go_enter Tryd.func47, Tryd.ntmps47
    go_wp2
    go_ret
    exact ⟨rfl, rfl⟩

theorem turn_any (F : Nat → Prop) (g : Nat) (m : Mach) (V : MV) (w : World) (h : MachW F w g m V) (hd : m.dir = 1 ∨ m.dir = -1) :
    Calls Tryd.prog 18 #[.pointer (some ⟨g, 0, none⟩)] w fun e w' => e = .returned (.tuple #[]) ∧ w' = w.setCell ⟨g, 1, none⟩ (.int .i64 (-m.dir)) := by
  have y1 : w.cell? ⟨g, 1, none⟩ = some (.int .i64 m.dir) := h.cell (by decide)
  have f1 := h.blk.free 1
  obtain ⟨d, hdd⟩ : ∃ d, m.dir = d := ⟨_, rfl⟩
  rw [hdd] at y1 hd ⊢
  have hd1 : -1 ≤ d := by omega
  have hd2 : d ≤ 1 := by omega
  clear h hdd hd
  go_enter Tryd.func18, Tryd.ntmps18
  go_wp2
  go_end0
  exact ⟨rfl, rfl⟩

end Go.Proofs.YtichiccohmeecaaDoor
