/- The walk of transfer: write. -/
import Derived.Test.YtichiccohmeecaaDoorWhC5
namespace Go.Proofs.YtichiccohmeecaaDoor
open Go.RowKit

set_option maxRecDepth 100000 in
set_option maxHeartbeats 8000000 in
theorem transfer_19 (F : Nat → Prop) (g : Nat) (m : Mach) (V : MV) (w : World) (h : MachW F w g m V) (a : Nat) (b c d : Int) (ha : a < 16) (hI : m.inp.length ≤ 4096) (hO : m.out.length ≤ 4096) :
    Calls Tryd.prog 54 #[.pointer (some ⟨g, 0, none⟩), .agg #[.int .u8 19, .int .i64 (a : Int), .int .i64 b, .int .i64 c, .int .i64 d]] w (ExecR F w g (exec m ⟨19, a, b, c, d⟩)) := by
  have hg := h.blk.lt
  obtain ⟨WB, hWB⟩ : ∃ WB, WB = w.alloc (.cells #[.int .u8 19, .int .i64 (a : Int), .int .i64 b, .int .i64 c, .int .i64 d] 45) := ⟨_, rfl⟩
  have hbox : Blk WB w.heap.size 45 #[.int .u8 19, .int .i64 (a : Int), .int .i64 b, .int .i64 c, .int .i64 d] := by rw [hWB]; exact Blk.new _ _ _
  have hmb : MachW F WB g m V := by rw [hWB]; exact h.al _
  have HT : Hid (Touch F w WB) := Lib.hid (by rw [hWB]; exact (Touch.refl F w).alloc _)
  have m1 : WB.cell? ⟨w.heap.size, 1, none⟩ = some (.int .i64 a) := hbox.cell 1
  have M0 : Hid (∀ q, (WB.drewN q).cell? ⟨w.heap.size, 0, none⟩ = some (.int .u8 19)) := Lib.hid (fun _ => hbox.cell 0)
  have a0 : (0 : Int) ≤ (a : Int) := Int.natCast_nonneg _
  have a1 : (a : Int) < 16 := by omega
  have HWB := Lib.hid hWB
  have HMM := Lib.hid hmb
  have HA := Lib.hid ha
  obtain ⟨⟨aI, cI, hvI, hi1, hi2, hi3⟩, hi4⟩ := id hmb.inp
  obtain ⟨⟨aO, cO, hvO, ho1, ho2, ho3⟩, ho4⟩ := id hmb.out
  obtain ⟨x, hx⟩ : ∃ x, m.R a = x := ⟨_, rfl⟩
  have ya : ∀ q, (WB.drewN q).cell? ⟨g, 2 + a, none⟩ = some (.int .i64 x) := fun q => by rw [← hx, ← mf_reg m V ha]; exact (hmb.drewN q).cell (by omega)
  have fa : ∀ q, (WB.drewN q).frozen? ⟨g, 2 + a, none⟩ = false := fun q => (hmb.drewN q).blk.free _
  have y23 : ∀ q, (WB.drewN q).cell? ⟨g, 23, none⟩ = some (.slice aI m.inp.length cI) := fun q => by rw [← hvI]; exact (hmb.drewN q).cell (by decide)
  have y24 : ∀ q, (WB.drewN q).cell? ⟨g, 24, none⟩ = some (.slice aO m.out.length cO) := fun q => by rw [← hvO]; exact (hmb.drewN q).cell (by decide)
  have f23 : ∀ q, (WB.drewN q).frozen? ⟨g, 23, none⟩ = false := fun q => (hmb.drewN q).blk.free _
  have f24 : ∀ q, (WB.drewN q).frozen? ⟨g, 24, none⟩ = false := fun q => (hmb.drewN q).blk.free _
  have IIN : Hid (IntsIn (RO F g V) WB (.slice aI m.inp.length cI) m.inp) := Lib.hid (by rw [← hvI]; exact hmb.inp)
  have IOUT : Hid (IntsIn (RO F g V) WB (.slice aO m.out.length cO) m.out) := Lib.hid (by rw [← hvO]; exact hmb.out)
  have hgb : g < WB.heap.size := hmb.blk.lt
  obtain ⟨li, hli⟩ : ∃ li, m.inp.length = li := ⟨_, rfl⟩
  obtain ⟨lo, hlo⟩ : ∃ lo, m.out.length = lo := ⟨_, rfl⟩
  rw [hli] at y23 IIN hi1 hi3 hI
  rw [hlo] at y24 IOUT ho1 ho3 hO
  have YA := Lib.hid ya
  have FA := Lib.hid fa
  have Y23 := Lib.hid y23
  have Y24 := Lib.hid y24
  have F23 := Lib.hid f23
  have F24 := Lib.hid f24
  have HX := Lib.hid hx
  have HLI := Lib.hid hli
  have HLO := Lib.hid hlo
  have HI3 := Lib.hid hi3
  have HO3 := Lib.hid ho3
  have li0 : (0 : Int) ≤ (li : Int) := Int.natCast_nonneg _
  have lo0 : (0 : Int) ≤ (lo : Int) := Int.natCast_nonneg _
  have li1 : (li : Int) ≤ 4096 := by omega
  have lo1 : (lo : Int) ≤ 4096 := by omega
  clear h hmb hbox hWB ha hvI hvO hi2 hi3 hi4 ho2 ho3 ho4 hx ya fa y23 y24 f23 f24 hli hlo
  have e : exec m ⟨19, a, b, c, d⟩ = if 4096 ≤ lo then (5, m) else (0, { { m with R := upd m.R a 0 } with out := m.out ++ [x] }) := by
    show writeP m a = _
    unfold writeP
    rw [HLO.out, show m.reg (a : Int) = x from HX.out]
    rfl
  rw [e]
  clear e
  by_cases h0 : 4096 ≤ lo
  · rw [if_pos h0]
    have g1 : decide (4096 ≤ (lo : Int)) = true := decide_eq_true (by omega)
    clear h0
    go_enter Tryd.func54, Tryd.ntmps54
    go_wp2_with fail
    rw [← HWB.out]
    go_quiet (fail)
    have q0 := M0.out nq
    have q2 := Y23.out nq
    have q3 := Y24.out nq
    have q4 := YA.out nq
    have q5 := FA.out nq
    have q6 := F23.out nq
    have q7 := F24.out nq
    have HM2 := Lib.hid (HMM.out.drewN nq)
    have HT2 := Lib.hid (HT.out.drewN nq)
    have hgb2 : g < (WB.drewN nq).heap.size := hgb
    have IN2 : Hid (IntsIn (RO F g V) (WB.drewN nq) (.slice aI li cI) m.inp) := IIN
    have OUT2 : Hid (IntsIn (RO F g V) (WB.drewN nq) (.slice aO lo cO) m.out) := IOUT
    generalize WB.drewN nq = W at *
    go_wp2
    go_ret
    exact exec_done HM2.out HT2.out rfl
  rw [if_neg h0]
  have g1 : decide (4096 ≤ (lo : Int)) = false := decide_eq_false (by omega)
  clear h0
  have HL1 : (lo : Int) ≤ (cO : Int) := by have := IOUT.out.clip.1; omega
  have HL2 := Lib.hid IOUT.out.clip.2.1
  have HL3 := Lib.hid IOUT.out.clip.2.2.1
  go_enter Tryd.func54, Tryd.ntmps54
  go_wp2_with fail
  rw [← HWB.out]
  go_quiet (fail)
  have q0 := M0.out nq
  have q2 := Y23.out nq
  have q3 := Y24.out nq
  have q4 := YA.out nq
  have q5 := FA.out nq
  have q6 := F23.out nq
  have q7 := F24.out nq
  have HM2 := Lib.hid (HMM.out.drewN nq)
  have HT2 := Lib.hid (HT.out.drewN nq)
  have hgb2 : g < (WB.drewN nq).heap.size := hgb
  have IN2 : Hid (IntsIn (RO F g V) (WB.drewN nq) (.slice aI li cI) m.inp) := IIN
  have OUT2 : Hid (IntsIn (RO F g V) (WB.drewN nq) (.slice aO lo cO) m.out) := IOUT
  generalize WB.drewN nq = W at *
  obtain ⟨i0, hi, hz0, hz1, hz2⟩ := info_parts intInfo
  have n2 := cell_lo (drew_alloc W (.cells #[.int .i64 x] 3)) hgb2 q3
  have HOL : Hid (∀ o b, aO = some b → ∀ (j : Nat) u, (intsV m.out)[j]? = some u → (W.drew.alloc o).cell? (b.add j) = some u) := Lib.hid (fun o => (OUT2.out.keep (w' := W.drew.alloc o) (Keep.of_below (drew_alloc W o)) (fun _ h => h)).olds)
  have HDA : Hid (∀ w' o, (W.drew.alloc o).grownBy w' none → Below W.heap.size W w' ∧ W.heap.size ≤ (W.drew.alloc o).heap.size) := Lib.hid (fun w' o h => ⟨(drew_alloc W o).trans ((grown_below h).mono (drew_alloc W o).size), (drew_alloc W o).size⟩)
  go_wp2
  go_region_law (first
    | (go_simp; refine (clip_any aO lo cO _ (by omega) HL2.out HL3.out).mono ?_; rintro e w' ⟨rfl, rfl⟩)
    | (refine step_append_grows rfl (.tmp 119) (.tmp 123) 26 rfl 3 i0 (.int .i64 0) 1 8 Tryd.underlying26 hi hz0 hz1 hz2 rfl (by decide) aO lo lo (intsV m.out) (by simp [Act.eval]) (fun h => by have := HL3.out h; omega) (by rw [intsV_len, HLO.out, Nat.mul_one]) (HOL.out _) ⟨W.heap.size, 0, none⟩ 1 1 [.int .i64 x] (by simp [Act.eval]) rfl (one_cell W.drew _ _) (by intro u hu; simp at hu; subst hu; rfl) (by omega) (by unfold maxLen; omega) (by omega) ?_
       intro v' w' hown hgrow
       obtain ⟨hbel, hbs⟩ := HDA.out _ _ hgrow
       have hown' := Lib.hid hown
       obtain ⟨ao', cp', hv'⟩ := own_form hown
       subst hv'
       have z6 : w'.frozen? ⟨g, 24, none⟩ = false := (hbel.frozen (p := ⟨g, 24, none⟩) hgb2).trans q7
       have z3 := cell_lo hbel hgb2 q3
       have hbk := (HM2.out.below hbel).blk.set 24 (.slice ao' (lo + 1) cp')
       have r4 : (w'.setCell ⟨g, 24, none⟩ (.slice ao' (lo + 1) cp')).cell? ⟨g, 2 + a, none⟩ = some (.int .i64 x) := (hbk.cell (2 + a)).trans (by rw [Array.getElem?_setIfInBounds_ne (by have := HA.out; omega), mcs_get m V (by have := HA.out; omega), mf_reg m V HA.out, HX.out])
       have r5 := hbk.free (2 + a)
       have HBEL := Lib.hid hbel
       clear hown hgrow hbel hbk))
  all_goals go_wp2
  all_goals go_ret
  all_goals exact out_done HM2.out HT2.out HBEL.out (by rw [List.length_append, HLO.out, intsV_snoc]; exact hown'.out) hbs HA.out rfl

end Go.Proofs.YtichiccohmeecaaDoor
