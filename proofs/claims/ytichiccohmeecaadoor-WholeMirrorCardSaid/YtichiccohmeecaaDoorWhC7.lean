/- The walk of transfer: read and unwrite. -/
import Derived.Test.YtichiccohmeecaaDoorWhC5
namespace Go.Proofs.YtichiccohmeecaaDoor
open Go.RowKit

set_option maxRecDepth 100000 in
set_option maxHeartbeats 8000000 in
theorem transfer_17 (F : Nat → Prop) (g : Nat) (m : Mach) (V : MV) (w : World) (h : MachW F w g m V) (a : Nat) (b c d : Int) (ha : a < 16) (hI : m.inp.length ≤ 4096) (hO : m.out.length ≤ 4096) :
    Calls Tryd.prog 54 #[.pointer (some ⟨g, 0, none⟩), .agg #[.int .u8 17, .int .i64 (a : Int), .int .i64 b, .int .i64 c, .int .i64 d]] w (ExecR F w g (exec m ⟨17, a, b, c, d⟩)) := by
  have hg := h.blk.lt
  obtain ⟨WB, hWB⟩ : ∃ WB, WB = w.alloc (.cells #[.int .u8 17, .int .i64 (a : Int), .int .i64 b, .int .i64 c, .int .i64 d] 45) := ⟨_, rfl⟩
  have hbox : Blk WB w.heap.size 45 #[.int .u8 17, .int .i64 (a : Int), .int .i64 b, .int .i64 c, .int .i64 d] := by rw [hWB]; exact Blk.new _ _ _
  have hmb : MachW F WB g m V := by rw [hWB]; exact h.al _
  have HT : Hid (Touch F w WB) := Lib.hid (by rw [hWB]; exact (Touch.refl F w).alloc _)
  have m1 : WB.cell? ⟨w.heap.size, 1, none⟩ = some (.int .i64 a) := hbox.cell 1
  have M0 : Hid (∀ q, (WB.drewN q).cell? ⟨w.heap.size, 0, none⟩ = some (.int .u8 17)) := Lib.hid (fun _ => hbox.cell 0)
  have a0 : (0 : Int) ≤ (a : Int) := Int.natCast_nonneg _
  have a1 : (a : Int) < 16 := by omega
  have HWB := Lib.hid hWB
  have HMM := Lib.hid hmb
  have HA := Lib.hid ha
  obtain ⟨⟨aI, cI, hvI, hi1, hi2, hi3⟩, hi4⟩ := id hmb.inp
  obtain ⟨⟨aO, cO, hvO, ho1, ho2, ho3⟩, ho4⟩ := id hmb.out
  obtain ⟨x, hx⟩ : ∃ x, m.R a = x := ⟨_, rfl⟩
  have ya : ∀ q, (WB.drewN q).cell? ⟨g, 2 + a, none⟩ = some (.int .i64 x) := fun q => by rw [← hx, ← mf_reg m V ha]; exact (hmb.drewN q).cell (by omega)
  have fa : ∀ q, (WB.drewN q).frozen? ⟨g, 2 + a, none⟩ = false := fun q => (hmb.drewN q).blk.free _
  have y23 : ∀ q, (WB.drewN q).cell? ⟨g, 23, none⟩ = some (.slice aI m.inp.length cI) := fun q => by rw [← hvI]; exact (hmb.drewN q).cell (by decide)
  have y24 : ∀ q, (WB.drewN q).cell? ⟨g, 24, none⟩ = some (.slice aO m.out.length cO) := fun q => by rw [← hvO]; exact (hmb.drewN q).cell (by decide)
  have f23 : ∀ q, (WB.drewN q).frozen? ⟨g, 23, none⟩ = false := fun q => (hmb.drewN q).blk.free _
  have f24 : ∀ q, (WB.drewN q).frozen? ⟨g, 24, none⟩ = false := fun q => (hmb.drewN q).blk.free _
  have IIN : Hid (IntsIn (RO F g V) WB (.slice aI m.inp.length cI) m.inp) := Lib.hid (by rw [← hvI]; exact hmb.inp)
  have IOUT : Hid (IntsIn (RO F g V) WB (.slice aO m.out.length cO) m.out) := Lib.hid (by rw [← hvO]; exact hmb.out)
  have hgb : g < WB.heap.size := hmb.blk.lt
  obtain ⟨li, hli⟩ : ∃ li, m.inp.length = li := ⟨_, rfl⟩
  obtain ⟨lo, hlo⟩ : ∃ lo, m.out.length = lo := ⟨_, rfl⟩
  rw [hli] at y23 IIN hi1 hi3 hI
  rw [hlo] at y24 IOUT ho1 ho3 hO
  have YA := Lib.hid ya
  have FA := Lib.hid fa
  have Y23 := Lib.hid y23
  have Y24 := Lib.hid y24
  have F23 := Lib.hid f23
  have F24 := Lib.hid f24
  have HX := Lib.hid hx
  have HLI := Lib.hid hli
  have HLO := Lib.hid hlo
  have HI3 := Lib.hid hi3
  have HO3 := Lib.hid ho3
  have li0 : (0 : Int) ≤ (li : Int) := Int.natCast_nonneg _
  have lo0 : (0 : Int) ≤ (lo : Int) := Int.natCast_nonneg _
  have li1 : (li : Int) ≤ 4096 := by omega
  have lo1 : (lo : Int) ≤ 4096 := by omega
  clear h hmb hbox hWB ha hvI hvO hi2 hi3 hi4 ho2 ho3 ho4 hx ya fa y23 y24 f23 f24 hli hlo
  have e : exec m ⟨17, a, b, c, d⟩ = if li = 0 then (17, m) else if x ≠ 0 then (14, m) else (0, { { m with R := upd m.R a (m.inp.getD 0 0) } with inp := m.inp.drop 1 }) := by
    show readP m a = _
    unfold readP
    rw [HLI.out, show m.reg (a : Int) = x from HX.out]
    rfl
  rw [e]
  clear e
  by_cases h0 : li = 0
  · rw [if_pos h0]
    subst h0
    go_enter Tryd.func54, Tryd.ntmps54
    go_wp2_with fail
    rw [← HWB.out]
    go_quiet (fail)
    have q0 := M0.out nq
    have q2 := Y23.out nq
    have q3 := Y24.out nq
    have q4 := YA.out nq
    have q5 := FA.out nq
    have q6 := F23.out nq
    have q7 := F24.out nq
    have HM2 := Lib.hid (HMM.out.drewN nq)
    have HT2 := Lib.hid (HT.out.drewN nq)
    have hgb2 : g < (WB.drewN nq).heap.size := hgb
    have IN2 : Hid (IntsIn (RO F g V) (WB.drewN nq) (.slice aI 0 cI) m.inp) := IIN
    have OUT2 : Hid (IntsIn (RO F g V) (WB.drewN nq) (.slice aO lo cO) m.out) := IOUT
    generalize WB.drewN nq = W at *
    go_wp2
    go_ret
    exact exec_done HM2.out HT2.out rfl
  rw [if_neg h0]
  have hl1 : ((li : Int) == 0) = false := by simpa using h0
  by_cases hx0 : x = 0
  rotate_left
  · rw [if_pos hx0]
    have e1 : (x != 0) = true := by simpa using hx0
    clear hx0 h0
    go_enter Tryd.func54, Tryd.ntmps54
    go_wp2_with fail
    rw [← HWB.out]
    go_quiet (fail)
    have q0 := M0.out nq
    have q2 := Y23.out nq
    have q3 := Y24.out nq
    have q4 := YA.out nq
    have q5 := FA.out nq
    have q6 := F23.out nq
    have q7 := F24.out nq
    have HM2 := Lib.hid (HMM.out.drewN nq)
    have HT2 := Lib.hid (HT.out.drewN nq)
    have hgb2 : g < (WB.drewN nq).heap.size := hgb
    have IN2 : Hid (IntsIn (RO F g V) (WB.drewN nq) (.slice aI li cI) m.inp) := IIN
    have OUT2 : Hid (IntsIn (RO F g V) (WB.drewN nq) (.slice aO lo cO) m.out) := IOUT
    generalize WB.drewN nq = W at *
    go_wp2
    go_ret
    exact exec_done HM2.out HT2.out rfl
  rw [if_neg (by simpa using hx0)]
  subst hx0
  obtain ⟨hh, oo, rfl, hhl, _, hc⟩ := HI3.out (by omega)
  obtain ⟨z, hz⟩ : ∃ z, m.inp.getD 0 0 = z := ⟨_, rfl⟩
  have yz : WB.cell? ⟨hh, oo, none⟩ = some (.int .i64 z) := by
    have := hc 0 z (by rw [← hz, List.getD_eq_getElem?_getD, List.getElem?_eq_getElem (by rw [HLI.out]; omega)]; rfl)
    exact this
  rw [hz]
  have HNE : g ≠ hh := fun e => by
    obtain ⟨⟨a', c', he, _, _, h3⟩, _⟩ := IIN.out
    injection he with e1 e2 e3
    obtain ⟨g', o', e', _, q1, _⟩ := h3 (by rw [HLI.out]; omega)
    rw [← e1] at e'
    injection e' with e'
    injection e' with e1' e2'
    exact q1.2.1 (by rw [← e1', e])
  have HNE' := Ne.symm HNE
  have HL : 1 ≤ (li : Int) := by omega
  have HLc : (li : Int) ≤ (cI : Int) := by omega
  clear hc hz h0
  by_cases hc1 : cI = 1
  · have hli1 : li = 1 := by omega
    subst hc1 hli1
    go_enter Tryd.func54, Tryd.ntmps54
    go_wp2_with fail
    rw [← HWB.out]
    go_quiet (fail)
    have q0 := M0.out nq
    have q2 := Y23.out nq
    have q3 := Y24.out nq
    have q4 := YA.out nq
    have q5 := FA.out nq
    have q6 := F23.out nq
    have q7 := F24.out nq
    have HM2 := Lib.hid (HMM.out.drewN nq)
    have HT2 := Lib.hid (HT.out.drewN nq)
    have q8 : (WB.drewN nq).cell? ⟨hh, oo, none⟩ = some (.int .i64 z) := yz
    have hgb2 : g < (WB.drewN nq).heap.size := hgb
    have IN2 : Hid (IntsIn (RO F g V) (WB.drewN nq) (.slice (some ⟨hh, oo, none⟩) 1 1) m.inp) := IIN
    have OUT2 : Hid (IntsIn (RO F g V) (WB.drewN nq) (.slice aO lo cO) m.out) := IOUT
    generalize WB.drewN nq = W at *
    have HMR := Lib.hid (HM2.out.reg HA.out z)
    have q9 : (W.setCell ⟨g, 2 + a, none⟩ (.int .i64 z)).cell? ⟨g, 23, none⟩ = some (.slice (some ⟨hh, oo, none⟩) 1 1) := (HMR.out.cell (j := 23) (by decide)).trans ((HM2.out.cell (j := 23) (by decide)).symm.trans q2)
    go_wp2
    go_region
    go_wp2
    go_ret
    exact exec_done ((HMR.out.input _ _ ((IN2.out.set_far RO.not_self _ _).tail (by omega) (.inl rfl))).drew) (((HT2.out.of_set (.inl HM2.out.own) _ _).of_set (.inl HM2.out.own) _ _).drew) rfl
  · have hcc : (1 : Int) < (cI : Int) := by omega
    go_enter Tryd.func54, Tryd.ntmps54
    go_wp2_with fail
    rw [← HWB.out]
    go_quiet (fail)
    have q0 := M0.out nq
    have q2 := Y23.out nq
    have q3 := Y24.out nq
    have q4 := YA.out nq
    have q5 := FA.out nq
    have q6 := F23.out nq
    have q7 := F24.out nq
    have HM2 := Lib.hid (HMM.out.drewN nq)
    have HT2 := Lib.hid (HT.out.drewN nq)
    have q8 : (WB.drewN nq).cell? ⟨hh, oo, none⟩ = some (.int .i64 z) := yz
    have hgb2 : g < (WB.drewN nq).heap.size := hgb
    have IN2 : Hid (IntsIn (RO F g V) (WB.drewN nq) (.slice (some ⟨hh, oo, none⟩) li cI) m.inp) := IIN
    have OUT2 : Hid (IntsIn (RO F g V) (WB.drewN nq) (.slice aO lo cO) m.out) := IOUT
    generalize WB.drewN nq = W at *
    have HMR := Lib.hid (HM2.out.reg HA.out z)
    have q9 : (W.setCell ⟨g, 2 + a, none⟩ (.int .i64 z)).cell? ⟨g, 23, none⟩ = some (.slice (some ⟨hh, oo, none⟩) li cI) := (HMR.out.cell (j := 23) (by decide)).trans ((HM2.out.cell (j := 23) (by decide)).symm.trans q2)
    go_wp2
    go_region
    go_wp2
    go_ret
    exact exec_done ((HMR.out.input _ _ ((IN2.out.set_far RO.not_self _ _).tail (by omega) (.inr rfl))).drew) (((HT2.out.of_set (.inl HM2.out.own) _ _).of_set (.inl HM2.out.own) _ _).drew) rfl

set_option maxRecDepth 100000 in
set_option maxHeartbeats 8000000 in
theorem transfer_20 (F : Nat → Prop) (g : Nat) (m : Mach) (V : MV) (w : World) (h : MachW F w g m V) (a : Nat) (b c d : Int) (ha : a < 16) (hI : m.inp.length ≤ 4096) (hO : m.out.length ≤ 4096) :
    Calls Tryd.prog 54 #[.pointer (some ⟨g, 0, none⟩), .agg #[.int .u8 20, .int .i64 (a : Int), .int .i64 b, .int .i64 c, .int .i64 d]] w (ExecR F w g (exec m ⟨20, a, b, c, d⟩)) := by
  have hg := h.blk.lt
  obtain ⟨WB, hWB⟩ : ∃ WB, WB = w.alloc (.cells #[.int .u8 20, .int .i64 (a : Int), .int .i64 b, .int .i64 c, .int .i64 d] 45) := ⟨_, rfl⟩
  have hbox : Blk WB w.heap.size 45 #[.int .u8 20, .int .i64 (a : Int), .int .i64 b, .int .i64 c, .int .i64 d] := by rw [hWB]; exact Blk.new _ _ _
  have hmb : MachW F WB g m V := by rw [hWB]; exact h.al _
  have HT : Hid (Touch F w WB) := Lib.hid (by rw [hWB]; exact (Touch.refl F w).alloc _)
  have m1 : WB.cell? ⟨w.heap.size, 1, none⟩ = some (.int .i64 a) := hbox.cell 1
  have M0 : Hid (∀ q, (WB.drewN q).cell? ⟨w.heap.size, 0, none⟩ = some (.int .u8 20)) := Lib.hid (fun _ => hbox.cell 0)
  have a0 : (0 : Int) ≤ (a : Int) := Int.natCast_nonneg _
  have a1 : (a : Int) < 16 := by omega
  have HWB := Lib.hid hWB
  have HMM := Lib.hid hmb
  have HA := Lib.hid ha
  obtain ⟨⟨aI, cI, hvI, hi1, hi2, hi3⟩, hi4⟩ := id hmb.inp
  obtain ⟨⟨aO, cO, hvO, ho1, ho2, ho3⟩, ho4⟩ := id hmb.out
  obtain ⟨x, hx⟩ : ∃ x, m.R a = x := ⟨_, rfl⟩
  have ya : ∀ q, (WB.drewN q).cell? ⟨g, 2 + a, none⟩ = some (.int .i64 x) := fun q => by rw [← hx, ← mf_reg m V ha]; exact (hmb.drewN q).cell (by omega)
  have fa : ∀ q, (WB.drewN q).frozen? ⟨g, 2 + a, none⟩ = false := fun q => (hmb.drewN q).blk.free _
  have y23 : ∀ q, (WB.drewN q).cell? ⟨g, 23, none⟩ = some (.slice aI m.inp.length cI) := fun q => by rw [← hvI]; exact (hmb.drewN q).cell (by decide)
  have y24 : ∀ q, (WB.drewN q).cell? ⟨g, 24, none⟩ = some (.slice aO m.out.length cO) := fun q => by rw [← hvO]; exact (hmb.drewN q).cell (by decide)
  have f23 : ∀ q, (WB.drewN q).frozen? ⟨g, 23, none⟩ = false := fun q => (hmb.drewN q).blk.free _
  have f24 : ∀ q, (WB.drewN q).frozen? ⟨g, 24, none⟩ = false := fun q => (hmb.drewN q).blk.free _
  have IIN : Hid (IntsIn (RO F g V) WB (.slice aI m.inp.length cI) m.inp) := Lib.hid (by rw [← hvI]; exact hmb.inp)
  have IOUT : Hid (IntsIn (RO F g V) WB (.slice aO m.out.length cO) m.out) := Lib.hid (by rw [← hvO]; exact hmb.out)
  have hgb : g < WB.heap.size := hmb.blk.lt
  obtain ⟨li, hli⟩ : ∃ li, m.inp.length = li := ⟨_, rfl⟩
  obtain ⟨lo, hlo⟩ : ∃ lo, m.out.length = lo := ⟨_, rfl⟩
  rw [hli] at y23 IIN hi1 hi3 hI
  rw [hlo] at y24 IOUT ho1 ho3 hO
  have YA := Lib.hid ya
  have FA := Lib.hid fa
  have Y23 := Lib.hid y23
  have Y24 := Lib.hid y24
  have F23 := Lib.hid f23
  have F24 := Lib.hid f24
  have HX := Lib.hid hx
  have HLI := Lib.hid hli
  have HLO := Lib.hid hlo
  have HI3 := Lib.hid hi3
  have HO3 := Lib.hid ho3
  have li0 : (0 : Int) ≤ (li : Int) := Int.natCast_nonneg _
  have lo0 : (0 : Int) ≤ (lo : Int) := Int.natCast_nonneg _
  have li1 : (li : Int) ≤ 4096 := by omega
  have lo1 : (lo : Int) ≤ 4096 := by omega
  clear h hmb hbox hWB ha hvI hvO hi2 hi3 hi4 ho2 ho3 ho4 hx ya fa y23 y24 f23 f24 hli hlo
  have e : exec m ⟨20, a, b, c, d⟩ = if lo = 0 then (17, m) else if x ≠ 0 then (14, m) else (0, { { m with R := upd m.R a (lastD m.out) } with out := m.out.take (lo - 1) }) := by
    show unwriteP m a = _
    unfold unwriteP
    rw [HLO.out, show m.reg (a : Int) = x from HX.out]
    rfl
  rw [e]
  clear e
  by_cases h0 : lo = 0
  · rw [if_pos h0]
    subst h0
    go_enter Tryd.func54, Tryd.ntmps54
    go_wp2_with fail
    rw [← HWB.out]
    go_quiet (fail)
    have q0 := M0.out nq
    have q2 := Y23.out nq
    have q3 := Y24.out nq
    have q4 := YA.out nq
    have q5 := FA.out nq
    have q6 := F23.out nq
    have q7 := F24.out nq
    have HM2 := Lib.hid (HMM.out.drewN nq)
    have HT2 := Lib.hid (HT.out.drewN nq)
    have hgb2 : g < (WB.drewN nq).heap.size := hgb
    have IN2 : Hid (IntsIn (RO F g V) (WB.drewN nq) (.slice aI li cI) m.inp) := IIN
    have OUT2 : Hid (IntsIn (RO F g V) (WB.drewN nq) (.slice aO 0 cO) m.out) := IOUT
    generalize WB.drewN nq = W at *
    go_wp2
    go_ret
    exact exec_done HM2.out HT2.out rfl
  rw [if_neg h0]
  obtain ⟨j, hj⟩ : ∃ j, lo - 1 = j := ⟨_, rfl⟩
  rw [hj]
  have ej : (lo : Int) - 1 = (j : Int) := by omega
  have j0 : (0 : Int) ≤ (j : Int) := Int.natCast_nonneg _
  have j1 : (j : Int) < (lo : Int) := by omega
  have jn : ¬ (j : Int) < 0 := by omega
  by_cases hx0 : x = 0
  rotate_left
  · rw [if_pos hx0]
    have e1 : (x != 0) = true := by simpa using hx0
    clear hx0 h0 hj
    go_enter Tryd.func54, Tryd.ntmps54
    go_wp2_with fail
    rw [← HWB.out]
    go_quiet (fail)
    have q0 := M0.out nq
    have q2 := Y23.out nq
    have q3 := Y24.out nq
    have q4 := YA.out nq
    have q5 := FA.out nq
    have q6 := F23.out nq
    have q7 := F24.out nq
    have HM2 := Lib.hid (HMM.out.drewN nq)
    have HT2 := Lib.hid (HT.out.drewN nq)
    have hgb2 : g < (WB.drewN nq).heap.size := hgb
    have IN2 : Hid (IntsIn (RO F g V) (WB.drewN nq) (.slice aI li cI) m.inp) := IIN
    have OUT2 : Hid (IntsIn (RO F g V) (WB.drewN nq) (.slice aO lo cO) m.out) := IOUT
    generalize WB.drewN nq = W at *
    go_wp2
    go_ret
    exact exec_done HM2.out HT2.out rfl
  rw [if_neg (by simpa using hx0)]
  subst hx0
  obtain ⟨hh, oo, rfl, hhl, _, hc⟩ := HO3.out (by omega)
  obtain ⟨z, hz⟩ : ∃ z, lastD m.out = z := ⟨_, rfl⟩
  have yz : WB.cell? ⟨hh, oo + j, none⟩ = some (.int .i64 z) := hc j z (by
    rw [← hz]
    unfold lastD
    rw [List.getD_eq_getElem?_getD, HLO.out, hj, List.getElem?_eq_getElem (by rw [HLO.out]; omega)]
    rfl)
  rw [hz]
  have HLc : (lo : Int) ≤ (cO : Int) := by omega
  have HJc : (j : Int) ≤ (cO : Int) := by omega
  clear hc hz h0 hj
  go_enter Tryd.func54, Tryd.ntmps54
  go_wp2_with fail
  rw [← HWB.out]
  go_quiet (fail)
  have q0 := M0.out nq
  have q2 := Y23.out nq
  have q3 := Y24.out nq
  have q4 := YA.out nq
  have q5 := FA.out nq
  have q6 := F23.out nq
  have q7 := F24.out nq
  have HM2 := Lib.hid (HMM.out.drewN nq)
  have HT2 := Lib.hid (HT.out.drewN nq)
  have q8 : (WB.drewN nq).cell? ⟨hh, oo + j, none⟩ = some (.int .i64 z) := yz
  have hgb2 : g < (WB.drewN nq).heap.size := hgb
  have IN2 : Hid (IntsIn (RO F g V) (WB.drewN nq) (.slice aI li cI) m.inp) := IIN
  have OUT2 : Hid (IntsIn (RO F g V) (WB.drewN nq) (.slice (some ⟨hh, oo, none⟩) lo cO) m.out) := IOUT
  generalize WB.drewN nq = W at *
  have HMR := Lib.hid (HM2.out.reg HA.out z)
  have q9 : (W.setCell ⟨g, 2 + a, none⟩ (.int .i64 z)).cell? ⟨g, 24, none⟩ = some (.slice (some ⟨hh, oo, none⟩) lo cO) := (HMR.out.cell (j := 24) (by decide)).trans ((HM2.out.cell (j := 24) (by decide)).symm.trans q3)
  go_wp2
  go_region
  go_wp2
  go_ret
  exact exec_done ((HMR.out.output _ _ ((OUT2.out.set_far RO.not_self _ _).trim (by omega))).drew) (((HT2.out.of_set (.inl HM2.out.own) _ _).of_set (.inl HM2.out.own) _ _).drew) rfl

end Go.Proofs.YtichiccohmeecaaDoor
