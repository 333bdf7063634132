/- The walk of stack: push. -/
import Derived.Test.YtichiccohmeecaaDoorWhC4
namespace Go.Proofs.YtichiccohmeecaaDoor
open Go.RowKit

set_option maxRecDepth 100000 in
set_option maxHeartbeats 8000000 in
theorem stack_12 (F : Nat → Prop) (g : Nat) (m : Mach) (V : MV) (w : World) (h : MachW F w g m V) (a : Nat) (b c d : Int) (ha : a < 16) (hb0 : 0 ≤ b) (hb1 : b ≤ 16384) (hs0 : 0 ≤ m.sb) (hs1 : m.sb ≤ 16384) (hl : m.S.length ≤ 16384) (hL : ∀ s ∈ m.S, s.length ≤ 1000000) :
    Calls Tryd.prog 53 #[.pointer (some ⟨g, 0, none⟩), .agg #[.int .u8 12, .int .i64 (a : Int), .int .i64 b, .int .i64 c, .int .i64 d]] w (ExecR F w g (stackP m ⟨12, a, b, c, d⟩)) := by
  have hg := h.blk.lt
  obtain ⟨WB, hWB⟩ : ∃ WB, WB = w.alloc (.cells #[.int .u8 12, .int .i64 (a : Int), .int .i64 b, .int .i64 c, .int .i64 d] 45) := ⟨_, rfl⟩
  have hbox : Blk WB w.heap.size 45 #[.int .u8 12, .int .i64 (a : Int), .int .i64 b, .int .i64 c, .int .i64 d] := by rw [hWB]; exact Blk.new _ _ _
  have hmb : MachW F WB g m V := by rw [hWB]; exact h.al _
  have HT : Hid (Touch F w WB) := Lib.hid (by rw [hWB]; exact (Touch.refl F w).alloc _)
  have HM := Lib.hid hmb
  have hbel : Below w.heap.size w WB := by rw [hWB]; exact below_alloc _ _
  have m0 : ∀ q, (WB.drewN q).cell? ⟨w.heap.size, 0, none⟩ = some (.int .u8 12) := fun _ => hbox.cell 0
  have m1 : ∀ q, (WB.drewN q).cell? ⟨w.heap.size, 1, none⟩ = some (.int .i64 a) := fun _ => hbox.cell 1
  have m2 : WB.cell? ⟨w.heap.size, 2, none⟩ = some (.int .i64 b) := hbox.cell 2
  have M0 := Lib.hid m0
  have M1 := Lib.hid m1
  have HF := Lib.hid (find_any F g m V WB hmb b hb0 hb1 hs0 hs1 hl)
  have hx0 := (find_pos hb0 hs0).1
  have a0 : (0 : Int) ≤ (a : Int) := Int.natCast_nonneg _
  have a1 : (a : Int) < 16 := by omega
  have ef : find m (⟨12, (a : Int), b, c, d⟩ : Ins).b = find m b := rfl
  have HWB := Lib.hid hWB
  clear m0 m1 hWB
  unfold stackP
  rw [ef]
  clear ef
  generalize find m b = y at *
  dsimp only
  by_cases h1 : (m.S.length : Int) ≤ y
  · rw [if_pos h1]
    rw [show decide (y < (m.S.length : Int)) = false from decide_eq_false (by omega)] at HF
    clear h hmb hbel hbox hx0 h1 hb0 hb1 hs0 hs1 hl hL
    go_enter Tryd.func53, Tryd.ntmps53
    go_wp2_with fail
    rw [← HWB.out]
    refine HF.out.mono ?_
    rintro e w1 ⟨rfl, q, rfl⟩
    go_wp2
    go_ret
    exact exec_done (HM.out.drewN _) (HT.out.drewN _) rfl
  rw [if_neg h1]
  rw [show decide (y < (m.S.length : Int)) = true from decide_eq_true (by omega)] at HF
  obtain ⟨i, rfl⟩ := Int.eq_ofNat_of_zero_le hx0
  have hi : i < m.S.length := by omega
  obtain ⟨gS, cS, aL, cL, hstk⟩ := stk_at hmb hi
  have hln : (m.S.getD i []).length ≤ 1000000 := hL _ (stk_mem hi)
  rw [stk_nat, Int.toNat_natCast]
  have HS : Hid (∀ q, StkAt F g m V (WB.drewN q) gS cS i aL cL) := Lib.hid (fun q => hstk.keep (by exact ⟨rfl, rfl, rfl, Nat.le_refl _, fun _ _ => rfl⟩))
  obtain ⟨L, hLL⟩ : ∃ L, m.S.getD i [] = L := ⟨_, rfl⟩
  rw [hLL] at hln ⊢
  have er : m.reg (a : Int) = m.R a := rfl
  rw [er]
  have HLL := Lib.hid hLL
  have HA := Lib.hid ha
  obtain ⟨x, hx⟩ : ∃ x, m.R a = x := ⟨_, rfl⟩
  rw [hx]
  have ya : ∀ q, (WB.drewN q).cell? ⟨g, 2 + a, none⟩ = some (.int .i64 x) := fun q => by rw [← hx, ← mf_reg m V ha]; exact (hmb.drewN q).cell (by omega)
  have fa : ∀ q, (WB.drewN q).frozen? ⟨g, 2 + a, none⟩ = false := fun q => (hmb.drewN q).blk.free _
  have y19 : ∀ q, (WB.drewN q).cell? ⟨g, 19, none⟩ = some (.slice (some ⟨gS, 0, none⟩) m.S.length cS) := fun q => by rw [← hstk.vS]; exact (hmb.drewN q).cell (by decide)
  have yk : ∀ q, (WB.drewN q).cell? ⟨gS, i, none⟩ = some (.slice aL L.length cL) := fun q => by rw [← hLL]; exact hstk.cell
  have fk : ∀ q, (WB.drewN q).frozen? ⟨gS, i, none⟩ = false := fun q => hstk.free
  have hcm := hstk.max
  have hcl := hstk.len
  have hne := hstk.ne
  have hne' := Ne.symm hne
  have YA := Lib.hid ya
  have FA := Lib.hid fa
  have Y19 := Lib.hid y19
  have YK := Lib.hid yk
  have FK := Lib.hid fk
  have hgb : g < WB.heap.size := hmb.blk.lt
  have hgs : gS < WB.heap.size := World.block_lt_of_cell? WB _ (yk 0)
  obtain ⟨n, hn⟩ : ∃ n, m.S.length = n := ⟨_, rfl⟩
  obtain ⟨ln, hlen⟩ : ∃ ln, L.length = ln := ⟨_, rfl⟩
  rw [hn] at Y19 hi hcl
  rw [hlen] at YK hln
  have HLN := Lib.hid hlen
  have i0 : (0 : Int) ≤ (i : Int) := Int.natCast_nonneg _
  have i1 : (i : Int) < (n : Int) := by omega
  have l0 : (0 : Int) ≤ (ln : Int) := Int.natCast_nonneg _
  have l1 : (ln : Int) ≤ 1000000 := by omega
  have hn63 : n ≤ 9223372036854775807 := by unfold maxLen at hcm; omega
  have HX := Lib.hid hx
  have HMM := Lib.hid hmb
  clear h hmb hbel hbox hx0 h1 hb0 hb1 hs0 hs1 hl hL hstk er hx ya fa y19 yk fk hLL hn hlen ha hcm
  rw [if_neg (by decide), if_pos rfl]
  obtain ⟨R, hR⟩ : ∃ R, (if (i : Int) ≠ 0 ∧ 1000 ≤ L.length then ((5 : Int), m) else (0, { m.put ((⟨12, (a : Int), b, c, d⟩ : Ins).a) 0 with S := m.S.set i (L ++ [x]) })) = R := ⟨_, rfl⟩
  rw [hR]
  have hL0 : ln ≤ cL ∧ cL ≤ maxLen ∧ (aL = none → cL = 0) ∧ (∀ q, IntsIn (RO F g V) (WB.drewN q) (.slice aL ln cL) L) := by
    have hI := (HS.out 0).ints
    rw [HLL.out, HLN.out] at hI
    exact ⟨hI.clip.1, hI.clip.2.1, hI.clip.2.2.1, fun q => hI.keep (Keep.of_below ⟨rfl, rfl, rfl, Nat.le_refl _, fun _ _ => rfl⟩) (fun _ h => h)⟩
  obtain ⟨hL1, hL2, hL3, hL4⟩ := hL0
  have HL4 := Lib.hid hL4
  have HL3 := Lib.hid hL3
  have HL2 := Lib.hid hL2
  have hL1' : (ln : Int) ≤ (cL : Int) := by omega
  have HL1 := Lib.hid hL1
  clear hL1 hL2 hL3 hL4
  by_cases hf : i ≠ 0 ∧ 1000 ≤ ln
  · have e : R = (5, m) := by rw [← hR, if_pos (by rw [HLN.out]; omega)]
    rw [e]
    obtain ⟨hf1, hf2⟩ := hf
    have g1 : ((i : Int) != 0) = true := by simpa using hf1
    have g2 : decide (1000 ≤ (ln : Int)) = true := decide_eq_true (by omega)
    clear hR e hf1 hf2
    go_enter Tryd.func53, Tryd.ntmps53
    go_wp2_with fail
    rw [← HWB.out]
    refine HF.out.mono ?_
    rintro e w1 ⟨rfl, q, rfl⟩
    have q0 := M0.out q
    have q1 := M1.out q
    have q2 := Y19.out q
    have q3 := YK.out q
    have q4 := YA.out q
    have q5 := FA.out q
    have q6 := FK.out q
    have HM2 := Lib.hid (HMM.out.drewN q)
    have HT2 := Lib.hid (HT.out.drewN q)
    have hgb2 : g < (WB.drewN q).heap.size := hgb
    have hgs2 : gS < (WB.drewN q).heap.size := hgs
    have HS2 := Lib.hid (HS.out q)
    generalize WB.drewN q = W1 at *
    go_wp2
    go_quiet (fail)
    have q0 := dcell q0 nq
    have q1 := dcell q1 nq
    have q2 := dcell q2 nq
    have q3 := dcell q3 nq
    have q4 := dcell q4 nq
    have q5 := dfroz q5 nq
    have q6 := dfroz q6 nq
    have HM2 := Lib.hid (HM2.out.drewN nq)
    have HT2 := Lib.hid (HT2.out.drewN nq)
    have hgb2 : g < (W1.drewN nq).heap.size := hgb2
    have hgs2 : gS < (W1.drewN nq).heap.size := hgs2
    have HS2 := Lib.hid (HS2.out.keep (Below.drewN_self _ nq))
    generalize W1.drewN nq = W at *
    go_wp2
    go_ret
    exact exec_done HM2.out HT2.out rfl
  have e : R = (0, { { m with R := upd m.R a 0 } with S := m.S.set i (L ++ [x]) }) := by rw [← hR, if_neg (by rw [HLN.out]; omega)]; rfl
  rw [e]
  clear hR e
  by_cases hi0 : i = 0
  · subst hi0
    clear hf
    go_enter Tryd.func53, Tryd.ntmps53
    go_wp2_with fail
    rw [← HWB.out]
    refine HF.out.mono ?_
    rintro e w1 ⟨rfl, q, rfl⟩
    have q0 := M0.out q
    have q1 := M1.out q
    have q2 := Y19.out q
    have q3 := YK.out q
    have q4 := YA.out q
    have q5 := FA.out q
    have q6 := FK.out q
    have HM2 := Lib.hid (HMM.out.drewN q)
    have HT2 := Lib.hid (HT.out.drewN q)
    have HI2 := Lib.hid (HL4.out q)
    have hgb2 : g < (WB.drewN q).heap.size := hgb
    have hgs2 : gS < (WB.drewN q).heap.size := hgs
    have HS2 := Lib.hid (HS.out q)
    generalize WB.drewN q = W1 at *
    go_wp2
    go_quiet (fail)
    have q0 := dcell q0 nq
    have q1 := dcell q1 nq
    have q2 := dcell q2 nq
    have q3 := dcell q3 nq
    have q4 := dcell q4 nq
    have q5 := dfroz q5 nq
    have q6 := dfroz q6 nq
    have HM2 := Lib.hid (HM2.out.drewN nq)
    have HT2 := Lib.hid (HT2.out.drewN nq)
    have HI2 := Lib.hid (HI2.out.keep (Keep.of_below (Below.drewN_self _ nq)) (fun _ h => h))
    have hgb2 : g < (W1.drewN nq).heap.size := hgb2
    have hgs2 : gS < (W1.drewN nq).heap.size := hgs2
    have HS2 := Lib.hid (HS2.out.keep (Below.drewN_self _ nq))
    generalize W1.drewN nq = W at *
    go_wp2
    obtain ⟨i0, hi, hz0, hz1, hz2⟩ := info_parts intInfo
    have HOL : Hid (∀ o b, aL = some b → ∀ (j : Nat) u, (intsV L)[j]? = some u → (W.drew.alloc o).cell? (b.add j) = some u) := Lib.hid (fun o => (HI2.out.keep (w' := W.drew.alloc o) (Keep.of_below (drew_alloc W o)) (fun _ h => h)).olds)
    have HDA : Hid (∀ w' o, (W.drew.alloc o).grownBy w' none → Below W.heap.size W w' ∧ W.heap.size ≤ (W.drew.alloc o).heap.size) := Lib.hid (fun w' o h => ⟨(drew_alloc W o).trans ((grown_below h).mono (drew_alloc W o).size), (drew_alloc W o).size⟩)
    have n2 := cell_lo (drew_alloc W (.cells #[.int .i64 x] 3)) hgb2 q2
    go_region_law (first
      | (go_simp; refine (clip_any aL ln cL _ HL1.out HL2.out HL3.out).mono ?_; rintro e w' ⟨rfl, rfl⟩)
      | (refine step_append_grows rfl (.tmp 78) (.tmp 82) 26 rfl 3 i0 (.int .i64 0) 1 8 Tryd.underlying26 hi hz0 hz1 hz2 rfl (by decide) aL ln ln (intsV L) (by simp [Act.eval]) (fun h => by have := HL3.out h; have := HL1.out; omega) (by rw [intsV_len, HLN.out, Nat.mul_one]) (HOL.out _) ⟨W.heap.size, 0, none⟩ 1 1 [.int .i64 x] (by simp [Act.eval]) rfl (one_cell W.drew _ _) (by intro u hu; simp at hu; subst hu; rfl) (by omega) (by unfold maxLen; omega) (by omega) ?_
         intro v' w' hown hgrow
         obtain ⟨hbel, hbs⟩ := HDA.out _ _ hgrow
         have hown' := Lib.hid hown
         obtain ⟨ao', cp', hv'⟩ := own_form hown
         subst hv'
         have z6 : w'.frozen? ⟨gS, 0, none⟩ = false := (hbel.frozen (p := ⟨gS, 0, none⟩) hgs2).trans q6
         have z3 := cell_lo hbel hgs2 q3
         have z2 := cell_lo hbel hgb2 q2
         have hbk := (HM2.out.below hbel).blk.far (p := ⟨gS, 0, none⟩) hne (.slice ao' (ln + 1) cp')
         have r4 : (w'.setCell ⟨gS, 0, none⟩ (.slice ao' (ln + 1) cp')).cell? ⟨g, 2 + a, none⟩ = some (.int .i64 x) := (hbk.cell (2 + a)).trans ((mcs_get m V (by have := HA.out; omega)).trans (by rw [mf_reg m V HA.out, HX.out]))
         have r5 := hbk.free (2 + a)
         have HBEL := Lib.hid hbel
         have HBS := Lib.hid hbs
         have HGR := Lib.hid hgrow
         clear hown hgrow hbel hbs hbk))
    all_goals go_wp2
    all_goals go_ret
    all_goals exact push_done HM2.out HT2.out HS2.out HBEL.out (by rw [HLN.out]; exact hown'.out) HBS.out HA.out rfl
  · have hl9 : ¬ 1000 ≤ ln := fun h => hf ⟨hi0, h⟩
    have g1 : ((i : Int) != 0) = true := by simpa using hi0
    have g2 : decide (1000 ≤ (ln : Int)) = false := decide_eq_false (by omega)
    clear hf hi0 hl9
    go_enter Tryd.func53, Tryd.ntmps53
    go_wp2_with fail
    rw [← HWB.out]
    refine HF.out.mono ?_
    rintro e w1 ⟨rfl, q, rfl⟩
    have q0 := M0.out q
    have q1 := M1.out q
    have q2 := Y19.out q
    have q3 := YK.out q
    have q4 := YA.out q
    have q5 := FA.out q
    have q6 := FK.out q
    have HM2 := Lib.hid (HMM.out.drewN q)
    have HT2 := Lib.hid (HT.out.drewN q)
    have HI2 := Lib.hid (HL4.out q)
    have hgb2 : g < (WB.drewN q).heap.size := hgb
    have hgs2 : gS < (WB.drewN q).heap.size := hgs
    have HS2 := Lib.hid (HS.out q)
    generalize WB.drewN q = W1 at *
    go_wp2
    go_quiet (fail)
    have q0 := dcell q0 nq
    have q1 := dcell q1 nq
    have q2 := dcell q2 nq
    have q3 := dcell q3 nq
    have q4 := dcell q4 nq
    have q5 := dfroz q5 nq
    have q6 := dfroz q6 nq
    have HM2 := Lib.hid (HM2.out.drewN nq)
    have HT2 := Lib.hid (HT2.out.drewN nq)
    have HI2 := Lib.hid (HI2.out.keep (Keep.of_below (Below.drewN_self _ nq)) (fun _ h => h))
    have hgb2 : g < (W1.drewN nq).heap.size := hgb2
    have hgs2 : gS < (W1.drewN nq).heap.size := hgs2
    have HS2 := Lib.hid (HS2.out.keep (Below.drewN_self _ nq))
    generalize W1.drewN nq = W at *
    go_wp2
    obtain ⟨i0, hi, hz0, hz1, hz2⟩ := info_parts intInfo
    have HOL : Hid (∀ o b, aL = some b → ∀ (j : Nat) u, (intsV L)[j]? = some u → (W.drew.alloc o).cell? (b.add j) = some u) := Lib.hid (fun o => (HI2.out.keep (w' := W.drew.alloc o) (Keep.of_below (drew_alloc W o)) (fun _ h => h)).olds)
    have HDA : Hid (∀ w' o, (W.drew.alloc o).grownBy w' none → Below W.heap.size W w' ∧ W.heap.size ≤ (W.drew.alloc o).heap.size) := Lib.hid (fun w' o h => ⟨(drew_alloc W o).trans ((grown_below h).mono (drew_alloc W o).size), (drew_alloc W o).size⟩)
    have n2 := cell_lo (drew_alloc W (.cells #[.int .i64 x] 3)) hgb2 q2
    go_region_law (first
      | (go_simp; refine (clip_any aL ln cL _ HL1.out HL2.out HL3.out).mono ?_; rintro e w' ⟨rfl, rfl⟩)
      | (refine step_append_grows rfl (.tmp 78) (.tmp 82) 26 rfl 3 i0 (.int .i64 0) 1 8 Tryd.underlying26 hi hz0 hz1 hz2 rfl (by decide) aL ln ln (intsV L) (by simp [Act.eval]) (fun h => by have := HL3.out h; have := HL1.out; omega) (by rw [intsV_len, HLN.out, Nat.mul_one]) (HOL.out _) ⟨W.heap.size, 0, none⟩ 1 1 [.int .i64 x] (by simp [Act.eval]) rfl (one_cell W.drew _ _) (by intro u hu; simp at hu; subst hu; rfl) (by omega) (by unfold maxLen; omega) (by omega) ?_
         intro v' w' hown hgrow
         obtain ⟨hbel, hbs⟩ := HDA.out _ _ hgrow
         have hown' := Lib.hid hown
         obtain ⟨ao', cp', hv'⟩ := own_form hown
         subst hv'
         have z6 : w'.frozen? ⟨gS, i, none⟩ = false := (hbel.frozen (p := ⟨gS, i, none⟩) hgs2).trans q6
         have z3 := cell_lo hbel hgs2 q3
         have z2 := cell_lo hbel hgb2 q2
         have hbk := (HM2.out.below hbel).blk.far (p := ⟨gS, i, none⟩) hne (.slice ao' (ln + 1) cp')
         have r4 : (w'.setCell ⟨gS, i, none⟩ (.slice ao' (ln + 1) cp')).cell? ⟨g, 2 + a, none⟩ = some (.int .i64 x) := (hbk.cell (2 + a)).trans ((mcs_get m V (by have := HA.out; omega)).trans (by rw [mf_reg m V HA.out, HX.out]))
         have r5 := hbk.free (2 + a)
         have HBEL := Lib.hid hbel
         have HBS := Lib.hid hbs
         have HGR := Lib.hid hgrow
         clear hown hgrow hbel hbs hbk))
    all_goals go_wp2
    all_goals go_ret
    all_goals exact push_done HM2.out HT2.out HS2.out HBEL.out (by rw [HLN.out]; exact hown'.out) HBS.out HA.out rfl

end Go.Proofs.YtichiccohmeecaaDoor
