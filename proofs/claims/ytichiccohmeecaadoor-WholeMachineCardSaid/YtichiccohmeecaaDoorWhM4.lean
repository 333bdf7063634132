/- The walk of the law WholeMachine. -/
import Derived.Test.YtichiccohmeecaaDoorWhMa
namespace Go.Proofs.YtichiccohmeecaaDoor
open Go.RowKit

theorem cf_fid (b : Bool) (args : Array Value) (w : World) : (callFunc (fid b) args).run Tryd.prog w = .ok (.enter (fid b) args) w := by
  cases b
  · show (callFunc 7 args).run Tryd.prog w = .ok (.enter 7 args) w
    kernel_rfl
  · show (callFunc 8 args).run Tryd.prog w = .ok (.enter 8 args) w
    kernel_rfl

set_option maxRecDepth 100000 in
set_option maxHeartbeats 16000000 in
theorem machine_any {P : Nat → Prop} (im : Im) (vc : Value) (m : Mach) (V : MV) (n : Nat) (w : World) (hC : CodeIn P w vc im.code) (hR : RowsR P w m V) (hT : TabAt w) (hb : m.Big) (hP : ∀ j, P j → j < w.heap.size) (h0 : 0 < w.heap.size) (hn : n ≤ 255) :
    Calls Tryd.prog 3 #[imV vc im, .agg (mcs m V), .int .u8 n] w (FitsR true w) := by
  obtain ⟨b, hbb⟩ : ∃ b, w.heap.size = b := ⟨_, rfl⟩
  obtain ⟨W0, hW0⟩ : ∃ W0, W0 = (w.alloc (.cells #[vc, .int .i64 im.mem, .int .i64 im.stacks] 24)).alloc (.cells (mcs m V) 30) := ⟨_, rfl⟩
  have hB0 : Below w.heap.size w W0 := by rw [hW0]; exact below_al (below_alloc _ _) (Nat.le_refl _) _
  have ki : Blk W0 b 24 #[vc, .int .i64 im.mem, .int .i64 im.stacks] := by rw [hW0]; exact (Blk.new' hbb).al _
  have km : Blk W0 (b + 1) 30 (mcs m V) := by rw [hW0]; exact Blk.new' (by rw [← hbb]; simp)
  have hs0 : W0.heap.size = b + 2 := by rw [hW0, ← hbb]; simp
  have HAW : Hid (∀ w', Below w.heap.size w w' → Calls Tryd.prog 5 #[] w' (FitsR true w')) := Lib.hid (fun w' hb' => awake_any w' (hT.below hb'))
  have HFI : Hid (∀ w', Below w.heap.size w w' → Calls Tryd.prog 6 #[imV vc im, .agg (mcs m V)] w' (FittingR im m w')) := Lib.hid (fun w' hb' => fitting_any im vc m V w' (hC.below hb') (hR.below hb') (hT.below hb'))
  have HCD : Hid (∀ w', Below w.heap.size w w' → CodeIn P w' vc im.code ∧ RowsR P w' m V ∧ TabAt w') := Lib.hid (fun w' hb' => ⟨hC.below hb', hR.below hb', hT.below hb'⟩)
  have HP := Lib.hid hP
  have HBIG := Lib.hid hb
  obtain ⟨ac, cp, rfl, -, -, -⟩ := hC
  have HW0 := Lib.hid hW0
  have HB0 := Lib.hid hB0
  have HKI := Lib.hid ki
  have HKM := Lib.hid km
  have HSZ : Hid ((mcs m V).size = 25) := Lib.hid (mcs_size m V)
  have HBB := Lib.hid hbb
  obtain ⟨N, hN⟩ : ∃ N, n % 61 = N := ⟨_, rfl⟩
  have hN60 : N ≤ 60 := by omega
  have hrem : Int.tmod (n : Int) 61 = (N : Int) := by
    rw [← hN]; rfl
  have hN0 : (0 : Int) ≤ (n : Int) := Int.natCast_nonneg _
  have hN1 : (n : Int) ≤ 255 := by omega
  unfold imV at *
  obtain ⟨C, hCC⟩ : ∃ C, mcs m V = C := ⟨_, rfl⟩
  have HCC := Lib.hid hCC
  rw [hCC] at HFI HW0 HKM HSZ ⊢
  clear hW0 hB0 ki km hT hbb hR hCC hN hP hb hn
  go_enter Tryd.func3, Tryd.ntmps3
  go_wp2_with fail
  rw [HBB.out, ← HW0.out]
  refine (HAW.out W0 HB0.out).mono ?_
  rintro e w1 ⟨rfl, hb1⟩
  have HB1 := Lib.hid (below_next HB0.out (Nat.le_refl _) hb1)
  have HKI1 := Lib.hid (HKI.out.next hb1)
  have HKM1 := Lib.hid (HKM.out.next hb1)
  have b0 := HKI1.out.cell 0
  have b1 := HKI1.out.cell 1
  have b2 := HKI1.out.cell 2
  clear hb1 HKI HKM
  go_wp2_with (first
    | (refine wpList_load_guard (by rfl) 30 _ rfl (b + 1) rfl 30 C (0, 0) _ HKM1.out Tryd.underlying30 rfl (by rw [HSZ.out]; exact machSize) ?_)
    | fail)
  refine (HFI.out w1 HB1.out).mono ?_
  rintro e w2 ⟨B, rfl, hB, hb2⟩
  have HB2 := Lib.hid (below_next HB1.out (Nat.le_refl _) hb2)
  cases B with
  | false =>
    clear hB hb2
    go_wp2_with fail
    refine (HAW.out w2 HB2.out).mono ?_
    rintro e w3 ⟨rfl, hb3⟩
    have HB3 := Lib.hid (below_next HB2.out (Nat.le_refl _) hb3)
    clear hb3
    go_wp2
    go_ret
    exact ⟨rfl, HB3.out⟩
  | true =>
    obtain ⟨h1, h2, h3⟩ := hB rfl
    have HTOP := Lib.hid (top_of h1 h2 h3 HBIG.out)
    have HKI2 := Lib.hid (HKI1.out.next hb2)
    have HKM2 := Lib.hid (HKM1.out.next hb2)
    obtain ⟨W3, hW3⟩ : ∃ W3, W3 = w2.alloc (.cells #[.bool false, .bool true] 4) := ⟨_, rfl⟩
    have hb3 : Below w2.heap.size w2 W3 := by rw [hW3]; exact below_alloc _ _
    have kt : Blk W3 w2.heap.size 4 #[.bool false, .bool true] := by rw [hW3]; exact Blk.new _ _ _
    have HB3 := Lib.hid (below_next HB2.out (Nat.le_refl _) hb3)
    have HKI3 := Lib.hid (HKI2.out.next hb3)
    have HKM3 := Lib.hid (HKM2.out.next hb3)
    have HKT := Lib.hid kt
    have HW3 := Lib.hid hW3
    obtain ⟨bt, hbt⟩ : ∃ bt, w2.heap.size = bt := ⟨_, rfl⟩
    have HBT := Lib.hid hbt
    rw [hbt] at HKT
    have hszb : b + 2 ≤ W3.heap.size := by have := HKM3.out.lt; omega
    clear h1 h2 h3 hb2 hb3 kt hW3 hbt HKI1 HKM1 HKI2 HKM2 b0 b1 b2 hB
    go_wp2_with fail
    rw [HBT.out, ← HW3.out]
    go_loopg [24] 2 (fun q i wr => ∃ k : Nat, k + q = 2 ∧ i = .int .i64 k ∧ Below W3.heap.size W3 wr)
    case atStart => exact ⟨0, by omega, rfl, Below.refl _ _⟩
    case round =>
      obtain ⟨k, hk, rfl, hbr⟩ := hrel
      obtain ⟨wo, hwo⟩ : ∃ wo : World, wo = wr := ⟨_, rfl⟩
      subst hwo
      have Hk := Lib.hid hk
      have HBO := Lib.hid (below_next HB3.out (Nat.le_refl _) hbr)
      have HBR := Lib.hid hbr
      have HKIo := Lib.hid (HKI3.out.next hbr)
      have HKMo := Lib.hid (HKM3.out.next hbr)
      have HKTo := Lib.hid (HKT.out.next hbr)
      have c0 := HKTo.out.cell 0
      have c1 := HKTo.out.cell 1
      have hszo : b + 2 ≤ wo.heap.size := Nat.le_trans hszb hbr.size
      have hpos : 0 < wo.heap.size := by omega
      have HCL : Hid (Calls Tryd.prog 9 #[.pointer (some ⟨b + 1, 0, none⟩)] wo (CloM m wo)) := Lib.hid (by
        have f := HTOP.out.fit
        have f1 := f.mem
        have f2 := f.stk
        have f3 := f.calls
        have f4 := f.inp
        have f5 := f.out
        have t1 := HTOP.out.mem
        have t2 := HTOP.out.stk
        exact Clone_any (P := P) (b + 1) m V wo ⟨by rw [HCC.out]; exact HKMo.out, (HCD.out wo HBO.out).2.1⟩ (by omega) (by omega) (by omega) (by omega) (by omega) (fun s hs => Nat.le_trans (HTOP.out.len s hs) (by decide)))
      clear hk hbr
      by_cases hk2 : k = 2
      · subst hk2
        clear c0 c1 HCL
        go_wp2
        go_ret
        exact ⟨rfl, HBO.out⟩
      by_cases hk0 : k = 0
      · subst hk0
        clear hk2
        go_wp2_with fail
        refine HCL.out.mono ?_
        rintro e w4 ⟨V4, G, rfl, hb4, hm4⟩
        have HRUN0 := Lib.hid (RunS.start (b := false) HTOP.out (HCD.out wo HBO.out).1 HP.out HBO.out.size h0 (HCD.out wo HBO.out).2.2 hb4 hm4)
        clear hb4 hm4 c0 c1 HCL
        go_wp2_with fail
        go_loopg [12] N (fun q i wz => ∃ j : Nat, j + q = N ∧ i = .int .i64 j ∧ Hid (∃ m' V' F, RunS false im (.slice ac im.code.length cp) m w.heap.size wo.heap.size wo G j wz m' V' F))
        case atStart => exact ⟨0, by omega, rfl, Lib.hid ⟨_, _, _, HRUN0.out⟩⟩
        case round =>
          obtain ⟨j, hj, rfl, hrun⟩ := hrel
          obtain ⟨m', V', F, hrun⟩ := hrun.out
          obtain ⟨wz, hwz⟩ : ∃ wz : World, wz = wr := ⟨_, rfl⟩
          subst hwz
          have HR := Lib.hid hrun
          have Hj := Lib.hid hj
          have hj0 : (0 : Int) ≤ (j : Int) := Int.natCast_nonneg _
          have hj1 : (j : Int) ≤ 60 := by omega
          have b0 : wz.cell? ⟨b, 0, none⟩ = some (.slice ac im.code.length cp) := cell_lo hrun.below (by omega) (HKIo.out.cell 0)
          have b1 : wz.cell? ⟨b, 1, none⟩ = some (.int .i64 im.mem) := cell_lo hrun.below (by omega) (HKIo.out.cell 1)
          have b2 : wz.cell? ⟨b, 2, none⟩ = some (.int .i64 im.stacks) := cell_lo hrun.below (by omega) (HKIo.out.cell 2)
          by_cases hlt : j < N
          · have hlt' : (j : Int) < (N : Int) := by omega
            have HC := Lib.hid (hrun.call false)
            clear hrun hj
            go_wp2_with fail
            refine HC.out.mono ?_
            rintro e w5 ⟨V5, rfl, ht5, hm5⟩
            have hth := HR.out.there HTOP.out ht5 hm5 (by omega) (Nat.le_refl _) hpos
            obtain ⟨r, hr⟩ : ∃ r, (goP false im m').1 = r := ⟨_, rfl⟩
            rw [hr] at hth ⊢
            clear ht5 hm5 hr
            by_cases he : r = 0
            · subst he
              rw [if_pos rfl] at hth
              obtain ⟨m2, hrun2⟩ := hth
              have HR2 := Lib.hid hrun2
              have HF := Lib.hid (hrun2.fits HTOP.out)
              have b0 : w5.cell? ⟨b, 0, none⟩ = some (.slice ac im.code.length cp) := cell_lo hrun2.below (by omega) (HKIo.out.cell 0)
              have b1 : w5.cell? ⟨b, 1, none⟩ = some (.int .i64 im.mem) := cell_lo hrun2.below (by omega) (HKIo.out.cell 1)
              have b2 : w5.cell? ⟨b, 2, none⟩ = some (.int .i64 im.stacks) := cell_lo hrun2.below (by omega) (HKIo.out.cell 2)
              clear hrun2
              go_wp2_with fail
              refine HF.out.mono ?_
              rintro e w6 ⟨rfl, hb6⟩
              have HR3 := Lib.hid (HR2.out.next hb6 (Nat.le_refl _))
              clear hb6 b0 b1 b2
              go_wp2
              have hj := Hj.out
              go_roundg (N - (j + 1))
              case measure => omega
              case rel => exact ⟨j + 1, by omega, by go_num, Lib.hid ⟨_, _, _, HR3.out⟩⟩
            · rw [if_neg he] at hth
              have HR2 := Lib.hid hth
              have he1 : (r == 0) = false := by simpa using he
              clear hth he b0 b1 b2
              have hj60 : j ≤ 60 := by omega
              go_wp2
              go_loopg [51] j (fun q i wz => ∃ t r : Nat, r = q ∧ t + r = j ∧ i = .int .i64 t ∧ Hid (∃ m2 V2 F2, RunS false im (.slice ac im.code.length cp) m w.heap.size wo.heap.size wo G r wz m2 V2 F2))
              case atStart => exact ⟨0, j, rfl, by omega, rfl, Lib.hid ⟨_, _, _, HR2.out⟩⟩
              case round =>
                obtain ⟨t, r3, hr3, ht, rfl, hrun3⟩ := hrel
                subst hr3
                obtain ⟨m3, V3, F3, hrun3⟩ := hrun3.out
                obtain ⟨wy, hwy⟩ : ∃ wy : World, wy = wr := ⟨_, rfl⟩
                subst hwy
                have HR3 := Lib.hid hrun3
                have Ht := Lib.hid ht
                have b0 : wy.cell? ⟨b, 0, none⟩ = some (.slice ac im.code.length cp) := cell_lo hrun3.below (by omega) (HKIo.out.cell 0)
                have b1 : wy.cell? ⟨b, 1, none⟩ = some (.int .i64 im.mem) := cell_lo hrun3.below (by omega) (HKIo.out.cell 1)
                have b2 : wy.cell? ⟨b, 2, none⟩ = some (.int .i64 im.stacks) := cell_lo hrun3.below (by omega) (HKIo.out.cell 2)
                by_cases hlt : t < j
                · have hlt' : (t : Int) < (j : Int) := by omega
                  have htj : (t : Int) ≤ 1000 := by omega
                  obtain ⟨q', rfl⟩ : ∃ q', r3 = q' + 1 := ⟨r3 - 1, by omega⟩
                  have HC := Lib.hid (hrun3.call (!false))
                  clear hrun3 ht
                  go_wp2_with fail
                  refine HC.out.mono ?_
                  rintro e w7 ⟨V7, rfl, ht7, hm7⟩
                  obtain ⟨he, m7, hrun7⟩ := HR3.out.home HTOP.out ht7 hm7 (by have := Ht.out; omega) (Nat.le_refl _) hpos
                  rw [he]
                  have HR7 := Lib.hid hrun7
                  clear he ht7 hm7 hrun7 b0 b1 b2
                  go_wp2
                  have ht := Ht.out
                  go_roundg q'
                  case measure => omega
                  case rel => exact ⟨t + 1, q', rfl, by omega, by go_num, Lib.hid ⟨_, _, _, HR7.out⟩⟩
                · have hge : ¬ (t : Int) < (j : Int) := by omega
                  obtain rfl : r3 = 0 := by omega
                  have hm : m3 = m := hrun3.trail
                  subst hm
                  have HBY := Lib.hid (below_next HBO.out (Nat.le_refl _) hrun3.below)
                  have HEQ := Lib.hid (Equal_any hrun3.go.mach.toR (P := F3) (Q := P) (h := b + 1) (V' := V) ⟨by rw [HCC.out]; exact HKMo.out.next hrun3.below, (HCD.out wy HBY.out).2.1⟩)
                  clear hrun3 ht b0 b1 b2
                  go_wp2_with fail
                  refine HEQ.out.mono ?_
                  rintro e w8 ⟨rfl, q8, rfl⟩
                  have HB8 : Hid (Below W3.heap.size W3 (wy.drewN q8)) := Lib.hid (drewN_below (below_next HBR.out (Nat.le_refl _) HR3.out.below) q8)
                  go_wp2
                  have hk := Hk.out
                  go_roundg (2 - (0 + 1))
                  case measure => omega
                  case rel => exact ⟨0 + 1, by omega, by go_num, HB8.out⟩
          · have hge : ¬ (j : Int) < (N : Int) := by omega
            have hj60 : j ≤ 60 := by omega
            clear hrun hj b0 b1 b2
            go_wp2
            go_loopg [51] j (fun q i wz => ∃ t r : Nat, r = q ∧ t + r = j ∧ i = .int .i64 t ∧ Hid (∃ m2 V2 F2, RunS false im (.slice ac im.code.length cp) m w.heap.size wo.heap.size wo G r wz m2 V2 F2))
            case atStart => exact ⟨0, j, rfl, by omega, rfl, Lib.hid ⟨_, _, _, HR.out⟩⟩
            case round =>
              obtain ⟨t, r3, hr3, ht, rfl, hrun3⟩ := hrel
              subst hr3
              obtain ⟨m3, V3, F3, hrun3⟩ := hrun3.out
              obtain ⟨wy, hwy⟩ : ∃ wy : World, wy = wr := ⟨_, rfl⟩
              subst hwy
              have HR3 := Lib.hid hrun3
              have Ht := Lib.hid ht
              have b0 : wy.cell? ⟨b, 0, none⟩ = some (.slice ac im.code.length cp) := cell_lo hrun3.below (by omega) (HKIo.out.cell 0)
              have b1 : wy.cell? ⟨b, 1, none⟩ = some (.int .i64 im.mem) := cell_lo hrun3.below (by omega) (HKIo.out.cell 1)
              have b2 : wy.cell? ⟨b, 2, none⟩ = some (.int .i64 im.stacks) := cell_lo hrun3.below (by omega) (HKIo.out.cell 2)
              by_cases hlt : t < j
              · have hlt' : (t : Int) < (j : Int) := by omega
                have htj : (t : Int) ≤ 1000 := by omega
                obtain ⟨q', rfl⟩ : ∃ q', r3 = q' + 1 := ⟨r3 - 1, by omega⟩
                have HC := Lib.hid (hrun3.call (!false))
                clear hrun3 ht
                go_wp2_with fail
                refine HC.out.mono ?_
                rintro e w7 ⟨V7, rfl, ht7, hm7⟩
                obtain ⟨he, m7, hrun7⟩ := HR3.out.home HTOP.out ht7 hm7 (by have := Ht.out; omega) (Nat.le_refl _) hpos
                rw [he]
                have HR7 := Lib.hid hrun7
                clear he ht7 hm7 hrun7 b0 b1 b2
                go_wp2
                have ht := Ht.out
                go_roundg q'
                case measure => omega
                case rel => exact ⟨t + 1, q', rfl, by omega, by go_num, Lib.hid ⟨_, _, _, HR7.out⟩⟩
              · have hge : ¬ (t : Int) < (j : Int) := by omega
                obtain rfl : r3 = 0 := by omega
                have hm : m3 = m := hrun3.trail
                subst hm
                have HBY := Lib.hid (below_next HBO.out (Nat.le_refl _) hrun3.below)
                have HEQ := Lib.hid (Equal_any hrun3.go.mach.toR (P := F3) (Q := P) (h := b + 1) (V' := V) ⟨by rw [HCC.out]; exact HKMo.out.next hrun3.below, (HCD.out wy HBY.out).2.1⟩)
                clear hrun3 ht b0 b1 b2
                go_wp2_with fail
                refine HEQ.out.mono ?_
                rintro e w8 ⟨rfl, q8, rfl⟩
                have HB8 : Hid (Below W3.heap.size W3 (wy.drewN q8)) := Lib.hid (drewN_below (below_next HBR.out (Nat.le_refl _) HR3.out.below) q8)
                go_wp2
                have hk := Hk.out
                go_roundg (2 - (0 + 1))
                case measure => omega
                case rel => exact ⟨0 + 1, by omega, by go_num, HB8.out⟩
      · obtain rfl : k = 1 := by have := Hk.out; omega
        clear hk2 hk0
        go_wp2_with fail
        refine HCL.out.mono ?_
        rintro e w4 ⟨V4, G, rfl, hb4, hm4⟩
        have HRUN0 := Lib.hid (RunS.start (b := true) HTOP.out (HCD.out wo HBO.out).1 HP.out HBO.out.size h0 (HCD.out wo HBO.out).2.2 hb4 hm4)
        clear hb4 hm4 c0 c1 HCL
        go_wp2_with fail
        go_loopg [12] N (fun q i wz => ∃ j : Nat, j + q = N ∧ i = .int .i64 j ∧ Hid (∃ m' V' F, RunS true im (.slice ac im.code.length cp) m w.heap.size wo.heap.size wo G j wz m' V' F))
        case atStart => exact ⟨0, by omega, rfl, Lib.hid ⟨_, _, _, HRUN0.out⟩⟩
        case round =>
          obtain ⟨j, hj, rfl, hrun⟩ := hrel
          obtain ⟨m', V', F, hrun⟩ := hrun.out
          obtain ⟨wz, hwz⟩ : ∃ wz : World, wz = wr := ⟨_, rfl⟩
          subst hwz
          have HR := Lib.hid hrun
          have Hj := Lib.hid hj
          have hj0 : (0 : Int) ≤ (j : Int) := Int.natCast_nonneg _
          have hj1 : (j : Int) ≤ 60 := by omega
          have b0 : wz.cell? ⟨b, 0, none⟩ = some (.slice ac im.code.length cp) := cell_lo hrun.below (by omega) (HKIo.out.cell 0)
          have b1 : wz.cell? ⟨b, 1, none⟩ = some (.int .i64 im.mem) := cell_lo hrun.below (by omega) (HKIo.out.cell 1)
          have b2 : wz.cell? ⟨b, 2, none⟩ = some (.int .i64 im.stacks) := cell_lo hrun.below (by omega) (HKIo.out.cell 2)
          by_cases hlt : j < N
          · have hlt' : (j : Int) < (N : Int) := by omega
            have HC := Lib.hid (hrun.call true)
            clear hrun hj
            go_wp2_with fail
            refine HC.out.mono ?_
            rintro e w5 ⟨V5, rfl, ht5, hm5⟩
            have hth := HR.out.there HTOP.out ht5 hm5 (by omega) (Nat.le_refl _) hpos
            obtain ⟨r, hr⟩ : ∃ r, (goP true im m').1 = r := ⟨_, rfl⟩
            rw [hr] at hth ⊢
            clear ht5 hm5 hr
            by_cases he : r = 0
            · subst he
              rw [if_pos rfl] at hth
              obtain ⟨m2, hrun2⟩ := hth
              have HR2 := Lib.hid hrun2
              have HF := Lib.hid (hrun2.fits HTOP.out)
              have b0 : w5.cell? ⟨b, 0, none⟩ = some (.slice ac im.code.length cp) := cell_lo hrun2.below (by omega) (HKIo.out.cell 0)
              have b1 : w5.cell? ⟨b, 1, none⟩ = some (.int .i64 im.mem) := cell_lo hrun2.below (by omega) (HKIo.out.cell 1)
              have b2 : w5.cell? ⟨b, 2, none⟩ = some (.int .i64 im.stacks) := cell_lo hrun2.below (by omega) (HKIo.out.cell 2)
              clear hrun2
              go_wp2_with fail
              refine HF.out.mono ?_
              rintro e w6 ⟨rfl, hb6⟩
              have HR3 := Lib.hid (HR2.out.next hb6 (Nat.le_refl _))
              clear hb6 b0 b1 b2
              go_wp2
              have hj := Hj.out
              go_roundg (N - (j + 1))
              case measure => omega
              case rel => exact ⟨j + 1, by omega, by go_num, Lib.hid ⟨_, _, _, HR3.out⟩⟩
            · rw [if_neg he] at hth
              have HR2 := Lib.hid hth
              have he1 : (r == 0) = false := by simpa using he
              clear hth he b0 b1 b2
              have hj60 : j ≤ 60 := by omega
              go_wp2
              go_loopg [51] j (fun q i wz => ∃ t r : Nat, r = q ∧ t + r = j ∧ i = .int .i64 t ∧ Hid (∃ m2 V2 F2, RunS true im (.slice ac im.code.length cp) m w.heap.size wo.heap.size wo G r wz m2 V2 F2))
              case atStart => exact ⟨0, j, rfl, by omega, rfl, Lib.hid ⟨_, _, _, HR2.out⟩⟩
              case round =>
                obtain ⟨t, r3, hr3, ht, rfl, hrun3⟩ := hrel
                subst hr3
                obtain ⟨m3, V3, F3, hrun3⟩ := hrun3.out
                obtain ⟨wy, hwy⟩ : ∃ wy : World, wy = wr := ⟨_, rfl⟩
                subst hwy
                have HR3 := Lib.hid hrun3
                have Ht := Lib.hid ht
                have b0 : wy.cell? ⟨b, 0, none⟩ = some (.slice ac im.code.length cp) := cell_lo hrun3.below (by omega) (HKIo.out.cell 0)
                have b1 : wy.cell? ⟨b, 1, none⟩ = some (.int .i64 im.mem) := cell_lo hrun3.below (by omega) (HKIo.out.cell 1)
                have b2 : wy.cell? ⟨b, 2, none⟩ = some (.int .i64 im.stacks) := cell_lo hrun3.below (by omega) (HKIo.out.cell 2)
                by_cases hlt : t < j
                · have hlt' : (t : Int) < (j : Int) := by omega
                  have htj : (t : Int) ≤ 1000 := by omega
                  obtain ⟨q', rfl⟩ : ∃ q', r3 = q' + 1 := ⟨r3 - 1, by omega⟩
                  have HC := Lib.hid (hrun3.call (!true))
                  clear hrun3 ht
                  go_wp2_with fail
                  refine HC.out.mono ?_
                  rintro e w7 ⟨V7, rfl, ht7, hm7⟩
                  obtain ⟨he, m7, hrun7⟩ := HR3.out.home HTOP.out ht7 hm7 (by have := Ht.out; omega) (Nat.le_refl _) hpos
                  rw [he]
                  have HR7 := Lib.hid hrun7
                  clear he ht7 hm7 hrun7 b0 b1 b2
                  go_wp2
                  have ht := Ht.out
                  go_roundg q'
                  case measure => omega
                  case rel => exact ⟨t + 1, q', rfl, by omega, by go_num, Lib.hid ⟨_, _, _, HR7.out⟩⟩
                · have hge : ¬ (t : Int) < (j : Int) := by omega
                  obtain rfl : r3 = 0 := by omega
                  have hm : m3 = m := hrun3.trail
                  subst hm
                  have HBY := Lib.hid (below_next HBO.out (Nat.le_refl _) hrun3.below)
                  have HEQ := Lib.hid (Equal_any hrun3.go.mach.toR (P := F3) (Q := P) (h := b + 1) (V' := V) ⟨by rw [HCC.out]; exact HKMo.out.next hrun3.below, (HCD.out wy HBY.out).2.1⟩)
                  clear hrun3 ht b0 b1 b2
                  go_wp2_with fail
                  refine HEQ.out.mono ?_
                  rintro e w8 ⟨rfl, q8, rfl⟩
                  have HB8 : Hid (Below W3.heap.size W3 (wy.drewN q8)) := Lib.hid (drewN_below (below_next HBR.out (Nat.le_refl _) HR3.out.below) q8)
                  go_wp2
                  have hk := Hk.out
                  go_roundg (2 - (1 + 1))
                  case measure => omega
                  case rel => exact ⟨1 + 1, by omega, by go_num, HB8.out⟩
          · have hge : ¬ (j : Int) < (N : Int) := by omega
            have hj60 : j ≤ 60 := by omega
            clear hrun hj b0 b1 b2
            go_wp2
            go_loopg [51] j (fun q i wz => ∃ t r : Nat, r = q ∧ t + r = j ∧ i = .int .i64 t ∧ Hid (∃ m2 V2 F2, RunS true im (.slice ac im.code.length cp) m w.heap.size wo.heap.size wo G r wz m2 V2 F2))
            case atStart => exact ⟨0, j, rfl, by omega, rfl, Lib.hid ⟨_, _, _, HR.out⟩⟩
            case round =>
              obtain ⟨t, r3, hr3, ht, rfl, hrun3⟩ := hrel
              subst hr3
              obtain ⟨m3, V3, F3, hrun3⟩ := hrun3.out
              obtain ⟨wy, hwy⟩ : ∃ wy : World, wy = wr := ⟨_, rfl⟩
              subst hwy
              have HR3 := Lib.hid hrun3
              have Ht := Lib.hid ht
              have b0 : wy.cell? ⟨b, 0, none⟩ = some (.slice ac im.code.length cp) := cell_lo hrun3.below (by omega) (HKIo.out.cell 0)
              have b1 : wy.cell? ⟨b, 1, none⟩ = some (.int .i64 im.mem) := cell_lo hrun3.below (by omega) (HKIo.out.cell 1)
              have b2 : wy.cell? ⟨b, 2, none⟩ = some (.int .i64 im.stacks) := cell_lo hrun3.below (by omega) (HKIo.out.cell 2)
              by_cases hlt : t < j
              · have hlt' : (t : Int) < (j : Int) := by omega
                have htj : (t : Int) ≤ 1000 := by omega
                obtain ⟨q', rfl⟩ : ∃ q', r3 = q' + 1 := ⟨r3 - 1, by omega⟩
                have HC := Lib.hid (hrun3.call (!true))
                clear hrun3 ht
                go_wp2_with fail
                refine HC.out.mono ?_
                rintro e w7 ⟨V7, rfl, ht7, hm7⟩
                obtain ⟨he, m7, hrun7⟩ := HR3.out.home HTOP.out ht7 hm7 (by have := Ht.out; omega) (Nat.le_refl _) hpos
                rw [he]
                have HR7 := Lib.hid hrun7
                clear he ht7 hm7 hrun7 b0 b1 b2
                go_wp2
                have ht := Ht.out
                go_roundg q'
                case measure => omega
                case rel => exact ⟨t + 1, q', rfl, by omega, by go_num, Lib.hid ⟨_, _, _, HR7.out⟩⟩
              · have hge : ¬ (t : Int) < (j : Int) := by omega
                obtain rfl : r3 = 0 := by omega
                have hm : m3 = m := hrun3.trail
                subst hm
                have HBY := Lib.hid (below_next HBO.out (Nat.le_refl _) hrun3.below)
                have HEQ := Lib.hid (Equal_any hrun3.go.mach.toR (P := F3) (Q := P) (h := b + 1) (V' := V) ⟨by rw [HCC.out]; exact HKMo.out.next hrun3.below, (HCD.out wy HBY.out).2.1⟩)
                clear hrun3 ht b0 b1 b2
                go_wp2_with fail
                refine HEQ.out.mono ?_
                rintro e w8 ⟨rfl, q8, rfl⟩
                have HB8 : Hid (Below W3.heap.size W3 (wy.drewN q8)) := Lib.hid (drewN_below (below_next HBR.out (Nat.le_refl _) HR3.out.below) q8)
                go_wp2
                have hk := Hk.out
                go_roundg (2 - (1 + 1))
                case measure => omega
                case rel => exact ⟨1 + 1, by omega, by go_num, HB8.out⟩

end Go.Proofs.YtichiccohmeecaaDoor
