/- The walk of the law WholeMirror. -/
import Derived.Test.YtichiccohmeecaaDoorWhN4
namespace Go.Proofs.YtichiccohmeecaaDoor
open Go.RowKit

def InvV (im : Im) (w : World) (e : Ending) (w' : World) : Prop := ∃ vc', e = .returned (.tuple #[.agg #[vc', .int .i64 im.mem, .int .i64 im.stacks], .int .i64 0]) ∧ Below w.heap.size w w' ∧ CodeIn (fun j => w.heap.size ≤ j) w' vc' (invC im.code)
set_option maxRecDepth 100000 in
set_option maxHeartbeats 16000000 in
theorem mirror_law {P : Nat → Prop} (im : Im) (vc : Value) (m : Mach) (V : MV) (n : Nat) (w : World) (hC : CodeIn P w vc im.code) (hR : RowsR P w m V) (hT : TabAt w) (hb : m.Big) (hP : ∀ j, P j → j < w.heap.size) (_h0 : 0 < w.heap.size) (hn : n ≤ 255) :
    Calls Tryd.prog 4 #[imV vc im, .agg (mcs m V), .int .u8 n] w (FitsR true w) := by
  obtain ⟨b, hbb⟩ : ∃ b, w.heap.size = b := ⟨_, rfl⟩
  obtain ⟨W0, hW0⟩ : ∃ W0, W0 = (w.alloc (.cells #[vc, .int .i64 im.mem, .int .i64 im.stacks] 24)).alloc (.cells (mcs m V) 30) := ⟨_, rfl⟩
  have hB0 : Below w.heap.size w W0 := by rw [hW0]; exact below_al (below_alloc _ _) (Nat.le_refl _) _
  have ki : Blk W0 b 24 #[vc, .int .i64 im.mem, .int .i64 im.stacks] := by rw [hW0]; exact (Blk.new' hbb).al _
  have km : Blk W0 (b + 1) 30 (mcs m V) := by rw [hW0]; exact Blk.new' (by rw [← hbb]; simp)
  have hs0 : W0.heap.size = b + 2 := by rw [hW0, ← hbb]; simp
  have HAW : Hid (∀ w', Below w.heap.size w w' → Calls Tryd.prog 5 #[] w' (FitsR true w')) := Lib.hid (fun w' hb' => awake_any w' (hT.below hb'))
  have HFI : Hid (∀ w', Below w.heap.size w w' → Calls Tryd.prog 6 #[imV vc im, .agg (mcs m V)] w' (FittingR im m w')) := Lib.hid (fun w' hb' => fitting_any im vc m V w' (hC.below hb') (hR.below hb') (hT.below hb'))
  have HCD : Hid (∀ w', Below w.heap.size w w' → CodeIn P w' vc im.code ∧ RowsR P w' m V ∧ TabAt w') := Lib.hid (fun w' hb' => ⟨hC.below hb', hR.below hb', hT.below hb'⟩)
  have HP := Lib.hid hP
  have HBIG := Lib.hid hb
  obtain ⟨ac, cp, rfl, -, -, -⟩ := hC
  have HW0 := Lib.hid hW0
  have HB0 := Lib.hid hB0
  have HKI := Lib.hid ki
  have HKM := Lib.hid km
  have HSZ : Hid ((mcs m V).size = 25) := Lib.hid (mcs_size m V)
  have HBB := Lib.hid hbb
  obtain ⟨N, hN⟩ : ∃ N, n % 61 = N := ⟨_, rfl⟩
  have hN60 : N ≤ 60 := by omega
  have hrem : Int.tmod (n : Int) 61 = (N : Int) := by
    rw [← hN]; rfl
  have hN0 : (0 : Int) ≤ (n : Int) := Int.natCast_nonneg _
  have hN1 : (n : Int) ≤ 255 := by omega
  unfold imV at *
  obtain ⟨C, hCC⟩ : ∃ C, mcs m V = C := ⟨_, rfl⟩
  have HCC := Lib.hid hCC
  rw [hCC] at HFI HW0 HKM HSZ ⊢
  clear hW0 hB0 ki km hT hbb hR hCC hN hP hb hn
  go_enter Tryd.func4, Tryd.ntmps4
  go_wp2_with fail
  rw [HBB.out, ← HW0.out]
  refine (HAW.out W0 HB0.out).mono ?_
  rintro e w1 ⟨rfl, hb1⟩
  have HB1 := Lib.hid (below_next HB0.out (Nat.le_refl _) hb1)
  have HKI1 := Lib.hid (HKI.out.next hb1)
  have HKM1 := Lib.hid (HKM.out.next hb1)
  have b0 := HKI1.out.cell 0
  have b1 := HKI1.out.cell 1
  have b2 := HKI1.out.cell 2
  clear hb1 HKI HKM
  go_wp2_with (first
    | (refine wpList_load_guard (by rfl) 30 _ rfl (b + 1) rfl 30 C (0, 0) _ HKM1.out Tryd.underlying30 rfl (by rw [HSZ.out]; exact machSize) ?_)
    | fail)
  refine (HFI.out w1 HB1.out).mono ?_
  rintro e w2 ⟨B, rfl, hB, hb2⟩
  have HB2 := Lib.hid (below_next HB1.out (Nat.le_refl _) hb2)
  cases B with
  | false =>
    clear hB hb2
    go_wp2_with fail
    refine (HAW.out w2 HB2.out).mono ?_
    rintro e w3 ⟨rfl, hb3⟩
    have HB3 := Lib.hid (below_next HB2.out (Nat.le_refl _) hb3)
    clear hb3
    go_wp2
    go_ret
    exact ⟨rfl, HB3.out⟩
  | true =>
    obtain ⟨h1, h2, h3⟩ := hB rfl
    have HTOP := Lib.hid (top_of h1 h2 h3 HBIG.out)
    have HKI2 := Lib.hid (HKI1.out.next hb2)
    have HKM2 := Lib.hid (HKM1.out.next hb2)
    have HCD2 := Lib.hid (HCD.out w2 HB2.out)
    have hcl : im.code.length ≤ 1000 := HTOP.out.code
    have HIV : Hid (Calls Tryd.prog 12 #[.agg #[.slice ac im.code.length cp, .int .i64 im.mem, .int .i64 im.stacks]] w2 (InvV im w2)) := Lib.hid (invert_any im (.slice ac im.code.length cp) w2 HCD2.out.1 HCD2.out.2.2 hcl HTOP.out.check HTOP.out.good)
    have b0 := HKI2.out.cell 0
    have b1 := HKI2.out.cell 1
    have b2 := HKI2.out.cell 2
    clear h1 h2 h3 hb2 HKI1 HKM1 hB
    go_wp2_with fail
    refine HIV.out.mono ?_
    rintro e w3 ⟨vi, rfl, hb3, hci⟩
    obtain ⟨bi, hbi⟩ : ∃ bi, w3.heap.size = bi := ⟨_, rfl⟩
    obtain ⟨W4, hW4⟩ : ∃ W4, W4 = w3.alloc (.cells #[vi, .int .i64 im.mem, .int .i64 im.stacks] 24) := ⟨_, rfl⟩
    have hb4 : Below w3.heap.size w3 W4 := by rw [hW4]; exact below_alloc _ _
    have kv : Blk W4 bi 24 #[vi, .int .i64 im.mem, .int .i64 im.stacks] := by rw [hW4]; exact Blk.new' hbi
    have HB4 := Lib.hid (below_next (below_next HB2.out (Nat.le_refl _) hb3) (Nat.le_refl _) hb4)
    have HKI4 := Lib.hid ((HKI2.out.next hb3).next hb4)
    have HKM4 := Lib.hid ((HKM2.out.next hb3).next hb4)
    have HKV4 := Lib.hid kv
    have HCI4 : Hid (CodeIn (fun j => j < W4.heap.size) W4 vi (invC im.code)) := Lib.hid (hci.below hb4).lt
    have HCD4 := Lib.hid (HCD.out W4 HB4.out)
    have HW4 := Lib.hid hW4
    have HBI := Lib.hid hbi
    have hsz4 : bi < W4.heap.size := kv.lt
    have hszb : b + 2 ≤ W4.heap.size := by have := HKM4.out.lt; omega
    obtain ⟨av, nv, cv, hvi⟩ : ∃ av nv cv, vi = .slice av nv cv := by
      obtain ⟨a, c, h, _⟩ := hci
      exact ⟨_, _, _, h⟩
    have hnl : im.code.length = im.code.length := rfl
    have HCL : Hid (Calls Tryd.prog 9 #[.pointer (some ⟨b + 1, 0, none⟩)] W4 (CloM m W4)) := Lib.hid (by
      have f := HTOP.out.fit
      have f1 := f.mem
      have f2 := f.stk
      have f3 := f.calls
      have f4 := f.inp
      have f5 := f.out
      have t1 := HTOP.out.mem
      have t2 := HTOP.out.stk
      exact Clone_any (P := P) (b + 1) m V W4 ⟨by rw [HCC.out]; exact HKM4.out, HCD4.out.2.1⟩ (by omega) (by omega) (by omega) (by omega) (by omega) (fun s hs => Nat.le_trans (HTOP.out.len s hs) (by decide)))
    have HMI : Hid (∀ w', Below W4.heap.size W4 w' → Calls Tryd.prog 13 #[.pointer (some ⟨b + 1, 0, none⟩), .int .i64 im.code.length] w' (MirR im.code.length m w')) := Lib.hid (fun w' hb' => by
      have f := HTOP.out.fit
      have f1 := f.mem
      have f2 := f.stk
      have f3 := f.calls
      have f4 := f.inp
      have f5 := f.out
      have t1 := HTOP.out.mem
      have t2 := HTOP.out.stk
      exact mirror_any (P := P) (b + 1) m V im.code.length w' ⟨by rw [HCC.out]; exact HKM4.out.next hb', (HCD.out w' (below_next HB4.out (Nat.le_refl _) hb')).2.1⟩ (by omega) (by omega) (by omega) (by omega) (by omega) (fun s hs => Nat.le_trans (HTOP.out.len s hs) (by decide)) hcl f.pc0 f.pc1 f.dir (fun a ha => inR_iff.1 (f.site a ha)))
    subst hvi
    have c0 : W4.cell? ⟨b, 0, none⟩ = some (.slice ac im.code.length cp) := HKI4.out.cell 0
    rw [hW4] at c0
    clear hb3 hb4 hci kv hW4 hbi HKI2 HKM2 b0 b1 b2 HIV hnl
    go_wp2_with fail
    rw [HBI.out, ← HW4.out]
    rw [← HW4.out] at c0
    refine HCL.out.mono ?_
    rintro e w5 ⟨V5, Gx, rfl, hb5, hm5⟩
    have HMC := Lib.hid (HMI.out w5 hb5)
    go_wp2_with fail
    refine HMC.out.mono ?_
    rintro e w6 ⟨V6, Gy, rfl, hb6, hm6⟩
    have HP6 := Lib.hid (pair_start HTOP.out HCD4.out.1 (fun j hj => Nat.lt_of_lt_of_le (HP.out j hj) HB4.out.size) HCI4.out HCD4.out.2.2 (by omega) hb5 hm5 hb6 hm6)
    have hb46 := below_next hb5 (Nat.le_refl _) hb6
    have v0 := cell_lo hb46 hsz4 (HKV4.out.cell 0)
    have v1 := cell_lo hb46 hsz4 (HKV4.out.cell 1)
    have v2 := cell_lo hb46 hsz4 (HKV4.out.cell 2)
    obtain ⟨Fx0, hFx0⟩ : ∃ F : Nat → Prop, F = fun j => W4.heap.size ≤ j ∧ j < w5.heap.size := ⟨_, rfl⟩
    obtain ⟨Fy0, hFy0⟩ : ∃ F : Nat → Prop, F = fun j => w5.heap.size ≤ j ∧ j < w6.heap.size := ⟨_, rfl⟩
    rw [← hFx0, ← hFy0] at HP6
    have HFT : Hid (Calls Tryd.prog 10 #[.agg #[.slice av nv cv, .int .i64 im.mem, .int .i64 im.stacks], .pointer (some ⟨Gy, 0, none⟩)] w6 (FitsR true w6)) := Lib.hid (HP6.out.fits HTOP.out)
    clear hb5 hm5 hb6 hm6 hb46 HCL HMI HMC hFx0 hFy0 c0
    go_wp2_with fail
    refine HFT.out.mono ?_
    rintro e w7 ⟨rfl, hb7⟩
    have HP7 := Lib.hid (HP6.out.later hb7 (Nat.le_refl _))
    have HBOX : Hid (∀ W, Below W4.heap.size W4 W → W.cell? ⟨b, 0, none⟩ = some (.slice ac im.code.length cp) ∧ W.cell? ⟨b, 1, none⟩ = some (.int .i64 im.mem) ∧ W.cell? ⟨b, 2, none⟩ = some (.int .i64 im.stacks) ∧ W.cell? ⟨bi, 0, none⟩ = some (.slice av nv cv) ∧ W.cell? ⟨bi, 1, none⟩ = some (.int .i64 im.mem) ∧ W.cell? ⟨bi, 2, none⟩ = some (.int .i64 im.stacks)) :=
      Lib.hid (fun W hb => ⟨cell_lo hb (by omega) (HKI4.out.cell 0), cell_lo hb (by omega) (HKI4.out.cell 1), cell_lo hb (by omega) (HKI4.out.cell 2), cell_lo hb hsz4 (HKV4.out.cell 0), cell_lo hb hsz4 (HKV4.out.cell 1), cell_lo hb hsz4 (HKV4.out.cell 2)⟩)
    clear hb7 HP6 HFT v0 v1 v2
    go_wp2_with fail
    go_loopg [45] N (fun q i wz => ∃ (j : Nat) (mj : Mach) (Vx Vy : MV) (Fx Fy : Nat → Prop), j + q = N ∧ i = .int .i64 j ∧ Hid (PairS im (.slice ac im.code.length cp) (.slice av nv cv) m W4.heap.size W4 Gx Gy j wz mj Vx Vy Fx Fy))
    case atStart => exact ⟨0, _, _, _, _, _, by omega, rfl, HP7⟩
    case round =>
      obtain ⟨j, mj, Vx, Vy, Fx, Fy, hj, rfl, hp⟩ := hrel
      obtain ⟨wz, hwz⟩ : ∃ wz : World, wz = wr := ⟨_, rfl⟩
      subst hwz
      have Hj := Lib.hid hj
      have hj0 : (0 : Int) ≤ (j : Int) := Int.natCast_nonneg _
      have hj60 : j ≤ 60 := by omega
      have hB4z := hp.out.below
      clear hj
      by_cases hlt : j < N
      · have hlt' : (j : Int) < (N : Int) := by omega
        have HFX : Hid (∀ k, Fx k → W4.heap.size ≤ k) := Lib.hid (fun k hk => Nat.le_of_not_lt (fun hl => hp.out.two.a.sep k hl hk))
        have HFY : Hid (∀ k, Fy k → W4.heap.size ≤ k) := Lib.hid (fun k hk => Nat.le_of_not_lt (fun hl => hp.out.two.b.sep k hl hk))
        have HX : Hid (∀ w', Touch Fy wz w' → Calls Tryd.prog 7 #[.agg #[.slice ac im.code.length cp, .int .i64 im.mem, .int .i64 im.stacks], .pointer (some ⟨Gx, 0, none⟩)] w' (ExecR Fx w' Gx (stepP im mj))) := Lib.hid (fun w' ht => hp.out.stepX ht)
        have HY : Hid (∀ w', Touch Fx wz w' → Calls Tryd.prog 7 #[.agg #[.slice av nv cv, .int .i64 im.mem, .int .i64 im.stacks], .pointer (some ⟨Gy, 0, none⟩)] w' (ExecR Fy w' Gy ((stepP im mj).1, mir im.code.length (stepP im mj).2))) := Lib.hid (fun w' ht => hp.out.stepY HTOP.out (by omega) ht)
        have HBZ := Lib.hid hB4z
        have HC0 := HBOX.out wz.drew (below_drew hB4z)
        clear hB4z
        go_wp2
        go_region_held3 (fun W => W.cell? ⟨b, 0, none⟩ = some (.slice ac im.code.length cp) ∧ W.cell? ⟨b, 1, none⟩ = some (.int .i64 im.mem) ∧ W.cell? ⟨b, 2, none⟩ = some (.int .i64 im.stacks) ∧ W.cell? ⟨bi, 0, none⟩ = some (.slice av nv cv) ∧ W.cell? ⟨bi, 1, none⟩ = some (.int .i64 im.mem) ∧ W.cell? ⟨bi, 2, none⟩ = some (.int .i64 im.stacks))
          (first | exact HC0 | exact HBOX.out _ HBXY.out | exact HBOX.out _ HBX.out | exact HBOX.out _ HBY.out)
          (first
            | (go_at_call 7; (with_reducible refine (HX.out _ HTY.out).mono ?_); rintro e wx ⟨Vx2, rfl, htx, hmx⟩; have HTX := Lib.hid htx; have HMX := Lib.hid hmx; have HBXY : Hid (Below W4.heap.size W4 wx) := Lib.hid (htx.to_below HBY.out (Nat.le_refl _) HFX.out); clear htx hmx)
            | (go_at_call 7; (with_reducible refine (HY.out _ HTX.out).mono ?_); rintro e wy ⟨Vy2, rfl, hty, hmy⟩; have HTY := Lib.hid hty; have HMY := Lib.hid hmy; have HBXY : Hid (Below W4.heap.size W4 wy) := Lib.hid (hty.to_below HBX.out (Nat.le_refl _) HFY.out); clear hty hmy)
            | (go_at_call 7; (with_reducible refine (HX.out _ (Touch.refl _ _).drew).mono ?_); rintro e wx ⟨Vx2, rfl, htx, hmx⟩; have HTX : Hid (Touch Fx wz wx) := Lib.hid htx.undrew; have HMX : Hid (MachW (grow Fx wz wx) wx Gx (stepP im mj).2 Vx2) := Lib.hid hmx; have HBX : Hid (Below W4.heap.size W4 wx) := Lib.hid (htx.undrew.to_below HBZ.out (Nat.le_refl _) HFX.out); clear htx hmx)
            | (go_at_call 7; (with_reducible refine (HY.out _ (Touch.refl _ _).drew).mono ?_); rintro e wy ⟨Vy2, rfl, hty, hmy⟩; have HTY : Hid (Touch Fy wz wy) := Lib.hid hty.undrew; have HMY : Hid (MachW (grow Fy wz wy) wy Gy (mir im.code.length (stepP im mj).2) Vy2) := Lib.hid hmy; have HBY : Hid (Below W4.heap.size W4 wy) := Lib.hid (hty.undrew.to_below HBZ.out (Nat.le_refl _) HFY.out); clear hty hmy))
        have HB := Lib.hid (hp.out.xy HTOP.out (by omega) (by omega) (Nat.le_refl _) HTX.out HMX.out HTY.out HMY.out)
        obtain ⟨e0, he0⟩ : ∃ e0, (stepP im mj).1 = e0 := ⟨_, rfl⟩
        rw [he0]
        have HE0 := Lib.hid he0
        have HTR := Lib.hid hp.out.trail
        have HMR := Lib.hid (HB.out.mirror hcl)
        clear he0 HC0 HX HY HTX HMX HTY HMY HBX HBXY
        go_wp2_with fail
        refine HMR.out.mono ?_
        rintro e w8 ⟨Vz, Gz, rfl, hb8, hm8⟩
        have HEQ := Lib.hid (HB.out.equal hb8 hm8)
        have HB8 := Lib.hid hb8
        clear hb8 hm8 HMR
        go_wp2_with fail
        refine HEQ.out.mono ?_
        rintro e w9 ⟨rfl, q9, rfl⟩
        have HB9 : Hid (Below wy.heap.size wy (w8.drewN q9)) := Lib.hid (drewN_below HB8.out q9)
        by_cases he : e0 = 0
        · subst he
          have HN := Lib.hid (HB.out.next HTR.out HE0.out HB9.out (Nat.le_refl _))
          go_wp2
          have hj := Hj.out
          go_roundg (N - (j + 1))
          case measure => omega
          case rel => exact ⟨j + 1, _, _, _, _, _, by omega, by go_num, HN⟩
        · have he1 : (e0 != 0) = true := by simpa using he
          have HBE := Lib.hid (below_next HB4.out (Nat.le_refl _) (below_next HB.out.below (Nat.le_refl _) HB9.out))
          clear he
          go_wp2
          go_ret
          exact ⟨rfl, HBE.out⟩
      · have hge : ¬ (j : Int) < (N : Int) := by omega
        have HBE := Lib.hid (below_next HB4.out (Nat.le_refl _) hB4z)
        clear hB4z
        go_wp2
        go_ret
        exact ⟨rfl, HBE.out⟩

end Go.Proofs.YtichiccohmeecaaDoor
