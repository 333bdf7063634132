/- The walk of the law StateUndoes. -/
import Derived.Test.YtpbbiidfahaamaaStTurns
namespace Go.Proofs.Ytpbbiidfahaamaa
open Go.RowKit

/-- an Apply that need not go well -/
theorem apply_if (s : St) (C : List Chg) (vs vc : Value) (w : World) (h : StAt w vs s) (hC : ChgsAt w vc C) (hf : ∀ c ∈ C, c.Fits) (hs : Big s) (hCl : C.length ≤ 100000) :
    ∃ (k : Nat) (x : St), (Calls Try.prog 31 #[vs, vc] w fun e w' => ∃ r, e = .returned (.tuple #[r, .int .i64 (k : Nat)]) ∧ StNew w.heap.size w' r x ∧ Below w.heap.size w w') ∧ InSt x ∧ (k = 0 → Big x ∧ applyP x (reverseP C) = (0, s)) := by
  refine ⟨(applyP s C).1, (applyP s C).2, apply_any s C vs vc w h hC hs hCl, ?_, ?_⟩
  · by_cases h0 : (applyP s C).1 = 0
    · exact (apply_big hs hf (x := (applyP s C).2) (by rw [← h0])).1.2.2
    · have : (applyP s C).2 = st0 := by
        unfold applyP at h0 ⊢
        split
        · rename_i h1
          rw [if_pos h1] at h0
          unfold finP at h0 ⊢
          split
          · rename_i h2
            rw [if_pos h2] at h0
            exact absurd rfl h0
          · rfl
        · rfl
      rw [this]
      exact ⟨by simp [st0], by simp [st0], by simp [st0]⟩
  · intro h0
    have he : applyP s C = (0, (applyP s C).2) := by rw [← h0]
    exact ⟨(apply_big hs hf he).1, apply_back hs.2.1 he (fun c => (Good.run _ (Good.seq0 hs) hf c).lo)⟩

set_option maxRecDepth 100000 in
set_option maxHeartbeats 8000000 in
theorem undoeslaw_any (s : St) (C : List Chg) (va vc : Value) (w : World) (h1 : StAt w va s) (h2 : ChgsAt w vc C) :
    Calls Try.prog 12 #[va, vc] w fun e w' => e = .returned (.bool true) ∧ Below w.heap.size w w' := by
  obtain ⟨c1, i1, o1, rfl, hr1, -, -⟩ := id h1
  obtain ⟨a1, k1, rfl, -, -, -⟩ := id hr1
  obtain ⟨⟨a2, k2, rfl, -, -, -⟩, hfits⟩ := id h2
  clear hr1
  obtain ⟨n, hn⟩ : ∃ n, n = s.cells.length := ⟨_, rfl⟩
  obtain ⟨m, hm⟩ : ∃ m, m = C.length := ⟨_, rfl⟩
  rw [← hn] at h1 ⊢
  rw [← hm] at h2 ⊢
  obtain ⟨W, hW⟩ : ∃ W, W = w.alloc (.cells #[.slice a1 n k1, i1, o1] 25) := ⟨_, rfl⟩
  have hB0 : Below w.heap.size w W := by rw [hW]; exact below_alloc _ _
  have HBK : Hid (Blk W w.heap.size 25 #[.slice a1 n k1, i1, o1]) := by rw [hW]; exact Blk.new _ _ _
  have HCELL : Hid (∀ w', Below W.heap.size W w' → w'.cell? ⟨w.heap.size, 0, none⟩ = some (.slice a1 n k1) ∧ w'.cell? ⟨w.heap.size, 1, none⟩ = some i1 ∧ w'.cell? ⟨w.heap.size, 2, none⟩ = some o1) :=
    fun w' hb => ⟨(HBK.out.next hb).cell 0, (HBK.out.next hb).cell 1, (HBK.out.next hb).cell 2⟩
  have k1' := h1.below hB0 (Nat.le_refl _)
  have k2' := h2.below hB0 (Nat.le_refl _)
  have HS1 : Hid (∀ w', Below W.heap.size W w' → StAt w' (.agg #[.slice a1 n k1, i1, o1]) s) := fun w' hb => k1'.below hb (Nat.le_refl _)
  have HS2 : Hid (∀ w', Below W.heap.size W w' → ChgsAt w' (.slice a2 m k2) C) := fun w' hb => k2'.below hb (Nat.le_refl _)
  have HSA : Hid (∀ w', Below W.heap.size W w' → Calls Try.prog 14 #[.agg #[.slice a1 n k1, i1, o1]] w' _) := fun w' hb => small_any s _ w' (HS1.out w' hb)
  have HBG : Hid (smallB s = true → Big s) := fun hs => ((small_iff s).1 hs).big h1.inSt
  have HFT := Lib.hid hfits
  have HIN := Lib.hid h1.inSt
  have HM := Lib.hid hm
  have HW := Lib.hid hW
  have HB0 := Lib.hid hB0
  have HX : Hid (Below W.heap.size W W) := Below.refl _ _
  have hn0 : (0 : Int) ≤ (n : Int) := Int.natCast_nonneg _
  have hm0 : (0 : Int) ≤ (m : Int) := Int.natCast_nonneg _
  clear k1' k2' hB0 hW h1 h2 hn hm hfits
  generalize smallB s = S1 at *
  cases S1 with
  | false =>
    go_enter Try.func12, Try.ntmps12
    go_wp2_with fail
    rw [← HW.out]
    refine (awake_any _).mono ?_
    rintro e w1 ⟨rfl, hb1⟩
    have HX := Lib.hid (below_next HX.out (Nat.le_refl _) hb1)
    clear hb1
    obtain ⟨m0, m1, m2⟩ := HCELL.out _ HX.out
    go_wp2_with fail
    refine (HSA.out _ HX.out).mono ?_
    rintro e w2 ⟨rfl, hb2⟩
    have HF2 := Lib.hid (below_next HB0.out (Nat.le_refl _) (below_next HX.out (Nat.le_refl _) hb2))
    clear hb2 m0 m1 m2
    go_wp2
    go_ret
    exact ⟨rfl, HF2.out⟩
  | true =>
    have HBGS := Lib.hid (HBG.out (by simp))
    go_enter Try.func12, Try.ntmps12
    go_wp2_with fail
    rw [← HW.out]
    refine (awake_any _).mono ?_
    rintro e w1 ⟨rfl, hb1⟩
    have HX := Lib.hid (below_next HX.out (Nat.le_refl _) hb1)
    clear hb1
    obtain ⟨m0, m1, m2⟩ := HCELL.out _ HX.out
    go_wp2_with fail
    refine (HSA.out _ HX.out).mono ?_
    rintro e w2 ⟨rfl, hb2⟩
    have HX := Lib.hid (below_next HX.out (Nat.le_refl _) hb2)
    clear hb2 m0 m1 m2
    obtain ⟨m0, m1, m2⟩ := HCELL.out _ HX.out
    have HF3 := Lib.hid (below_next HB0.out (Nat.le_refl _) HX.out)
    by_cases h6 : 6 < n
    · have h6' : (6 : Int) < (n : Int) := by omega
      go_wp2
      go_ret
      exact ⟨rfl, HF3.out⟩
    have h6' : (n : Int) ≤ 6 := by omega
    by_cases h20 : 20 < m
    · have h20' : (20 : Int) < (m : Int) := by omega
      go_wp2
      go_ret
      exact ⟨rfl, HF3.out⟩
    have h20' : (m : Int) ≤ 20 := by omega
    have h20n : C.length ≤ 20 := by have := HM.out; omega
    have HL := Lib.hid h20n
    clear HF3 h20n
    go_wp2_with fail
    refine (revc_at C (by have := HL.out; omega) HFT.out _ _ (HS2.out _ HX.out)).mono ?_
    rintro e w3 ⟨r3, rfl, hc3, hb3⟩
    have HX := Lib.hid (below_next HX.out (Nat.le_refl _) hb3)
    have HC3 := Lib.hid hc3
    clear hb3 m0 m1 m2 hc3
    go_wp2_with fail
    refine (revc_at _ (by rw [reverseP_len]; have := HL.out; omega) (reverseP_fits HFT.out) _ _ HC3.out).mono ?_
    rintro e w4 ⟨r4, rfl, hc4, hb4⟩
    rw [reverseP_reverseP] at hc4
    have HX := Lib.hid (below_next HX.out (Nat.le_refl _) hb4)
    have HC4 := Lib.hid hc4
    obtain ⟨⟨a4, c4, rfl, -, -, -⟩, -⟩ := id hc4
    rw [← HM.out] at HC4 ⊢
    clear hb4 hc4 HC3
    obtain ⟨m0, m1, m2⟩ := HCELL.out _ HX.out
    have hne : ((m : Int) != (m : Int)) = false := by simp
    go_wp2
    go_loopg [6] m (fun q i wr => ∃ k : Nat, k + q = m ∧ i = .int .i64 k ∧ ∃ d, wr = w4.drewN d)
    case atStart => exact ⟨0, by omega, rfl, 0, rfl⟩
    case round =>
      obtain ⟨k, hk, rfl, d, rfl⟩ := hrel
      have Hk := Lib.hid hk
      have hkn : k ≤ m := by omega
      clear hk
      by_cases hlt : k < m
      · have hlt' : (k : Int) < (m : Int) := by omega
        have hk0 : (0 : Int) ≤ (k : Int) := Int.natCast_nonneg _
        have hlC : k < C.length := by have := HM.out; omega
        obtain ⟨g2, f2, rfl, hg2, hq2⟩ := (HS2.out _ HX.out).1.get (by omega)
        obtain ⟨g3, f3, rfl, hg3, hq3⟩ := HC4.out.1.get (by omega)
        obtain ⟨x, hx⟩ := get_lt HM.out hlt
        obtain ⟨m0, m1, m2, m3⟩ := hq2 k x hx
        obtain ⟨n0, n1, n2, n3⟩ := hq3 k x hx
        obtain ⟨x0, x1, x2, x3⟩ := x
        simp only at m0 m1 m2 m3 n0 n1 n2 n3
        have z0 : (x0 == x0) = true := by simp
        have z1 : (x1 == x1) = true := by simp
        have z2 : (x2 == x2) = true := by simp
        have z3 : (x3 == x3) = true := by simp
        clear hq2 hq3 hx hlC
        go_wp2_with fail
        go_quiet (fail)
        go_wp2
        have hk := Hk.out
        go_roundg (m - (k + 1))
        case measure => omega
        case rel => exact ⟨k + 1, by omega, by go_num, _, by first | rfl | exact World.drewN_drewN _ _ _⟩
      · have hge : ¬ (k : Int) < (m : Int) := by omega
        have HX := Lib.hid (drewN_below HX.out d)
        obtain ⟨w5, hw5⟩ : ∃ w5 : World, w5 = w4.drewN d := ⟨_, rfl⟩
        rw [← hw5] at HX ⊢
        clear hw5 m0 m1 m2
        obtain ⟨m0, m1, m2⟩ := HCELL.out _ HX.out
        obtain ⟨K, X, hap, hix, hbx⟩ := apply_if s C _ _ w5 (HS1.out _ HX.out) (HS2.out _ HX.out) HFT.out HBGS.out (by have := HL.out; omega)
        have HIX := Lib.hid hix
        have HBX := Lib.hid hbx
        have HAP1 := Lib.hid hap
        clear hap hix hbx
        go_wp2_with fail
        refine HAP1.out.mono ?_
        rintro e w6 ⟨r6, rfl, hst6, hb6⟩
        have HX := Lib.hid (below_next HX.out (Nat.le_refl _) hb6)
        have hst6' := hst6.at_ HIX.out
        obtain ⟨x1, x2, x3, rfl, ⟨y1, z1, rfl, -, -, -⟩, ⟨⟨y2, z2, rfl, -, -, -⟩, -⟩, ⟨⟨y3, z3, rfl, -, -, -⟩, -⟩⟩ := id hst6'
        obtain ⟨W6, hW6⟩ : ∃ W6, W6 = w6.alloc (.cells #[.slice y1 X.cells.length z1, .slice y2 X.inp.length z2, .slice y3 X.out.length z3] 25) := ⟨_, rfl⟩
        have hb67 : Below w6.heap.size w6 W6 := by rw [hW6]; exact below_alloc _ _
        have HBX6 : Hid (Blk W6 w6.heap.size 25 #[.slice y1 X.cells.length z1, .slice y2 X.inp.length z2, .slice y3 X.out.length z3]) := by rw [hW6]; exact Blk.new _ _ _
        have HS6 := Lib.hid (hst6'.below hb67 (Nat.le_refl _))
        have HX6 := Lib.hid (below_next HX.out (Nat.le_refl _) hb67)
        have HW6 := Lib.hid hW6
        clear hst6 hst6' hb6 hW6 hb67 m0 m1 m2 HX HAP1
        by_cases hK : K = 0
        case neg =>
          have hK' : ((K : Int) != 0) = true := by simp; omega
          have HF6 := Lib.hid (below_next HB0.out (Nat.le_refl _) HX6.out)
          go_wp2
          rw [← HW6.out]
          go_ret
          exact ⟨rfl, HF6.out⟩
        case pos =>
        subst hK
        obtain ⟨hbig, hback⟩ := HBX.out rfl
        have HBIG := Lib.hid hbig
        have HBACK := Lib.hid hback
        clear hbig hback HBX
        have hlt6 := HBX6.out.lt
        have n0 : W6.cell? ⟨w6.heap.size, 0, none⟩ = some (.slice y1 X.cells.length z1) := HBX6.out.cell 0
        have n1 : W6.cell? ⟨w6.heap.size, 1, none⟩ = some (.slice y2 X.inp.length z2) := HBX6.out.cell 1
        have n2 : W6.cell? ⟨w6.heap.size, 2, none⟩ = some (.slice y3 X.out.length z3) := HBX6.out.cell 2
        have HX : Hid (Below W6.heap.size W6 W6) := Below.refl _ _
        go_upto_region 16 with (fail)
        rw [← HW6.out]
        clear HW6
        have HRV : Hid (∀ w', Below W6.heap.size W6 w' → Calls Try.prog 33 #[.slice a2 m k2] w' fun e w'' => ∃ r, e = .returned r ∧ ChgsAt w'' r (reverseP C) ∧ Below w'.heap.size w' w'') :=
          fun w' hb => revc_at C (by have := HL.out; omega) HFT.out _ w' (HS2.out _ (below_next HX6.out (Nat.le_refl _) hb))
        have HAP : Hid (∀ v w7, Below W6.heap.size W6 w7 → ChgsAt w7 v (reverseP C) → ∀ w', Below w7.heap.size w7 w' → Calls Try.prog 31 #[.agg #[.slice y1 X.cells.length z1, .slice y2 X.inp.length z2, .slice y3 X.out.length z3], v] w' fun e w'' => ∃ y1 z1 y2 z2 y3 z3, e = .returned (.tuple #[.agg #[.slice y1 s.cells.length z1, .slice y2 s.inp.length z2, .slice y3 s.out.length z3], .int .i64 0]) ∧ StNew w'.heap.size w'' (.agg #[.slice y1 s.cells.length z1, .slice y2 s.inp.length z2, .slice y3 s.out.length z3]) s ∧ Below w'.heap.size w' w'') :=
          fun v w7 h7 hv w' hb => (apply_at X s _ _ _ w' (HS6.out.below (below_next h7 (Nat.le_refl _) hb) (Nat.le_refl _)) (hv.below hb (Nat.le_refl _)) HBIG.out (by rw [reverseP_len]; have := HL.out; omega) HBACK.out).mono (by
            rintro e w'' ⟨r, rfl, hst, hb'⟩
            have hst' := hst.at_ HIN.out
            obtain ⟨x1, x2, x3, rfl, ⟨y1, z1, rfl, -, -, -⟩, ⟨⟨y2, z2, rfl, -, -, -⟩, -⟩, ⟨⟨y3, z3, rfl, -, -, -⟩, -⟩⟩ := id hst'
            exact ⟨y1, z1, y2, z2, y3, z3, rfl, hst, hb'⟩)
        have HC2 : Hid (∀ w', Below W6.heap.size W6 w' → w'.cell? ⟨w6.heap.size, 0, none⟩ = some (.slice y1 X.cells.length z1) ∧ w'.cell? ⟨w6.heap.size, 1, none⟩ = some (.slice y2 X.inp.length z2) ∧ w'.cell? ⟨w6.heap.size, 2, none⟩ = some (.slice y3 X.out.length z3)) :=
          fun w' hb => ⟨cell_below hb hlt6 n0, cell_below hb hlt6 n1, cell_below hb hlt6 n2⟩
        go_region_held3 (fun w' => w'.cell? ⟨w6.heap.size, 0, none⟩ = some (.slice y1 X.cells.length z1) ∧ w'.cell? ⟨w6.heap.size, 1, none⟩ = some (.slice y2 X.inp.length z2) ∧ w'.cell? ⟨w6.heap.size, 2, none⟩ = some (.slice y3 X.out.length z3))
          (first | exact HC2.out _ HX.out | exact HC2.out _ (below_drew HX.out) | exact HC2.out _ (HX.out.trans ((below_alloc _ _).mono HX.out.size)) | exact HC2.out _ (below_drew (HX.out.trans ((below_alloc _ _).mono HX.out.size))) | exact HC2.out _ (below_set3 HX.out HX7.out.size _ _ _) | exact HC2.out _ (below_set3 HX.out (Nat.le_refl _) _ _ _) | go_keep)
          (first
            | (go_at_call 33; refine (HRV.out _ (by first | exact Below.refl _ _ | exact below_alloc _ _ | exact below_drew (Below.refl _ _) | exact below_drew (below_alloc _ _))).mono ?_; rintro e w7 ⟨r7, rfl, hc7, hb7⟩; have HX : Hid (Below W6.heap.size W6 w7) := Lib.hid (by first | exact hb7 | exact below_undrew hb7 | exact (below_alloc _ _).trans (hb7.mono (below_alloc _ _).size) | exact (below_alloc _ _).trans ((below_undrew hb7).mono (below_alloc _ _).size) | exact below_undrew ((below_drew (below_alloc _ _)).trans (hb7.mono (below_drew (below_alloc _ _)).size))); have HX7 := HX; (try (have HK7 : Hid (Blk w7 W6.heap.size 25 #[.slice none 0 0, .slice none 0 0, .slice none 0 0]) := Lib.hid (by first | exact (box_past hb7).1 | exact (box_past (below_undrew hb7)).1))))
            | (go_at_call 31; refine (HAP.out _ _ HX7.out hc7 _ (by first | exact Below.refl _ _ | exact below_alloc _ _ | exact below_drew (Below.refl _ _) | exact below_drew (below_alloc _ _))).mono ?_; rintro e w8 ⟨y4, z4, y5, z5, y6, z6, rfl, hst8, hb8⟩; have HX : Hid (Below W6.heap.size W6 w8) := Lib.hid (HX7.out.trans ((show Below w7.heap.size w7 w8 by first | exact hb8 | exact below_undrew hb8 | exact (below_alloc _ _).trans (hb8.mono (below_alloc _ _).size)).mono HX7.out.size)); (try (have HK8 : Hid (Blk w8 w7.heap.size 25 #[.slice none 0 0, .slice none 0 0, .slice none 0 0]) := Lib.hid (by exact (box_past hb8).1))); (try (have HK8 : Hid (Blk w8 W6.heap.size 25 #[.slice none 0 0, .slice none 0 0, .slice none 0 0]) := Lib.hid (by exact (blk_past HK7.out hb8).1))); (try (have hz0 := HK8.out.free 0; have hz1 := HK8.out.free 1; have hz2 := HK8.out.free 2; have hy0 := HK8.out.cell 0; have hy1 := HK8.out.cell 1; have hy2 := HK8.out.cell 2; simp only [List.getElem?_toArray, List.getElem?_cons_succ, List.getElem?_cons_zero] at hy0 hy1 hy2))))
        case' refine_2.refine_3.refine_3.refine_1.refine_2.refine_1.refine_2.refine_3.refine_3.refine_3.refine_1.refine_2.refine_1.refine_2.refine_3 =>
          obtain ⟨wz, hwz⟩ : ∃ wz, wz = w8.alloc (.cells #[.slice y4 s.cells.length z4, .slice y5 s.inp.length z5, .slice y6 s.out.length z6] 25) := ⟨_, rfl⟩
          have HKZ : Hid (Blk wz w8.heap.size 25 #[.slice y4 s.cells.length z4, .slice y5 s.inp.length z5, .slice y6 s.out.length z6]) := by rw [hwz]; exact Blk.new _ _ _
          have HSZ : Hid (StAt wz (.agg #[.slice y4 s.cells.length z4, .slice y5 s.inp.length z5, .slice y6 s.out.length z6]) s) := by rw [hwz]; exact (hst8.at_ HIN.out).below (below_alloc _ _) (Nat.le_refl _)
          have HXZ : Hid (Below W6.heap.size W6 wz) := by rw [hwz]; exact HX.out.trans ((below_alloc _ _).mono HX.out.size)
          rw [← hwz]
          clear hwz
        case' refine_2.refine_3.refine_3.refine_1.refine_2.refine_2.refine_1.refine_2.refine_1.refine_2.refine_3.refine_3.refine_3.refine_1.refine_2.refine_3 =>
          have hh := set3_new hst8 HIN.out HK8.out (by simp) (.slice y4 s.cells.length z4) (.slice y5 s.inp.length z5) (.slice y6 s.out.length z6)
          have HKZ := Lib.hid hh.1
          have HSZ := Lib.hid hh.2
          have HXZ := Lib.hid (below_set3 HX.out HX7.out.size (.slice y4 s.cells.length z4) (.slice y5 s.inp.length z5) (.slice y6 s.out.length z6))
          clear hh
          generalize World.setCell _ _ _ = wz at *
        case' refine_2.refine_3.refine_3.refine_2.refine_1.refine_2.refine_1.refine_2.refine_1.refine_2.refine_3.refine_3.refine_3.refine_1.refine_2.refine_3 =>
          have hh := set3_new hst8 HIN.out HK8.out HK7.out.lt (.slice y4 s.cells.length z4) (.slice y5 s.inp.length z5) (.slice y6 s.out.length z6)
          have HKZ := Lib.hid hh.1
          have HSZ := Lib.hid hh.2
          have HXZ := Lib.hid (below_set3 HX.out (Nat.le_refl _) (.slice y4 s.cells.length z4) (.slice y5 s.inp.length z5) (.slice y6 s.out.length z6))
          clear hh
          generalize World.setCell _ _ _ = wz at *
        all_goals
          have HXW : Hid (Below W.heap.size W wz) := below_next HX6.out (Nat.le_refl _) HXZ.out
          have HEY : Hid (Calls Try.prog 20 #[.agg #[.slice y4 s.cells.length z4, .slice y5 s.inp.length z5, .slice y6 s.out.length z6], .agg #[.slice a1 n k1, i1, o1]] wz fun e w'' => e = .returned (.bool true) ∧ Below wz.heap.size wz w'') :=
            requal_true s _ _ wz HSZ.out (HS1.out _ HXW.out)
          clear n0 n1 n2
          obtain ⟨m0, m1, m2⟩ := HCELL.out _ HXW.out
          have q0 := HKZ.out.cell 0
          have q1 := HKZ.out.cell 1
          have q2 := HKZ.out.cell 2
          simp only [List.getElem?_toArray, List.getElem?_cons_succ, List.getElem?_cons_zero] at q0 q1 q2
          go_wp2_with fail
          refine HEY.out.mono ?_
          rintro e w11 ⟨rfl, hb11⟩
          have HF := Lib.hid (below_next HB0.out (Nat.le_refl _) (below_next HXW.out (Nat.le_refl _) hb11))
          clear hb11 m0 m1 m2
          go_wp2
          go_ret
          exact ⟨rfl, HF.out⟩

open Go.ChangeShapes Go.WideShapes in
theorem undoeslaw_top {H : Type} {enc : TypeId × Value → H} {r : Reach} {b0 : Nat} {w : World} {base : Nat} {sp : Nat → Bool} {held : Bool}
    (va : Value) (da : DataW H) (pa : List MemPlace) (ha : Value.okWide Try.prog w r b0 25 va) (ta : DataW.Trod enc Try.prog w base sp held 25 va da pa)
    (vb : Value) (db : DataW H) (pb : List MemPlace) (hb : Value.okWide Try.prog w r b0 30 vb) (tb : DataW.Trod enc Try.prog w base sp held 30 vb db pb) (w' : World) (hw : w' = w := by rfl) :
    Calls Try.prog 12 #[va, vb] w' fun e w'' => e = .returned (.bool true) ∧ Below w'.heap.size w' w'' := by
  subst hw
  obtain ⟨s, h1⟩ := st_open ha ta
  obtain ⟨C, h2⟩ := chgs_top hb tb
  exact undoeslaw_any s C va vb _ h1 h2
end Go.Proofs.Ytpbbiidfahaamaa
