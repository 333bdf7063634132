/- The walk of the law StateApplies. -/
import Derived.Test.YtpbbiidfahaamaaStX6
import Derived.Test.YtpbbiidfahaamaaStUndoes
import Derived.Test.YtpbbiidfahaamaaStK1
namespace Go.Proofs.Ytpbbiidfahaamaa
open Go.RowKit

theorem applyP_in {s : St} {C : List Chg} (hf : ∀ c ∈ C, c.Fits) (hs : Big s) : InSt (applyP s C).2 := by
  by_cases h0 : (applyP s C).1 = 0
  · exact (apply_big hs hf (x := (applyP s C).2) (by rw [← h0])).1.2.2
  · have : (applyP s C).2 = st0 := by
      unfold applyP at h0 ⊢
      split
      · rename_i h1
        rw [if_pos h1] at h0
        unfold finP at h0 ⊢
        split
        · rename_i h2
          rw [if_pos h2] at h0
          exact absurd rfl h0
        · rfl
      · rfl
    rw [this]
    exact ⟨by simp [st0], by simp [st0], by simp [st0]⟩
theorem plain_at (C : List Chg) (hC : C.length ≤ 1000000) (hf : ∀ c ∈ C, c.Fits) (sv : Value) (w : World) (hI : ChgsAt w sv C) :
    Calls Try.prog 15 #[sv] w fun e w' => ∃ r, e = .returned r ∧ ChgsAt w' r C ∧ Below w.heap.size w w' := by
  refine (plain_any C sv w hI hC).mono ?_
  rintro e w' ⟨r, rfl, h, hb⟩
  exact ⟨r, rfl, ChgsAt.of_own h hf, hb⟩
theorem set3_any {B g : Nat} {w8 : World} {t : TypeId} {n0 n1 n2 : Value} (hk : Blk w8 g t #[n0, n1, n2]) (hg : g < B) (x y z : Value) :
    Blk (((w8.setCell ⟨g, 0, none⟩ x).setCell ⟨g, 1, none⟩ y).setCell ⟨g, 2, none⟩ z) g t #[x, y, z] ∧ Above B w8 (((w8.setCell ⟨g, 0, none⟩ x).setCell ⟨g, 1, none⟩ y).setCell ⟨g, 2, none⟩ z) := by
  refine ⟨((hk.set 0 x).set 1 y).set 2 z, ?_, fun b hB hlt => ?_⟩
  · simp [World.setCell]
  · rw [Below.heap_setCell _ ⟨g, 2, none⟩ z b (by show b ≠ g; omega), Below.heap_setCell _ ⟨g, 1, none⟩ y b (by show b ≠ g; omega), Below.heap_setCell _ ⟨g, 0, none⟩ x b (by show b ≠ g; omega)]
theorem above_alloc (B : Nat) (w : World) (o : Obj) : Above B w (w.alloc o) := ⟨(below_alloc w o).size, fun b _ hlt => (below_alloc w o).block b hlt⟩

set_option maxRecDepth 100000 in
set_option maxHeartbeats 8000000 in
theorem applieslaw_any (s : St) (C : List Chg) (va vc : Value) (w : World) (h1 : StAt w va s) (h2 : ChgsAt w vc C) :
    Calls Try.prog 10 #[va, vc] w fun e w' => e = .returned (.bool true) ∧ Below w.heap.size w w' := by
  obtain ⟨c1, i1, o1, rfl, hr1, -, -⟩ := id h1
  obtain ⟨a1, k1, rfl, -, -, -⟩ := id hr1
  obtain ⟨⟨a2, k2, rfl, -, -, -⟩, hfits⟩ := id h2
  clear hr1
  obtain ⟨n, hn⟩ : ∃ n, n = s.cells.length := ⟨_, rfl⟩
  obtain ⟨m, hm⟩ : ∃ m, m = C.length := ⟨_, rfl⟩
  rw [← hn] at h1 ⊢
  rw [← hm] at h2 ⊢
  obtain ⟨W, hW⟩ : ∃ W, W = w.alloc (.cells #[.slice a1 n k1, i1, o1] 25) := ⟨_, rfl⟩
  have hB0 : Below w.heap.size w W := by rw [hW]; exact below_alloc _ _
  have HBK : Hid (Blk W w.heap.size 25 #[.slice a1 n k1, i1, o1]) := by rw [hW]; exact Blk.new _ _ _
  have HCELL : Hid (∀ w', Below W.heap.size W w' → w'.cell? ⟨w.heap.size, 0, none⟩ = some (.slice a1 n k1) ∧ w'.cell? ⟨w.heap.size, 1, none⟩ = some i1 ∧ w'.cell? ⟨w.heap.size, 2, none⟩ = some o1) :=
    fun w' hb => ⟨(HBK.out.next hb).cell 0, (HBK.out.next hb).cell 1, (HBK.out.next hb).cell 2⟩
  have k1' := h1.below hB0 (Nat.le_refl _)
  have k2' := h2.below hB0 (Nat.le_refl _)
  have HS1 : Hid (∀ w', Below W.heap.size W w' → StAt w' (.agg #[.slice a1 n k1, i1, o1]) s) := fun w' hb => k1'.below hb (Nat.le_refl _)
  have HS2 : Hid (∀ w', Below W.heap.size W w' → ChgsAt w' (.slice a2 m k2) C) := fun w' hb => k2'.below hb (Nat.le_refl _)
  have HSA : Hid (∀ w', Below W.heap.size W w' → Calls Try.prog 14 #[.agg #[.slice a1 n k1, i1, o1]] w' _) := fun w' hb => small_any s _ w' (HS1.out w' hb)
  have HBG : Hid (smallB s = true → Big s) := fun hs => ((small_iff s).1 hs).big h1.inSt
  have HFT := Lib.hid hfits
  have HIN := Lib.hid h1.inSt
  have HM := Lib.hid hm
  have HW := Lib.hid hW
  have HB0 := Lib.hid hB0
  have HX : Hid (Below W.heap.size W W) := Below.refl _ _
  have hn0 : (0 : Int) ≤ (n : Int) := Int.natCast_nonneg _
  have hm0 : (0 : Int) ≤ (m : Int) := Int.natCast_nonneg _
  clear k1' k2' hB0 hW h1 h2 hn hm hfits
  obtain ⟨S1, hS1⟩ : ∃ S1, smallB s = S1 := ⟨_, rfl⟩
  have HSB2 := Lib.hid hS1
  rw [hS1] at HSA HBG
  clear hS1
  cases S1 with
  | false =>
    go_enter Try.func10, Try.ntmps10
    go_wp2_with fail
    rw [← HW.out]
    refine (awake_any _).mono ?_
    rintro e w1 ⟨rfl, hb1⟩
    have HX := Lib.hid (below_next HX.out (Nat.le_refl _) hb1)
    clear hb1
    obtain ⟨m0, m1, m2⟩ := HCELL.out _ HX.out
    go_wp2_with fail
    refine (HSA.out _ HX.out).mono ?_
    rintro e w2 ⟨rfl, hb2⟩
    have HF2 := Lib.hid (below_next HB0.out (Nat.le_refl _) (below_next HX.out (Nat.le_refl _) hb2))
    clear hb2 m0 m1 m2
    go_wp2
    go_ret
    exact ⟨rfl, HF2.out⟩
  | true =>
    have HBGS := Lib.hid (HBG.out (by simp))
    have HSMALL : Hid (smallB s = true) := HSB2.out
    go_enter Try.func10, Try.ntmps10
    go_wp2_with fail
    rw [← HW.out]
    refine (awake_any _).mono ?_
    rintro e w1 ⟨rfl, hb1⟩
    have HX := Lib.hid (below_next HX.out (Nat.le_refl _) hb1)
    clear hb1
    obtain ⟨m0, m1, m2⟩ := HCELL.out _ HX.out
    go_wp2_with fail
    refine (HSA.out _ HX.out).mono ?_
    rintro e w2 ⟨rfl, hb2⟩
    have HX := Lib.hid (below_next HX.out (Nat.le_refl _) hb2)
    clear hb2 m0 m1 m2
    obtain ⟨m0, m1, m2⟩ := HCELL.out _ HX.out
    have HF3 := Lib.hid (below_next HB0.out (Nat.le_refl _) HX.out)
    by_cases h6 : 6 < n
    · have h6' : (6 : Int) < (n : Int) := by omega
      go_wp2
      go_ret
      exact ⟨rfl, HF3.out⟩
    have h6' : (n : Int) ≤ 6 := by omega
    by_cases h20 : 20 < m
    · have h20' : (20 : Int) < (m : Int) := by omega
      go_wp2
      go_ret
      exact ⟨rfl, HF3.out⟩
    have h20' : (m : Int) ≤ 20 := by omega
    have h20n : C.length ≤ 20 := by have := HM.out; omega
    have HL := Lib.hid h20n
    clear HF3 h20n
    obtain ⟨X, hXX⟩ : ∃ X, (applyP s C).2 = X := ⟨_, rfl⟩
    obtain ⟨kk, hkk⟩ : ∃ kk, (applyP s C).1 = kk := ⟨_, rfl⟩
    have HIX : Hid (InSt X) := by unfold Hid; rw [← hXX]; exact applyP_in HFT.out HBGS.out
    have HP60 : Hid (∀ c, (part s c).length ≤ 60) := fun c => part_small ((small_iff s).1 HSMALL.out) c
    have HA1 : Hid (∀ vs vc w', StAt w' vs s → ChgsAt w' vc C → Calls Try.prog 31 #[vs, vc] w' fun e w'' => ∃ r, e = .returned (.tuple #[r, .int .i64 (kk : Nat)]) ∧ StNew w'.heap.size w'' r X ∧ Below w'.heap.size w' w'') := by
      intro vs vc w' h1 h2
      have := apply_any s C vs vc w' h1 h2 HBGS.out (by have := HL.out; omega)
      rwa [hXX, hkk] at this
    have HA2 : Hid (∀ vs vc w', StAt w' vs s → ChgsAt w' vc C → Calls Try.prog 32 #[vs, vc] w' fun e w'' => ∃ r, e = .returned (.tuple #[r, .int .i64 (kk : Nat)]) ∧ (∀ w3, Above w'.heap.size w'' w3 → StAt w3 r X) ∧ Below w'.heap.size w' w'') := by
      intro vs vc w' h1 h2
      have := rapply_any s C vs vc w' h1 h2 HBGS.out HP60.out (by have := HL.out; omega)
      rwa [hXX, hkk] at this
    clear hXX hkk
    have HSZ2 : Hid (Sized s) := by
      have h := (small_iff s).1 HSMALL.out
      exact ⟨by have := h.2.1; omega, by have := h.2.2.1; omega, fun l hl => by have := h.2.2.2 l hl; omega⟩
    go_wp2_with fail
    refine (rclone_any s _ _ (HS1.out _ HX.out) HSZ2.out (by have := ((small_iff s).1 HSMALL.out).1; omega)).mono ?_
    rintro e w4 ⟨r4, rfl, hst4, hb4⟩
    have HX := Lib.hid (below_next HX.out (Nat.le_refl _) hb4)
    have hst4' := hst4.at_ HIN.out
    obtain ⟨u1, u2, u3, rfl, ⟨b1, d1, rfl, -, -, -⟩, ⟨⟨b2, d2, rfl, -, -, -⟩, -⟩, ⟨⟨b3, d3, rfl, -, -, -⟩, -⟩⟩ := id hst4'
    obtain ⟨W5, hW5⟩ : ∃ W5, W5 = w4.alloc (.cells #[.slice b1 s.cells.length d1, .slice b2 s.inp.length d2, .slice b3 s.out.length d3] 25) := ⟨_, rfl⟩
    have hb45 : Below w4.heap.size w4 W5 := by rw [hW5]; exact below_alloc _ _
    have HBX5 : Hid (Blk W5 w4.heap.size 25 #[.slice b1 s.cells.length d1, .slice b2 s.inp.length d2, .slice b3 s.out.length d3]) := by rw [hW5]; exact Blk.new _ _ _
    have HS5 := Lib.hid (hst4'.below hb45 (Nat.le_refl _))
    have HX5 := Lib.hid (below_next HX.out (Nat.le_refl _) hb45)
    have HW5 := Lib.hid hW5
    clear hst4 hst4' hb4 hW5 hb45 m0 m1 m2 HX
    obtain ⟨m0, m1, m2⟩ := HCELL.out _ HX5.out
    go_upto_region 6 with (fail)
    rw [← HW5.out]
    clear HW5
    go_wp2_with fail
    refine (HA1.out _ _ _ (HS1.out _ HX5.out) (HS2.out _ HX5.out)).mono ?_
    rintro e w6 ⟨r6, rfl, hst6, hb6⟩
    have HBX6' := Lib.hid (HBX5.out.next hb6)
    have HS5' := Lib.hid (HS5.out.below hb6 (Nat.le_refl _))
    have HX := Lib.hid (below_next HX5.out (Nat.le_refl _) hb6)
    have hst6' := hst6.at_ HIX.out
    obtain ⟨x1, x2, x3, rfl, ⟨y1, z1, rfl, -, -, -⟩, ⟨⟨y2, z2, rfl, -, -, -⟩, -⟩, ⟨⟨y3, z3, rfl, -, -, -⟩, -⟩⟩ := id hst6'
    obtain ⟨W6, hW6⟩ : ∃ W6, W6 = w6.alloc (.cells #[.slice y1 X.cells.length z1, .slice y2 X.inp.length z2, .slice y3 X.out.length z3] 25) := ⟨_, rfl⟩
    have hb67 : Below w6.heap.size w6 W6 := by rw [hW6]; exact below_alloc _ _
    have HBX6 : Hid (Blk W6 w6.heap.size 25 #[.slice y1 X.cells.length z1, .slice y2 X.inp.length z2, .slice y3 X.out.length z3]) := by rw [hW6]; exact Blk.new _ _ _
    have HS6 := Lib.hid (hst6'.below hb67 (Nat.le_refl _))
    have HBW5 := Lib.hid (HBX6'.out.next hb67)
    have HS56 := Lib.hid (HS5'.out.below hb67 (Nat.le_refl _))
    have HX6 := Lib.hid (below_next HX.out (Nat.le_refl _) hb67)
    have HW6 := Lib.hid hW6
    clear hst6 hst6' hb6 hW6 hb67 m0 m1 m2 HX HBX6' HS5' HBX5 HS5
    obtain ⟨n0, n1, n2⟩ := HCELL.out _ HX6.out
    have hlt6 : w.heap.size < W6.heap.size := World.block_lt_of_cell? W6 _ n0
    have HX : Hid (Below W6.heap.size W6 W6) := Below.refl _ _
    go_upto_region 7 with (fail)
    rw [← HW6.out]
    clear HW6
    have HRV : Hid (∀ w', Below W6.heap.size W6 w' → Calls Try.prog 15 #[.slice a2 m k2] w' fun e w'' => ∃ r, e = .returned r ∧ ChgsAt w'' r C ∧ Below w'.heap.size w' w'') :=
      fun w' hb => plain_at C (by have := HL.out; omega) HFT.out _ w' (HS2.out _ (below_next HX6.out (Nat.le_refl _) hb))
    have HAP : Hid (∀ v w7, Below W6.heap.size W6 w7 → ChgsAt w7 v C → ∀ w', Below w7.heap.size w7 w' → Calls Try.prog 32 #[.agg #[.slice a1 n k1, i1, o1], v] w' fun e w'' => ∃ y1 z1 y2 z2 y3 z3, e = .returned (.tuple #[.agg #[.slice y1 X.cells.length z1, .slice y2 X.inp.length z2, .slice y3 X.out.length z3], .int .i64 (kk : Nat)]) ∧ (∀ w3, Above w'.heap.size w'' w3 → StAt w3 (.agg #[.slice y1 X.cells.length z1, .slice y2 X.inp.length z2, .slice y3 X.out.length z3]) X) ∧ Below w'.heap.size w' w'') :=
      fun v w7 h7 hv w' hb => (HA2.out _ _ w' (HS1.out _ (below_next HX6.out (Nat.le_refl _) (below_next h7 (Nat.le_refl _) hb))) (hv.below hb (Nat.le_refl _))).mono (by
        rintro e w'' ⟨r, rfl, hst, hb'⟩
        have hst' := hst w'' ⟨Nat.le_refl _, fun _ _ _ => rfl⟩
        obtain ⟨x1, x2, x3, rfl, ⟨y1, z1, rfl, -, -, -⟩, ⟨⟨y2, z2, rfl, -, -, -⟩, -⟩, ⟨⟨y3, z3, rfl, -, -, -⟩, -⟩⟩ := id hst'
        exact ⟨y1, z1, y2, z2, y3, z3, rfl, hst, hb'⟩)
    have HC2 : Hid (∀ w', Below W6.heap.size W6 w' → w'.cell? ⟨w.heap.size, 0, none⟩ = some (.slice a1 n k1) ∧ w'.cell? ⟨w.heap.size, 1, none⟩ = some i1 ∧ w'.cell? ⟨w.heap.size, 2, none⟩ = some o1) :=
      fun w' hb => ⟨cell_below hb hlt6 n0, cell_below hb hlt6 n1, cell_below hb hlt6 n2⟩
    go_region_held3 (fun w' => w'.cell? ⟨w.heap.size, 0, none⟩ = some (.slice a1 n k1) ∧ w'.cell? ⟨w.heap.size, 1, none⟩ = some i1 ∧ w'.cell? ⟨w.heap.size, 2, none⟩ = some o1)
      (first | exact HC2.out _ HX.out | exact HC2.out _ (below_drew HX.out) | exact HC2.out _ (HX.out.trans ((below_alloc _ _).mono HX.out.size)) | exact HC2.out _ (below_drew (HX.out.trans ((below_alloc _ _).mono HX.out.size))) | exact HC2.out _ (below_set3 HX.out HX7.out.size _ _ _) | exact HC2.out _ (below_set3 HX.out (Nat.le_refl _) _ _ _) | go_keep)
      (first
        | (go_at_call 15; refine (HRV.out _ (by first | exact Below.refl _ _ | exact below_alloc _ _ | exact below_drew (Below.refl _ _) | exact below_drew (below_alloc _ _))).mono ?_; rintro e w7 ⟨r7, rfl, hc7, hb7⟩; have HX : Hid (Below W6.heap.size W6 w7) := Lib.hid (by first | exact hb7 | exact below_undrew hb7 | exact (below_alloc _ _).trans (hb7.mono (below_alloc _ _).size) | exact (below_alloc _ _).trans ((below_undrew hb7).mono (below_alloc _ _).size) | exact below_undrew ((below_drew (below_alloc _ _)).trans (hb7.mono (below_drew (below_alloc _ _)).size))); have HX7 := HX; (try (have HK7 : Hid (Blk w7 W6.heap.size 25 #[.slice none 0 0, .slice none 0 0, .slice none 0 0]) := Lib.hid (by first | exact (box_past hb7).1 | exact (box_past (below_undrew hb7)).1))))
        | (go_at_call 32; refine (HAP.out _ _ HX7.out hc7 _ (by first | exact Below.refl _ _ | exact below_alloc _ _ | exact below_drew (Below.refl _ _) | exact below_drew (below_alloc _ _))).mono ?_; rintro e w8 ⟨y4, z4, y5, z5, y6, z6, rfl, hst8, hb8⟩; have HX : Hid (Below W6.heap.size W6 w8) := Lib.hid (HX7.out.trans ((show Below w7.heap.size w7 w8 by first | exact hb8 | exact below_undrew hb8 | exact (below_alloc _ _).trans (hb8.mono (below_alloc _ _).size)).mono HX7.out.size)); (try (have HK8 : Hid (Blk w8 w7.heap.size 25 #[.slice none 0 0, .slice none 0 0, .slice none 0 0]) := Lib.hid (by exact (box_past hb8).1))); (try (have HK8 : Hid (Blk w8 W6.heap.size 25 #[.slice none 0 0, .slice none 0 0, .slice none 0 0]) := Lib.hid (by exact (blk_past HK7.out hb8).1))); (try (have hz0 := HK8.out.free 0; have hz1 := HK8.out.free 1; have hz2 := HK8.out.free 2; have hy0 := HK8.out.cell 0; have hy1 := HK8.out.cell 1; have hy2 := HK8.out.cell 2; simp only [List.getElem?_toArray, List.getElem?_cons_succ, List.getElem?_cons_zero] at hy0 hy1 hy2))))
    case' refine_2.refine_3.refine_3.refine_1.refine_2.refine_1.refine_2.refine_3.refine_3.refine_3.refine_1.refine_2.refine_1.refine_2.refine_3 =>
      obtain ⟨wz, hwz⟩ : ∃ wz, wz = w8.alloc (.cells #[.slice y4 X.cells.length z4, .slice y5 X.inp.length z5, .slice y6 X.out.length z6] 25) := ⟨_, rfl⟩
      have HKZ : Hid (Blk wz w8.heap.size 25 #[.slice y4 X.cells.length z4, .slice y5 X.inp.length z5, .slice y6 X.out.length z6]) := by rw [hwz]; exact Blk.new _ _ _
      have HSZ : Hid (StAt wz (.agg #[.slice y4 X.cells.length z4, .slice y5 X.inp.length z5, .slice y6 X.out.length z6]) X) := by rw [hwz]; exact hst8 _ (above_alloc _ _ _)
      have HXZ : Hid (Below W6.heap.size W6 wz) := by rw [hwz]; exact HX.out.trans ((below_alloc _ _).mono HX.out.size)
      rw [← hwz]
      clear hwz
    case' refine_2.refine_3.refine_3.refine_1.refine_2.refine_2.refine_1.refine_2.refine_1.refine_2.refine_3.refine_3.refine_3.refine_1.refine_2.refine_3 =>
      have hh := set3_any (B := (w7.alloc (.cells #[.slice none 0 0, .slice none 0 0, .slice none 0 0] 25)).heap.size) HK8.out (by simp) (.slice y4 X.cells.length z4) (.slice y5 X.inp.length z5) (.slice y6 X.out.length z6)
      have HKZ := Lib.hid hh.1
      have HSZ := Lib.hid (hst8 _ hh.2)
      have HXZ := Lib.hid (below_set3 HX.out HX7.out.size (.slice y4 X.cells.length z4) (.slice y5 X.inp.length z5) (.slice y6 X.out.length z6))
      clear hh
      generalize World.setCell _ _ _ = wz at *
    case' refine_2.refine_3.refine_3.refine_2.refine_1.refine_2.refine_1.refine_2.refine_1.refine_2.refine_3.refine_3.refine_3.refine_1.refine_2.refine_3 =>
      have hh := set3_any HK8.out HK7.out.lt (.slice y4 X.cells.length z4) (.slice y5 X.inp.length z5) (.slice y6 X.out.length z6)
      have HKZ := Lib.hid hh.1
      have HSZ := Lib.hid (hst8 _ hh.2)
      have HXZ := Lib.hid (below_set3 HX.out (Nat.le_refl _) (.slice y4 X.cells.length z4) (.slice y5 X.inp.length z5) (.slice y6 X.out.length z6))
      clear hh
      generalize World.setCell _ _ _ = wz at *
    all_goals
      have HXW : Hid (Below W.heap.size W wz) := below_next HX6.out (Nat.le_refl _) HXZ.out
      have HB5 := Lib.hid (HBW5.out.next HXZ.out)
      have HB6 := Lib.hid (HBX6.out.next HXZ.out)
      have HEX : Hid (Calls Try.prog 20 #[.agg #[.slice y1 X.cells.length z1, .slice y2 X.inp.length z2, .slice y3 X.out.length z3], .agg #[.slice y4 X.cells.length z4, .slice y5 X.inp.length z5, .slice y6 X.out.length z6]] wz fun e w'' => e = .returned (.bool true) ∧ Below wz.heap.size wz w'') :=
        requal_true X _ _ wz (HS6.out.below HXZ.out (Nat.le_refl _)) HSZ.out
      have HEY : Hid (∀ w', Below wz.heap.size wz w' → Calls Try.prog 20 #[.agg #[.slice a1 n k1, i1, o1], .agg #[.slice b1 s.cells.length d1, .slice b2 s.inp.length d2, .slice b3 s.out.length d3]] w' fun e w'' => e = .returned (.bool true) ∧ Below w'.heap.size w' w'') :=
        fun w' hb => requal_true s _ _ w' (HS1.out _ (below_next HXW.out (Nat.le_refl _) hb)) ((HS56.out.below HXZ.out (Nat.le_refl _)).below hb (Nat.le_refl _))
      have he9 : ((kk : Int) == (kk : Int)) = true := by simp
      clear n0 n1 n2
      have p0 := HB6.out.cell 0
      have p1 := HB6.out.cell 1
      have p2 := HB6.out.cell 2
      have q0 := HKZ.out.cell 0
      have q1 := HKZ.out.cell 1
      have q2 := HKZ.out.cell 2
      simp only [List.getElem?_toArray, List.getElem?_cons_succ, List.getElem?_cons_zero] at q0 q1 q2 p0 p1 p2
      go_wp2_with fail
      refine HEX.out.mono ?_
      rintro e w11 ⟨rfl, hb11⟩
      clear p0 p1 p2 q0 q1 q2
      have HXX := Lib.hid hb11
      have HB51 := Lib.hid (HB5.out.next hb11)
      clear hb11
      obtain ⟨m0, m1, m2⟩ := HCELL.out _ (below_next HXW.out (Nat.le_refl _) HXX.out)
      have q0 := HB51.out.cell 0
      have q1 := HB51.out.cell 1
      have q2 := HB51.out.cell 2
      simp only [List.getElem?_toArray, List.getElem?_cons_succ, List.getElem?_cons_zero] at q0 q1 q2
      go_wp2_with fail
      refine (HEY.out _ HXX.out).mono ?_
      rintro e w12 ⟨rfl, hb12⟩
      have HF := Lib.hid (below_next HB0.out (Nat.le_refl _) (below_next HXW.out (Nat.le_refl _) (below_next HXX.out (Nat.le_refl _) hb12)))
      clear hb12 m0 m1 m2 q0 q1 q2
      go_wp2
      go_ret
      exact ⟨rfl, HF.out⟩

open Go.ChangeShapes Go.WideShapes in
theorem applieslaw_top {H : Type} {enc : TypeId × Value → H} {r : Reach} {b0 : Nat} {w : World} {base : Nat} {sp : Nat → Bool} {held : Bool}
    (va : Value) (da : DataW H) (pa : List MemPlace) (ha : Value.okWide Try.prog w r b0 25 va) (ta : DataW.Trod enc Try.prog w base sp held 25 va da pa)
    (vb : Value) (db : DataW H) (pb : List MemPlace) (hb : Value.okWide Try.prog w r b0 30 vb) (tb : DataW.Trod enc Try.prog w base sp held 30 vb db pb) (w' : World) (hw : w' = w := by rfl) :
    Calls Try.prog 10 #[va, vb] w' fun e w'' => e = .returned (.bool true) ∧ Below w'.heap.size w' w'' := by
  subst hw
  obtain ⟨s, h1⟩ := st_open ha ta
  obtain ⟨C, h2⟩ := chgs_top hb tb
  exact applieslaw_any s C va vb _ h1 h2
end Go.Proofs.Ytpbbiidfahaamaa
