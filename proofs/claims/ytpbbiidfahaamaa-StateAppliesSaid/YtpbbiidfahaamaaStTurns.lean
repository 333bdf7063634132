/- The walk of the law StateTurns. -/
import Derived.Test.YtpbbiidfahaamaaStX2
import Derived.Test.YtpbbiidfahaamaaStStarts
import Derived.Test.YtpbbiidfahaamaaStR3
namespace Go.Proofs.Ytpbbiidfahaamaa
open Go.RowKit

theorem apply_at (s x : St) (C : List Chg) (vs vc : Value) (w : World) (h : StAt w vs s) (hC : ChgsAt w vc C) (hs : Big s) (hCl : C.length ≤ 100000) (he : applyP s C = (0, x)) :
    Calls Try.prog 31 #[vs, vc] w fun e w' => ∃ r, e = .returned (.tuple #[r, .int .i64 0]) ∧ StNew w.heap.size w' r x ∧ Below w.heap.size w w' := by
  have := apply_any s C vs vc w h hC hs hCl
  rw [he] at this
  exact this
theorem revc_at (C : List Chg) (hC : C.length ≤ 1000000) (hf : ∀ c ∈ C, c.Fits) (sv : Value) (w : World) (hI : ChgsAt w sv C) :
    Calls Try.prog 33 #[sv] w fun e w' => ∃ r, e = .returned r ∧ ChgsAt w' r (reverseP C) ∧ Below w.heap.size w w' := by
  refine (revc_any C hC sv w hI).mono ?_
  rintro e w' ⟨r, rfl, h, hb⟩
  rw [← reverseP_len] at h
  exact ⟨r, rfl, ChgsAt.of_own h (reverseP_fits hf), hb⟩
theorem requal_true (s : St) (u v : Value) (w : World) (h1 : StAt w u s) (h2 : StAt w v s) :
    Calls Try.prog 20 #[u, v] w fun e w' => e = .returned (.bool true) ∧ Below w.heap.size w w' := by
  have := requal_any s s u v w h1 h2
  rwa [decide_eq_true rfl] at this

theorem box_past {A w7 : World} {t : TypeId} {cs : Array Value} (hb : Below (A.alloc (.cells cs t)).heap.size (A.alloc (.cells cs t)) w7) :
    Blk w7 A.heap.size t cs ∧ w7.frozen? ⟨A.heap.size, 0, none⟩ = false ∧ w7.frozen? ⟨A.heap.size, 1, none⟩ = false ∧ w7.frozen? ⟨A.heap.size, 2, none⟩ = false :=
  have h := (Blk.new A t cs).next hb
  ⟨h, h.free 0, h.free 1, h.free 2⟩
theorem below_set3 {B g : Nat} {W w' : World} (h : Below B W w') (hg : B ≤ g) (x y z : Value) : Below B W (((w'.setCell ⟨g, 0, none⟩ x).setCell ⟨g, 1, none⟩ y).setCell ⟨g, 2, none⟩ z) :=
  ((h.setCell (p := ⟨g, 0, none⟩) hg x).setCell (p := ⟨g, 1, none⟩) hg y).setCell (p := ⟨g, 2, none⟩) hg z
theorem set3_new {B g : Nat} {w8 : World} {t : TypeId} {v n0 n1 n2 : Value} {s : St} (hst : StNew B w8 v s) (hi : InSt s) (hk : Blk w8 g t #[n0, n1, n2]) (hg : g < B) (x y z : Value) :
    Blk (((w8.setCell ⟨g, 0, none⟩ x).setCell ⟨g, 1, none⟩ y).setCell ⟨g, 2, none⟩ z) g t #[x, y, z] ∧ StAt (((w8.setCell ⟨g, 0, none⟩ x).setCell ⟨g, 1, none⟩ y).setCell ⟨g, 2, none⟩ z) v s := by
  refine ⟨((hk.set 0 x).set 1 y).set 2 z, StNew.at_ (hst.above ⟨?_, fun b hB hlt => ?_⟩) hi⟩
  · simp [World.setCell]
  · rw [Below.heap_setCell _ ⟨g, 2, none⟩ z b (by show b ≠ g; omega), Below.heap_setCell _ ⟨g, 1, none⟩ y b (by show b ≠ g; omega), Below.heap_setCell _ ⟨g, 0, none⟩ x b (by show b ≠ g; omega)]
theorem blk_past {A w7 : World} {g : Nat} {t : TypeId} {cs : Array Value} (h : Blk A g t cs) (hb : Below A.heap.size A w7) :
    Blk w7 g t cs ∧ w7.frozen? ⟨g, 0, none⟩ = false ∧ w7.frozen? ⟨g, 1, none⟩ = false ∧ w7.frozen? ⟨g, 2, none⟩ = false :=
  have h := h.next hb
  ⟨h, h.free 0, h.free 1, h.free 2⟩

set_option maxRecDepth 100000 in
set_option maxHeartbeats 8000000 in
theorem turnslaw_any (a b : St) (va vb : Value) (w : World) (h1 : StAt w va a) (h2 : StAt w vb b) :
    Calls Try.prog 11 #[va, vb] w fun e w' => e = .returned (.bool true) ∧ Below w.heap.size w w' := by
  obtain ⟨c1, i1, o1, rfl, hr1, -, -⟩ := id h1
  obtain ⟨c2, i2, o2, rfl, hr2, -, -⟩ := id h2
  obtain ⟨a1, k1, rfl, -, -, -⟩ := id hr1
  obtain ⟨a2, k2, rfl, -, -, -⟩ := id hr2
  clear hr1 hr2
  obtain ⟨n, hn⟩ : ∃ n, n = a.cells.length := ⟨_, rfl⟩
  obtain ⟨m, hm⟩ : ∃ m, m = b.cells.length := ⟨_, rfl⟩
  rw [← hn] at h1 ⊢
  rw [← hm] at h2 ⊢
  obtain ⟨W, hW⟩ : ∃ W, W = (w.alloc (.cells #[.slice a1 n k1, i1, o1] 25)).alloc (.cells #[.slice a2 m k2, i2, o2] 25) := ⟨_, rfl⟩
  have hB0 : Below w.heap.size w W := by rw [hW]; exact ((Below.refl _ _).alloc (Nat.le_refl _) _).alloc (by simp) _
  have hWs : w.heap.size + 1 < W.heap.size := by rw [hW]; simp
  obtain ⟨r0, r1, r2⟩ := three_new w (.slice a1 n k1) i1 o1 25
  have q := three_new (w.alloc (.cells #[.slice a1 n k1, i1, o1] 25)) (.slice a2 m k2) i2 o2 25
  have hs1 : (w.alloc (.cells #[.slice a1 n k1, i1, o1] 25)).heap.size = w.heap.size + 1 := by simp
  rw [← hW, hs1] at q
  have p0 := alloc_cell r0 (.cells #[.slice a2 m k2, i2, o2] 25)
  have p1 := alloc_cell r1 (.cells #[.slice a2 m k2, i2, o2] 25)
  have p2 := alloc_cell r2 (.cells #[.slice a2 m k2, i2, o2] 25)
  rw [← hW] at p0 p1 p2
  have HCELL : Hid (∀ w', Below W.heap.size W w' → (w'.cell? ⟨w.heap.size, 0, none⟩ = some (.slice a1 n k1) ∧ w'.cell? ⟨w.heap.size, 1, none⟩ = some i1 ∧ w'.cell? ⟨w.heap.size, 2, none⟩ = some o1) ∧ w'.cell? ⟨w.heap.size + 1, 0, none⟩ = some (.slice a2 m k2) ∧ w'.cell? ⟨w.heap.size + 1, 1, none⟩ = some i2 ∧ w'.cell? ⟨w.heap.size + 1, 2, none⟩ = some o2) :=
    fun w' hb => ⟨⟨cell_below hb (by omega) p0, cell_below hb (by omega) p1, cell_below hb (by omega) p2⟩, cell_below hb hWs q.1, cell_below hb hWs q.2.1, cell_below hb hWs q.2.2⟩
  have k1' := h1.below hB0 (Nat.le_refl _)
  have k2' := h2.below hB0 (Nat.le_refl _)
  have HS1 : Hid (∀ w', Below W.heap.size W w' → StAt w' (.agg #[.slice a1 n k1, i1, o1]) a) := fun w' hb => k1'.below hb (Nat.le_refl _)
  have HS2 : Hid (∀ w', Below W.heap.size W w' → StAt w' (.agg #[.slice a2 m k2, i2, o2]) b) := fun w' hb => k2'.below hb (Nat.le_refl _)
  have HSA : Hid (∀ w', Below W.heap.size W w' → Calls Try.prog 14 #[.agg #[.slice a1 n k1, i1, o1]] w' _) := fun w' hb => small_any a _ w' (HS1.out w' hb)
  have HSB : Hid (∀ w', Below W.heap.size W w' → Calls Try.prog 14 #[.agg #[.slice a2 m k2, i2, o2]] w' _) := fun w' hb => small_any b _ w' (HS2.out w' hb)
  have HDI : Hid (smallB a = true → smallB b = true → n = m → ∃ DD : List Chg, (∀ w', Below W.heap.size W w' → Calls Try.prog 16 #[.agg #[.slice a1 n k1, i1, o1], .agg #[.slice a2 m k2, i2, o2]] w' fun e w'' => ∃ r, e = .returned r ∧ w''.ownsRow w'.heap.size 61 4 r DD.length (chgsV DD) ∧ Below w'.heap.size w' w'') ∧
      (DD.length ≤ 5000 ∧ ∀ c ∈ DD, c.Fits) ∧
      (∀ w' v, Below W.heap.size W w' → ChgsAt w' v DD → Calls Try.prog 31 #[.agg #[.slice a1 n k1, i1, o1], v] w' fun e w'' => ∃ r, e = .returned (.tuple #[r, .int .i64 0]) ∧ StNew w'.heap.size w'' r b ∧ Below w'.heap.size w' w'') ∧
      (∀ w' v, Below W.heap.size W w' → ChgsAt w' v (reverseP DD) → Calls Try.prog 31 #[.agg #[.slice a2 m k2, i2, o2], v] w' fun e w'' => ∃ r, e = .returned (.tuple #[r, .int .i64 0]) ∧ StNew w'.heap.size w'' r a ∧ Below w'.heap.size w' w'') ∧
      (∀ w', Below W.heap.size W w' → Calls Try.prog 20 #[.agg #[.slice a1 n k1, i1, o1], .agg #[.slice a2 m k2, i2, o2]] w' fun e w'' => e = .returned (.bool ((DD.length : Int) == 0)) ∧ Below w'.heap.size w' w'')) := by
    intro sa sb hnm
    have ha := ((small_iff a).1 sa).big h1.inSt
    have hb := ((small_iff b).1 sb).big h2.inSt
    obtain ⟨d1, d2⟩ := diffP_ok h1.inSt h2.inSt ((small_iff a).1 sa) ((small_iff b).1 sb)
    obtain ⟨t1, t2, t3⟩ := turns ha hb d2 (by omega)
    refine ⟨diffP a b, fun w' hb => diff_any a b _ _ w' (HS1.out w' hb) (HS2.out w' hb) ((small_iff a).1 sa) ((small_iff b).1 sb), ⟨d1, d2⟩,
      fun w' v hb' hv => apply_at a b _ _ _ w' (HS1.out w' hb') hv ha (by omega) t1, fun w' v hb' hv => apply_at b a _ _ _ w' (HS2.out w' hb') hv hb (by rw [reverseP_len]; omega) t2, fun w' hb' => ?_⟩
    have e : ((((diffP a b).length : Nat) : Int) == 0) = decide (a = b) := by
      rw [Bool.eq_iff_iff, beq_iff_eq, decide_eq_true_eq, ← t3, Int.natCast_eq_zero, List.length_eq_zero_iff]
    rw [e]
    exact requal_any a b _ _ w' (HS1.out w' hb') (HS2.out w' hb')
  have HIN : Hid (InSt a ∧ InSt b) := ⟨h1.inSt, h2.inSt⟩
  have HW := Lib.hid hW
  have HB0 := Lib.hid hB0
  have HX : Hid (Below W.heap.size W W) := Below.refl _ _
  have hn0 : (0 : Int) ≤ (n : Int) := Int.natCast_nonneg _
  have hm0 : (0 : Int) ≤ (m : Int) := Int.natCast_nonneg _
  clear k1' k2' p0 p1 p2 q r0 r1 r2 hs1 hB0 hW h1 h2 hWs hn hm
  generalize smallB a = S1 at *
  generalize smallB b = S2 at *
  cases S1 with
  | false =>
    go_enter Try.func11, Try.ntmps11
    go_wp2_with fail
    rw [← HW.out]
    refine (awake_any _).mono ?_
    rintro e w1 ⟨rfl, hb1⟩
    have HX := Lib.hid (below_next HX.out (Nat.le_refl _) hb1)
    clear hb1
    obtain ⟨⟨m0, m1, m2⟩, n0, n1, n2⟩ := HCELL.out _ HX.out
    go_wp2_with fail
    refine (HSA.out _ HX.out).mono ?_
    rintro e w2 ⟨rfl, hb2⟩
    have HF2 := Lib.hid (below_next HB0.out (Nat.le_refl _) (below_next HX.out (Nat.le_refl _) hb2))
    clear hb2 m0 m1 m2 n0 n1 n2
    go_wp2
    go_ret
    exact ⟨rfl, HF2.out⟩
  | true =>
    go_enter Try.func11, Try.ntmps11
    go_wp2_with fail
    rw [← HW.out]
    refine (awake_any _).mono ?_
    rintro e w1 ⟨rfl, hb1⟩
    have HX := Lib.hid (below_next HX.out (Nat.le_refl _) hb1)
    clear hb1
    obtain ⟨⟨m0, m1, m2⟩, n0, n1, n2⟩ := HCELL.out _ HX.out
    go_wp2_with fail
    refine (HSA.out _ HX.out).mono ?_
    rintro e w2 ⟨rfl, hb2⟩
    have HX := Lib.hid (below_next HX.out (Nat.le_refl _) hb2)
    clear hb2 m0 m1 m2 n0 n1 n2
    obtain ⟨⟨m0, m1, m2⟩, n0, n1, n2⟩ := HCELL.out _ HX.out
    go_wp2_with fail
    refine (HSB.out _ HX.out).mono ?_
    rintro e w3 ⟨rfl, hb3⟩
    have HX := Lib.hid (below_next HX.out (Nat.le_refl _) hb3)
    clear hb3 m0 m1 m2 n0 n1 n2
    obtain ⟨⟨m0, m1, m2⟩, n0, n1, n2⟩ := HCELL.out _ HX.out
    cases S2 with
    | false =>
      have HF3 := Lib.hid (below_next HB0.out (Nat.le_refl _) HX.out)
      go_wp2
      go_ret
      exact ⟨rfl, HF3.out⟩
    | true =>
      by_cases hnm : n = m
      case neg =>
        have hne : ((n : Int) != (m : Int)) = true := by simp; omega
        have HF3 := Lib.hid (below_next HB0.out (Nat.le_refl _) HX.out)
        go_wp2
        go_ret
        exact ⟨rfl, HF3.out⟩
      case pos =>
      subst hnm
      have hne : ((n : Int) != (n : Int)) = false := by simp
      by_cases h6 : 6 < n
      · have h6' : (6 : Int) < (n : Int) := by omega
        have HF3 := Lib.hid (below_next HB0.out (Nat.le_refl _) HX.out)
        go_wp2
        go_ret
        exact ⟨rfl, HF3.out⟩
      have h6' : (n : Int) ≤ 6 := by omega
      obtain ⟨DD, hd1, hd2, hd3, hd4, hd5⟩ := HDI.out (by simp) (by simp) rfl
      have HD1 := Lib.hid hd1
      have HD2 := Lib.hid hd2
      have HD3 := Lib.hid hd3
      have HD4 := Lib.hid hd4
      have HD5 := Lib.hid hd5
      clear hd1 hd2 hd3 hd4 hd5 HDI
      go_wp2_with fail
      refine (HD1.out _ HX.out).mono ?_
      rintro e w4 ⟨r4, rfl, hown4, hb4⟩
      have HX := Lib.hid (below_next HX.out (Nat.le_refl _) hb4)
      obtain ⟨a4, c4, rfl⟩ := own_form hown4
      have HC4 := Lib.hid (ChgsAt.of_own hown4 HD2.out.2)
      clear hb4 m0 m1 m2 n0 n1 n2 hown4
      obtain ⟨⟨m0, m1, m2⟩, n0, n1, n2⟩ := HCELL.out _ HX.out
      go_wp2_with fail
      refine (HD3.out _ _ HX.out HC4.out).mono ?_
      rintro e w5 ⟨r5, rfl, hst5, hb5⟩
      have HX := Lib.hid (below_next HX.out (Nat.le_refl _) hb5)
      have HC5 := Lib.hid (HC4.out.below hb5 (Nat.le_refl _))
      have hst5' := hst5.at_ HIN.out.2
      obtain ⟨x1, x2, x3, rfl, ⟨y1, z1, rfl, -, -, -⟩, ⟨⟨y2, z2, rfl, -, -, -⟩, -⟩, ⟨⟨y3, z3, rfl, -, -, -⟩, -⟩⟩ := id hst5'
      obtain ⟨W6, hW6⟩ : ∃ W6, W6 = w5.alloc (.cells #[.slice y1 b.cells.length z1, .slice y2 b.inp.length z2, .slice y3 b.out.length z3] 25) := ⟨_, rfl⟩
      have hb56 : Below w5.heap.size w5 W6 := by rw [hW6]; exact below_alloc _ _
      have HBX : Hid (Blk W6 w5.heap.size 25 #[.slice y1 b.cells.length z1, .slice y2 b.inp.length z2, .slice y3 b.out.length z3]) := by rw [hW6]; exact Blk.new _ _ _
      have HS6 := Lib.hid (hst5'.below hb56 (Nat.le_refl _))
      have HC6 := Lib.hid (HC5.out.below hb56 (Nat.le_refl _))
      have HX6 := Lib.hid (below_next HX.out (Nat.le_refl _) hb56)
      have HW6 := Lib.hid hW6
      clear hst5 hst5' hb5 hW6 hb56 m0 m1 m2 n0 n1 n2 HX HC4 HC5
      obtain ⟨⟨m0, m1, m2⟩, n0, n1, n2⟩ := HCELL.out _ HX6.out
      have hm1 : w.heap.size < W6.heap.size := World.block_lt_of_cell? W6 _ m0
      have hm2 : w.heap.size + 1 < W6.heap.size := World.block_lt_of_cell? W6 _ n0
      have hlt6 := HBX.out.lt
      have HX : Hid (Below W6.heap.size W6 W6) := Below.refl _ _
      go_upto_region 7 with (fail)
      rw [← HW6.out]
      clear HW6
      have HRV : Hid (∀ w', Below W6.heap.size W6 w' → Calls Try.prog 33 #[.slice a4 DD.length c4] w' fun e w'' => ∃ r, e = .returned r ∧ ChgsAt w'' r (reverseP DD) ∧ Below w'.heap.size w' w'') :=
        fun w' hb => revc_at DD (by have := HD2.out.1; omega) HD2.out.2 _ w' (HC6.out.below hb (Nat.le_refl _))
      have HAP : Hid (∀ v w7, Below W6.heap.size W6 w7 → ChgsAt w7 v (reverseP DD) → ∀ w', Below w7.heap.size w7 w' → Calls Try.prog 31 #[.agg #[.slice a2 n k2, i2, o2], v] w' fun e w'' => ∃ y1 z1 y2 z2 y3 z3, e = .returned (.tuple #[.agg #[.slice y1 a.cells.length z1, .slice y2 a.inp.length z2, .slice y3 a.out.length z3], .int .i64 0]) ∧ StNew w'.heap.size w'' (.agg #[.slice y1 a.cells.length z1, .slice y2 a.inp.length z2, .slice y3 a.out.length z3]) a ∧ Below w'.heap.size w' w'') :=
        fun v w7 h7 hv w' hb => (HD4.out w' v (below_next (below_next HX6.out (Nat.le_refl _) h7) (Nat.le_refl _) hb) (hv.below hb (Nat.le_refl _))).mono (by
          rintro e w'' ⟨r, rfl, hst, hb'⟩
          have hst' := hst.at_ HIN.out.1
          obtain ⟨x1, x2, x3, rfl, ⟨y1, z1, rfl, -, -, -⟩, ⟨⟨y2, z2, rfl, -, -, -⟩, -⟩, ⟨⟨y3, z3, rfl, -, -, -⟩, -⟩⟩ := id hst'
          exact ⟨y1, z1, y2, z2, y3, z3, rfl, hst, hb'⟩)
      have HC2 : Hid (∀ w', Below W6.heap.size W6 w' → w'.cell? ⟨w.heap.size + 1, 0, none⟩ = some (.slice a2 n k2) ∧ w'.cell? ⟨w.heap.size + 1, 1, none⟩ = some i2 ∧ w'.cell? ⟨w.heap.size + 1, 2, none⟩ = some o2) :=
        fun w' hb => ⟨cell_below hb hm2 n0, cell_below hb hm2 n1, cell_below hb hm2 n2⟩
      clear HD1 HD3 HD4 HC6
      go_region_held3 (fun w' => w'.cell? ⟨w.heap.size + 1, 0, none⟩ = some (.slice a2 n k2) ∧ w'.cell? ⟨w.heap.size + 1, 1, none⟩ = some i2 ∧ w'.cell? ⟨w.heap.size + 1, 2, none⟩ = some o2)
        (first | exact HC2.out _ HX.out | exact HC2.out _ (below_drew HX.out) | exact HC2.out _ (HX.out.trans ((below_alloc _ _).mono HX.out.size)) | exact HC2.out _ (below_drew (HX.out.trans ((below_alloc _ _).mono HX.out.size))) | exact HC2.out _ (below_set3 HX.out HX7.out.size _ _ _) | exact HC2.out _ (below_set3 HX.out (Nat.le_refl _) _ _ _) | go_keep)
        (first
          | (go_at_call 33; refine (HRV.out _ (by first | exact Below.refl _ _ | exact below_alloc _ _ | exact below_drew (Below.refl _ _) | exact below_drew (below_alloc _ _))).mono ?_; rintro e w7 ⟨r7, rfl, hc7, hb7⟩; have HX : Hid (Below W6.heap.size W6 w7) := Lib.hid (by first | exact hb7 | exact below_undrew hb7 | exact (below_alloc _ _).trans (hb7.mono (below_alloc _ _).size) | exact (below_alloc _ _).trans ((below_undrew hb7).mono (below_alloc _ _).size) | exact below_undrew ((below_drew (below_alloc _ _)).trans (hb7.mono (below_drew (below_alloc _ _)).size))); have HX7 := HX; (try (have HK7 : Hid (Blk w7 W6.heap.size 25 #[.slice none 0 0, .slice none 0 0, .slice none 0 0]) := Lib.hid (by first | exact (box_past hb7).1 | exact (box_past (below_undrew hb7)).1))))
          | (go_at_call 31; refine (HAP.out _ _ HX7.out hc7 _ (by first | exact Below.refl _ _ | exact below_alloc _ _ | exact below_drew (Below.refl _ _) | exact below_drew (below_alloc _ _))).mono ?_; rintro e w8 ⟨y4, z4, y5, z5, y6, z6, rfl, hst8, hb8⟩; have HX : Hid (Below W6.heap.size W6 w8) := Lib.hid (HX7.out.trans ((show Below w7.heap.size w7 w8 by first | exact hb8 | exact below_undrew hb8 | exact (below_alloc _ _).trans (hb8.mono (below_alloc _ _).size)).mono HX7.out.size)); (try (have HK8 : Hid (Blk w8 w7.heap.size 25 #[.slice none 0 0, .slice none 0 0, .slice none 0 0]) := Lib.hid (by exact (box_past hb8).1))); (try (have HK8 : Hid (Blk w8 W6.heap.size 25 #[.slice none 0 0, .slice none 0 0, .slice none 0 0]) := Lib.hid (by exact (blk_past HK7.out hb8).1))); (try (have hz0 := HK8.out.free 0; have hz1 := HK8.out.free 1; have hz2 := HK8.out.free 2; have hy0 := HK8.out.cell 0; have hy1 := HK8.out.cell 1; have hy2 := HK8.out.cell 2; simp only [List.getElem?_toArray, List.getElem?_cons_succ, List.getElem?_cons_zero] at hy0 hy1 hy2))))
      case' refine_2.refine_3.refine_3.refine_1.refine_2.refine_1.refine_2.refine_3.refine_3.refine_3.refine_1.refine_2.refine_1.refine_2.refine_3 =>
        obtain ⟨wz, hwz⟩ : ∃ wz, wz = w8.alloc (.cells #[.slice y4 a.cells.length z4, .slice y5 a.inp.length z5, .slice y6 a.out.length z6] 25) := ⟨_, rfl⟩
        have HKZ : Hid (Blk wz w8.heap.size 25 #[.slice y4 a.cells.length z4, .slice y5 a.inp.length z5, .slice y6 a.out.length z6]) := by rw [hwz]; exact Blk.new _ _ _
        have HSZ : Hid (StAt wz (.agg #[.slice y4 a.cells.length z4, .slice y5 a.inp.length z5, .slice y6 a.out.length z6]) a) := by rw [hwz]; exact (hst8.at_ HIN.out.1).below (below_alloc _ _) (Nat.le_refl _)
        have HXZ : Hid (Below W6.heap.size W6 wz) := by rw [hwz]; exact HX.out.trans ((below_alloc _ _).mono HX.out.size)
        rw [← hwz]
        clear hwz
      case' refine_2.refine_3.refine_3.refine_1.refine_2.refine_2.refine_1.refine_2.refine_1.refine_2.refine_3.refine_3.refine_3.refine_1.refine_2.refine_3 =>
        have hh := set3_new hst8 HIN.out.1 HK8.out (by simp) (.slice y4 a.cells.length z4) (.slice y5 a.inp.length z5) (.slice y6 a.out.length z6)
        have HKZ := Lib.hid hh.1
        have HSZ := Lib.hid hh.2
        have HXZ := Lib.hid (below_set3 HX.out HX7.out.size (.slice y4 a.cells.length z4) (.slice y5 a.inp.length z5) (.slice y6 a.out.length z6))
        clear hh
        generalize World.setCell _ _ _ = wz at *
      case' refine_2.refine_3.refine_3.refine_2.refine_1.refine_2.refine_1.refine_2.refine_1.refine_2.refine_3.refine_3.refine_3.refine_1.refine_2.refine_3 =>
        have hh := set3_new hst8 HIN.out.1 HK8.out HK7.out.lt (.slice y4 a.cells.length z4) (.slice y5 a.inp.length z5) (.slice y6 a.out.length z6)
        have HKZ := Lib.hid hh.1
        have HSZ := Lib.hid hh.2
        have HXZ := Lib.hid (below_set3 HX.out (Nat.le_refl _) (.slice y4 a.cells.length z4) (.slice y5 a.inp.length z5) (.slice y6 a.out.length z6))
        clear hh
        generalize World.setCell _ _ _ = wz at *
      all_goals
        have HXW : Hid (Below W.heap.size W wz) := below_next HX6.out (Nat.le_refl _) HXZ.out
        have HBZ := Lib.hid (HBX.out.next HXZ.out)
        have HCA : Hid (∀ w', Below wz.heap.size wz w' → _) := fun w' hb => HCELL.out _ (below_next HXW.out (Nat.le_refl _) hb)
        have HCX : Hid (∀ w', Below wz.heap.size wz w' → w'.cell? ⟨w5.heap.size, 0, none⟩ = some (.slice y1 b.cells.length z1) ∧ w'.cell? ⟨w5.heap.size, 1, none⟩ = some (.slice y2 b.inp.length z2) ∧ w'.cell? ⟨w5.heap.size, 2, none⟩ = some (.slice y3 b.out.length z3)) :=
          fun w' hb => ⟨(HBZ.out.next hb).cell 0, (HBZ.out.next hb).cell 1, (HBZ.out.next hb).cell 2⟩
        have HCY : Hid (∀ w', Below wz.heap.size wz w' → _ ∧ _ ∧ _) := fun w' hb => ⟨(HKZ.out.next hb).cell 0, (HKZ.out.next hb).cell 1, (HKZ.out.next hb).cell 2⟩
        have HEX : Hid (∀ w', Below wz.heap.size wz w' → Calls Try.prog 20 #[.agg #[.slice y1 b.cells.length z1, .slice y2 b.inp.length z2, .slice y3 b.out.length z3], .agg #[.slice a2 n k2, i2, o2]] w' fun e w'' => e = .returned (.bool true) ∧ Below w'.heap.size w' w'') :=
          fun w' hb => requal_true b _ _ w' (HS6.out.below (below_next HXZ.out (Nat.le_refl _) hb) (Nat.le_refl _)) (HS2.out _ (below_next HXW.out (Nat.le_refl _) hb))
        have HEY : Hid (∀ w', Below wz.heap.size wz w' → Calls Try.prog 20 #[.agg #[.slice y4 a.cells.length z4, .slice y5 a.inp.length z5, .slice y6 a.out.length z6], .agg #[.slice a1 n k1, i1, o1]] w' fun e w'' => e = .returned (.bool true) ∧ Below w'.heap.size w' w'') :=
          fun w' hb => requal_true a _ _ w' (HSZ.out.below hb (Nat.le_refl _)) (HS1.out _ (below_next HXW.out (Nat.le_refl _) hb))
        have HEZ : Hid (∀ w', Below wz.heap.size wz w' → Calls Try.prog 20 #[.agg #[.slice a1 n k1, i1, o1], .agg #[.slice a2 n k2, i2, o2]] w' fun e w'' => e = .returned (.bool ((DD.length : Int) == 0)) ∧ Below w'.heap.size w' w'') :=
          fun w' hb => HD5.out _ (below_next HXW.out (Nat.le_refl _) hb)
        have HXX : Hid (Below wz.heap.size wz wz) := Below.refl _ _
        obtain ⟨z, hz⟩ : ∃ z : Bool, z = ((DD.length : Int) == 0) := ⟨_, rfl⟩
        rw [← hz] at HEZ
        have hz' := hz.symm
        have he9 : (z == z) = true := by simp
        clear hz
        clear m0 m1 m2 n0 n1 n2
        obtain ⟨⟨m0, m1, m2⟩, n0, n1, n2⟩ := HCA.out _ HXX.out
        obtain ⟨q0, q1, q2⟩ := HCX.out _ HXX.out
        go_wp2_with fail
        refine (HEX.out _ HXX.out).mono ?_
        rintro e w9 ⟨rfl, hb9⟩
        have HXX := Lib.hid hb9
        clear hb9 m0 m1 m2 n0 n1 n2 q0 q1 q2
        obtain ⟨⟨m0, m1, m2⟩, n0, n1, n2⟩ := HCA.out _ HXX.out
        obtain ⟨q0, q1, q2⟩ := HCY.out _ HXX.out
        simp only [List.getElem?_toArray, List.getElem?_cons_succ, List.getElem?_cons_zero] at q0 q1 q2
        go_wp2_with fail
        refine (HEY.out _ HXX.out).mono ?_
        rintro e w10 ⟨rfl, hb10⟩
        have HXX := Lib.hid (below_next HXX.out (Nat.le_refl _) hb10)
        clear hb10 m0 m1 m2 n0 n1 n2 q0 q1 q2
        obtain ⟨⟨m0, m1, m2⟩, n0, n1, n2⟩ := HCA.out _ HXX.out
        go_wp2_with fail
        refine (HEZ.out _ HXX.out).mono ?_
        rintro e w11 ⟨rfl, hb11⟩
        have HF := Lib.hid (below_next HB0.out (Nat.le_refl _) (below_next HXW.out (Nat.le_refl _) (below_next HXX.out (Nat.le_refl _) hb11)))
        clear hb11 m0 m1 m2 n0 n1 n2
        go_wp2
        go_ret
        exact ⟨rfl, HF.out⟩

open Go.ChangeShapes Go.WideShapes in
theorem turnslaw_top {H : Type} {enc : TypeId × Value → H} {r : Reach} {b0 : Nat} {w : World} {base : Nat} {sp : Nat → Bool} {held : Bool}
    (va : Value) (da : DataW H) (pa : List MemPlace) (ha : Value.okWide Try.prog w r b0 25 va) (ta : DataW.Trod enc Try.prog w base sp held 25 va da pa)
    (vb : Value) (db : DataW H) (pb : List MemPlace) (hb : Value.okWide Try.prog w r b0 25 vb) (tb : DataW.Trod enc Try.prog w base sp held 25 vb db pb) (w' : World) (hw : w' = w := by rfl) :
    Calls Try.prog 11 #[va, vb] w' fun e w'' => e = .returned (.bool true) ∧ Below w'.heap.size w' w'' := by
  subst hw
  obtain ⟨a, h1⟩ := st_open ha ta
  obtain ⟨b, h2⟩ := st_open hb tb
  exact turnslaw_any a b va vb _ h1 h2
end Go.Proofs.Ytpbbiidfahaamaa
