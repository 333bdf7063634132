/- The walk of Count, of a box that is valid and not too great. -/
import Derived.Test.YtklbaocgjegdfaaEnC1
import Derived.Test.YtklbaocgjegdfaaEnA5
namespace Go.Proofs.Ytklbaocgjegdfaa
open Go.RowKit

theorem lens_nat {D : List Decl} {le inp : Int} (hval : validB D = true) (hl : Small1000 le) (hi : Small1000 inp) : ∀ b ∈ lensP D le inp, ∃ lo hi : Nat, b = ⟨lo, hi⟩ ∧ lo ≤ hi ∧ hi ≤ 1000 := by
  have hvb : D.length ≤ 32 ∧ ∀ d ∈ D, validD d = true := by
    unfold validB at hval
    rw [Bool.and_eq_true, decide_eq_true_eq, List.all_eq_true] at hval
    exact hval
  obtain ⟨l1, l2⟩ := hl
  obtain ⟨i1, i2⟩ := hi
  intro b hb
  unfold lensP at hb
  rcases List.mem_append.1 hb with hb | hb
  · obtain ⟨d, hd, rfl⟩ := List.mem_map.1 hb
    have := fixed_bounds (hvb.2 d hd)
    unfold lenD
    split
    · exact ⟨0, le.toNat, by congr 1; omega, by omega, by omega⟩
    · exact ⟨(fixedZ d).toNat, (fixedZ d).toNat, by congr 1 <;> omega, Nat.le_refl _, by omega⟩
  · rw [List.mem_singleton] at hb
    subst hb
    exact ⟨0, inp.toNat, by congr 1; omega, by omega, by omega⟩
theorem cntB_nat (v lo hi : Nat) : cntB v ⟨lo, hi⟩ = powS (2 * v + 1) lo (hi + 1 - lo) := by
  unfold cntB powS nOf
  simp only [Int.toNat_natCast]
  have : ((hi : Int) + 1 - lo).toNat = hi + 1 - lo := by omega
  rw [this]
theorem powS_pos {b lo k : Nat} (hb : 1 ≤ b) (hk : 1 ≤ k) : 1 ≤ powS b lo k := by
  obtain ⟨j, rfl⟩ : ∃ j, k = j + 1 := ⟨k - 1, by omega⟩
  rw [powS_succ]
  have := Nat.pow_pos (n := lo + j) (show 0 < b by omega)
  omega
theorem cntP_take {v : Nat} {B : List Bd} {k : Nat} {b : Bd} (h : B[k]? = some b) : cntP v (B.take (k + 1)) = cntP v (B.take k) * cntB v b := by
  unfold cntP
  rw [List.take_add_one, h, List.foldl_append]
  rfl

set_option maxRecDepth 100000 in
set_option maxHeartbeats 4000000 in
theorem count_any (D : List Decl) (u : Value) (v : Nat) (le inp : Int) (w : World) (h1 : DeclsAt w u D) (hval : validB D = true) (hv : v ≤ 1000) (hl : Small1000 le) (hi : Small1000 inp) (hc : cntP v (lensP D le inp) ≤ 1099511627776) :
    Calls Try.prog 26 #[u, .agg #[.int .i64 v, .int .i64 le, .int .i64 inp]] w fun e w' => e = .returned (.tuple #[.int .i64 (cntP v (lensP D le inp) : Nat), .int .i64 0]) ∧ Below w.heap.size w w' := by
  have hnat := lens_nat (D := D) hval hl hi
  obtain ⟨⟨ad, cd, rfl, -, -, -⟩, -⟩ := id h1
  obtain ⟨W, hW⟩ : ∃ W, W = w.alloc (.cells #[.int .i64 v, .int .i64 le, .int .i64 inp] 24) := ⟨_, rfl⟩
  have hB0 : Below w.heap.size w W := by rw [hW]; exact below_alloc _ _
  have hBK : Blk W w.heap.size 24 #[.int .i64 v, .int .i64 le, .int .i64 inp] := by rw [hW]; exact Blk.new _ _ _
  have hvs : Small1000 (v : Int) := ⟨by omega, by omega⟩
  have HLEN := Lib.hid (lengths_any D _ v le inp W (h1.below hB0 (Nat.le_refl _)) hval hvs hl hi)
  have y0 := hBK.cell 0
  have y1 := hBK.cell 1
  have y2 := hBK.cell 2
  simp only [List.getElem?_toArray, List.getElem?_cons_zero, List.getElem?_cons_succ] at y0 y1 y2
  have hbox := hBK.lt
  have HW := Lib.hid hW
  have HB0 := Lib.hid hB0
  have HBK := Lib.hid hBK
  have hBn : (lensP D le inp).length ≤ 33 := by
    rw [lensP_len]
    unfold validB at hval
    rw [Bool.and_eq_true, decide_eq_true_eq] at hval
    omega
  obtain ⟨B, hB⟩ : ∃ B, lensP D le inp = B := ⟨_, rfl⟩
  rw [hB] at HLEN hBn hc hnat ⊢
  have HNAT := Lib.hid hnat
  obtain ⟨S, hS⟩ : ∃ S : Nat → Nat, S = fun k => sat (cntP v (B.take k)) := ⟨_, rfl⟩
  have H0 : Hid (S 0 = 1) := by rw [hS]; rfl
  have HSS : Hid (∀ k b, B[k]? = some b → S (k + 1) = sat (S k * sat (cntB v b))) := fun k b hb => by
    rw [hS]
    simp only
    rw [sat_mul, sat_mul2, cntP_take hb]
  have HSL : Hid (∀ k, S k ≤ 1099511627777) := fun k => by rw [hS]; exact sat_le _
  have HSN : Hid (S B.length = cntP v B) := by
    unfold Hid
    rw [hS]
    simp only
    rw [List.take_length]
    exact sat_small (by omega)
  obtain ⟨C, hC⟩ : ∃ C, cntP v B = C := ⟨_, rfl⟩
  rw [hC] at HSN hc ⊢
  obtain ⟨nb, hnb⟩ : ∃ nb, B.length = nb := ⟨_, rfl⟩
  rw [hnb] at hBn HSN
  have HNB := Lib.hid hnb
  have hnb' : (nb : Int) ≤ 33 := by omega
  have hv' : (v : Int) ≤ 1000 := by omega
  have f1 : IntKind.i64.wrap (2 * (v : Int)) = 2 * (v : Int) := IntWalk.i64_in _ (by omega)
  have f2 : IntKind.i64.wrap (2 * (v : Int) + 1) = 2 * (v : Int) + 1 := IntWalk.i64_in _ (by omega)
  clear hS hC hnb hW hB0 hBK h1 hval hB hnat hvs
  generalize D.length = n at *
  go_enter Try.func26, Try.ntmps26
  go_upto_region 1 with (fail)
  rw [← HW.out]
  go_wp2_with fail
  refine HLEN.out.mono ?_
  rintro e w1 ⟨Ll, cl, rfl, hl1, hl2, hb1, hcells⟩
  rw [HNB.out]
  have HBK1 := Lib.hid (HBK.out.next hb1)
  have HB1 := Lib.hid (below_next HB0.out (Nat.le_refl _) hb1)
  have HC1 := Lib.hid hcells
  have hs1 := hb1.size
  clear hb1 hcells y0 y1 y2 HLEN
  go_wp2
  go_loopg [8, 21] nb (fun q s i wr => ∃ k : Nat, k + q = nb ∧ i = .int .i64 k ∧ s = .int .i64 (S k) ∧ Below w1.heap.size w1 wr)
  case atStart => exact ⟨0, by omega, rfl, by rw [H0.out]; rfl, Below.refl _ _⟩
  case round =>
    obtain ⟨k, hk, rfl, rfl, hbw⟩ := hrel
    have Hk := Lib.hid hk
    have hkn : k ≤ nb := by omega
    have HBW := Lib.hid hbw
    have hszw := hbw.size
    clear hk hbw
    by_cases hlt : k < nb
    · have hlt' : (k : Int) < (nb : Int) := by omega
      obtain ⟨b, hb⟩ := get_lt HNB.out.symm hlt
      obtain ⟨lo, hi', rfl, hlh, hh⟩ := HNAT.out b (List.mem_of_getElem? hb)
      obtain ⟨c1, c2⟩ := HC1.out k _ hb
      have m1 := cell_below HBW.out hl2 c1
      have m2 := cell_below HBW.out hl2 c2
      have x0 := (HBK1.out.next HBW.out).cell 0
      simp only [List.getElem?_toArray, List.getElem?_cons_zero] at x0
      simp only at m1 m2
      have HSK := HSS.out k _ hb
      rw [cntB_nat] at HSK
      have hpos : 1 ≤ powS (2 * v + 1) lo (hi' + 1 - lo) := powS_pos (by omega) (by omega)
      obtain ⟨p, hp⟩ : ∃ p, powS (2 * v + 1) lo (hi' + 1 - lo) = p := ⟨_, rfl⟩
      have HLC : Hid (∀ w, Calls Try.prog 46 #[.agg #[.int .i64 lo, .int .i64 hi'], .int .i64 (2 * (v : Int) + 1)] w fun e w' => e = .returned (.int .i64 (sat p : Nat)) ∧ Below w.heap.size w w') := fun w => by
        have := listCount_any lo hi' (2 * v + 1) (by omega) hh (by omega) (by omega) w
        rw [hp] at this
        have e : ((2 * v + 1 : Nat) : Int) = 2 * (v : Int) + 1 := by omega
        rwa [e] at this
      rw [hp] at HSK hpos
      have HPR : Hid (∀ w, Calls Try.prog 45 #[.int .i64 (S k : Nat), .int .i64 (sat p : Nat)] w fun e w' => e = .returned (.int .i64 (S (k + 1) : Nat)) ∧ w = w') := fun w => by
        have := product_any (S k) (sat p) (sat_pos hpos) (sat_le _) w
        rwa [← HSK] at this
      have u1 : IntKind.i64.wrap ((k : Int) + 1) = (k : Int) + 1 := IntWalk.i64_in _ (by omega)
      obtain ⟨sp, hsp⟩ : ∃ sp, sat p = sp := ⟨_, rfl⟩
      rw [hsp] at HLC HPR
      have z0 : (wr.alloc (.cells #[.int .i64 lo, .int .i64 hi'] 62)).cell? ⟨w.heap.size, 0, none⟩ = some (.int .i64 v) := alloc_cell x0 _
      clear hb c1 c2 HSK hpos hp hsp
      go_wp2_with fail
      refine (HLC.out _).mono ?_
      rintro e w3 ⟨rfl, hb3⟩
      have HB3 := Lib.hid (below_next HBW.out (Nat.le_refl _) (below_next (below_alloc _ _) (Nat.le_refl _) hb3))
      clear hb3
      go_wp2_with fail
      refine (HPR.out _).mono ?_
      rintro e w4 ⟨rfl, rfl⟩
      go_wp2
      have hk := Hk.out
      go_roundg (nb - (k + 1))
      case measure => omega
      case rel => exact ⟨k + 1, by omega, by go_num, rfl, HB3.out⟩
    · have hge : ¬ (k : Int) < (nb : Int) := by omega
      have hke : k = nb := by omega
      subst hke
      have hle : ¬ (1099511627776 : Int) < ((S k : Nat) : Int) := by rw [HSN.out]; omega
      go_wp2
      go_ret2
      rw [HSN.out]
      exact ⟨rfl, HB1.out.trans (HBW.out.mono HB1.out.size)⟩
end Go.Proofs.Ytklbaocgjegdfaa
