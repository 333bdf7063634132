/- The walk of image.Partner. -/
import Derived.Test.YtichiccohmeecaaDoorWhI4
namespace Go.Proofs.YtichiccohmeecaaDoor
open Go.RowKit

theorem partner_out {C : List Ins} {i : Int} (h : i < 0 ∨ C.length ≤ i) : partner C i = none := by
  unfold partner
  rw [if_neg (fun hh => by have := inR_iff.1 hh; omega)]
theorem partner_eq {C : List Ins} {k : Nat} {x : Ins} (h : C[k]? = some x) : inR C k = true ∧ cAt C k = x := by
  have hk := (List.getElem?_eq_some_iff.1 h).1
  exact ⟨inR_iff.2 ⟨by omega, by omega⟩, by unfold cAt; rw [Int.toNat_natCast, List.getD_eq_getElem?_getD, h]; rfl⟩
theorem partner_no {C : List Ins} {k : Nat} {x : Ins} (h : C[k]? = some x) (ht : targ x = none) : partner C k = none := by
  obtain ⟨h1, h2⟩ := partner_eq h
  unfold partner
  rw [if_pos h1, h2, ht]
theorem partner_far {C : List Ins} {k : Nat} {x : Ins} (h : C[k]? = some x) {t : Int} (ht : targ x = some t) (ho : t < 0 ∨ C.length ≤ t) : partner C k = none := by
  obtain ⟨h1, h2⟩ := partner_eq h
  unfold partner
  rw [if_pos h1, h2, ht]
  dsimp only
  have : inR C t = false := by
    cases hq : inR C t with
    | false => rfl
    | true => have := inR_iff.1 hq; omega
  rw [this]
  rfl
theorem partner_at {C : List Ins} {k j : Nat} {x y : Ins} (h : C[k]? = some x) (hy : C[j]? = some y) (ht : targ x = some (j : Int)) :
    partner C k = if validI x && validI y && (targ y == some (k : Int)) && pairB k j x.op y.op then some (j : Int) else none := by
  obtain ⟨h1, h2⟩ := partner_eq h
  obtain ⟨h3, h4⟩ := partner_eq hy
  unfold partner
  rw [if_pos h1, h2, ht]
  dsimp only
  rw [h3, h4]
  simp only [Bool.true_and]

theorem drewN_below {w w' : World} {B : Nat} (h : Below B w w') (n : Nat) : Below B w (w'.drewN n) := ⟨h.os, h.tape, h.output, h.size, h.block⟩
theorem not_t (b : Bool) (h : (!b) = true) : b = false := by cases b <;> simp_all
theorem not_f (b : Bool) (h : (!b) = false) : b = true := by cases b <;> simp_all
theorem pb_jl {i t : Int} {a b : Nat} (h : jumpB a = true) : pairB i t a b = landB b := by unfold pairB; rw [if_pos h]
theorem pb_lj {i t : Int} {a b : Nat} (h : jumpB a = false) (h2 : landB a = true) : pairB i t a b = jumpB b := by unfold pairB; rw [if_neg (by rw [h]; decide), if_pos h2]
theorem nb (a k : Nat) : decide (a = k) = ((a : Int) == (k : Int)) := by rw [Bool.eq_iff_iff]; simp; omega
theorem pb_se {i t : Int} {a b : Nat} (h : jumpB a = false) (h2 : landB a = false) (h3 : i < t) : pairB i t a b = (((a : Int) == 32) && ((b : Int) == 33)) := by
  unfold pairB; rw [if_neg (by rw [h]; decide), if_neg (by rw [h2]; decide), if_pos h3, nb, nb]; rfl
theorem pb_es {i t : Int} {a b : Nat} (h : jumpB a = false) (h2 : landB a = false) (h3 : ¬ i < t) : pairB i t a b = (((a : Int) == 33) && ((b : Int) == 32)) := by
  unfold pairB; rw [if_neg (by rw [h]; decide), if_neg (by rw [h2]; decide), if_neg h3, nb, nb]; rfl
def ParR (r : Option Int) (w : World) (e : Ending) (w' : World) : Prop := e = .returned (.tuple #[.int .i64 (r.getD 0), .bool r.isSome]) ∧ Below w.heap.size w w'

set_option maxRecDepth 100000 in
set_option maxHeartbeats 4000000 in
theorem partner_any {P : Nat → Prop} (C : List Ins) (vc : Value) (p q i : Int) (w : World) (hC : CodeIn P w vc C) (hT : TabAt w) :
    Calls Tryd.prog 45 #[.agg #[vc, .int .i64 p, .int .i64 q], .int .i64 i] w (ParR (partner C i) w) := by
  obtain ⟨a, cp, rfl, hn, hm, hq⟩ := hC
  obtain ⟨n, hnl⟩ : ∃ n, n = C.length := ⟨_, rfl⟩
  rw [← hnl] at hn hq ⊢
  have hn63 : n ≤ 9223372036854775807 := by unfold maxLen at hm; omega
  have HNL := Lib.hid hnl
  by_cases hi0 : i < 0
  · rw [partner_out (.inl hi0)]
    clear hq hn hm hT hnl
    go_enter Tryd.func45, Tryd.ntmps45
    go_wp2
    go_ret2
    exact ⟨rfl, below_alloc _ _⟩
  by_cases hi1 : (n : Int) ≤ i
  · rw [partner_out (.inr (by omega))]
    clear hq hn hm hT hnl
    go_enter Tryd.func45, Tryd.ntmps45
    go_wp2
    go_ret2
    exact ⟨rfl, below_alloc _ _⟩
  obtain ⟨k, rfl⟩ := Int.eq_ofNat_of_zero_le (show 0 ≤ i by omega)
  have hk : k < n := by omega
  obtain ⟨x, hx⟩ := get_lt hnl hk
  obtain ⟨g, o, rfl, hg, hp, hcell⟩ := hq (by omega)
  obtain ⟨c0, c1, c2, c3, c4⟩ := hcell k x hx
  have hb1 := below_alloc w (.cells #[.slice (some ⟨g, o, none⟩) n cp, .int .i64 p, .int .i64 q] 24)
  have HB1 := Lib.hid hb1
  have HT := Lib.hid (hT.below hb1)
  have HX := Lib.hid hx
  have HC := Lib.hid hcell
  have hkn : (k : Int) < (n : Int) := by omega
  have hk0 : (0 : Int) ≤ (k : Int) := Int.natCast_nonneg _
  obtain ⟨xo, xa, xb, xc, xd⟩ := x
  dsimp only at c0 c1 c2 c3 c4
  clear hq hn hm hT hnl hcell hp hi0 hi1 hb1
  cases ht : targ ⟨xo, xa, xb, xc, xd⟩ with
  | none =>
    rw [partner_no hx ht]
    have HTX := Lib.hid ht
    clear hx ht
    go_enter Tryd.func45, Tryd.ntmps45
    go_wp2_with fail
    refine (target_any ⟨xo, xa, xb, xc, xd⟩ _).mono ?_
    rintro e w1 ⟨rfl, hb⟩
    rw [HTX.out]
    have HB2 := Lib.hid (below_next HB1.out (Nat.le_refl _) hb)
    clear hb
    go_wp2
    go_ret2
    exact ⟨rfl, HB2.out⟩
  | some t =>
    by_cases ht0 : t < 0
    · rw [partner_far hx ht (.inl ht0)]
      have HTX := Lib.hid ht
      clear hx ht
      go_enter Tryd.func45, Tryd.ntmps45
      go_wp2_with fail
      refine (target_any ⟨xo, xa, xb, xc, xd⟩ _).mono ?_
      rintro e w1 ⟨rfl, hb⟩
      rw [HTX.out]
      have HB2 := Lib.hid (below_next HB1.out (Nat.le_refl _) hb)
      have HT2 := Lib.hid (HT.out.below hb)
      obtain ⟨bc1, bf1⟩ := bcell hb
      have hz1 : w.heap.size < w1.heap.size := by have := hb.size; simp at this; omega
      have hg1 : g < w1.heap.size := by omega
      clear hb
      go_wp2_with fail
      go_ret2
      exact ⟨rfl, HB2.out⟩
    by_cases ht1 : (n : Int) ≤ t
    · rw [partner_far hx ht (.inr (by rw [← HNL.out]; exact ht1))]
      have HTX := Lib.hid ht
      clear hx ht
      go_enter Tryd.func45, Tryd.ntmps45
      go_wp2_with fail
      refine (target_any ⟨xo, xa, xb, xc, xd⟩ _).mono ?_
      rintro e w1 ⟨rfl, hb⟩
      rw [HTX.out]
      have HB2 := Lib.hid (below_next HB1.out (Nat.le_refl _) hb)
      have HT2 := Lib.hid (HT.out.below hb)
      obtain ⟨bc1, bf1⟩ := bcell hb
      have hz1 : w.heap.size < w1.heap.size := by have := hb.size; simp at this; omega
      have hg1 : g < w1.heap.size := by omega
      clear hb
      go_wp2_with fail
      go_ret2
      exact ⟨rfl, HB2.out⟩
    obtain ⟨j, rfl⟩ := Int.eq_ofNat_of_zero_le (show 0 ≤ t by omega)
    have hj : j < n := by omega
    obtain ⟨y, hy⟩ := get_lt HNL.out hj
    obtain ⟨d0, d1, d2, d3, d4⟩ := HC.out j y hy
    rw [partner_at hx hy ht]
    have HTX := Lib.hid ht
    have HY := Lib.hid hy
    have hjn : (j : Int) < (n : Int) := by omega
    have hj0 : (0 : Int) ≤ (j : Int) := Int.natCast_nonneg _
    obtain ⟨yo, ya, yb, yc, yd⟩ := y
    dsimp only at d0 d1 d2 d3 d4 ⊢
    clear hx hy ht ht0 ht1
    cases hv : validI ⟨xo, xa, xb, xc, xd⟩ with
    | false =>
      have HV := Lib.hid hv
      clear hv
      go_enter Tryd.func45, Tryd.ntmps45
      go_wp2_with fail
      refine (target_any ⟨xo, xa, xb, xc, xd⟩ _).mono ?_
      rintro e w1 ⟨rfl, hb⟩
      rw [HTX.out]
      have HB2 := Lib.hid (below_next HB1.out (Nat.le_refl _) hb)
      have HT2 := Lib.hid (HT.out.below hb)
      obtain ⟨bc1, bf1⟩ := bcell hb
      have hz1 : w.heap.size < w1.heap.size := by have := hb.size; simp at this; omega
      have hg1 : g < w1.heap.size := by omega
      clear hb
      go_wp2_with fail
      refine (valid_any ⟨xo, xa, xb, xc, xd⟩ _ HT2.out).mono ?_
      rintro e w2 ⟨rfl, hb⟩
      rw [HV.out]
      have HB3 := Lib.hid (below_next HB2.out (Nat.le_refl _) hb)
      have HT3 := Lib.hid (HT2.out.below hb)
      obtain ⟨bc2, bf2⟩ := bcell hb
      have hz2 : w.heap.size < w2.heap.size := by have := hb.size; omega
      have hg2 : g < w2.heap.size := by omega
      clear hb
      go_wp2_with fail
      go_ret2
      exact ⟨rfl, HB3.out⟩
    | true =>
      have HV := Lib.hid hv
      clear hv
      cases hu : validI ⟨yo, ya, yb, yc, yd⟩ with
      | false =>
        have HU := Lib.hid hu
        clear hu
        go_enter Tryd.func45, Tryd.ntmps45
        go_wp2_with fail
        refine (target_any ⟨xo, xa, xb, xc, xd⟩ _).mono ?_
        rintro e w1 ⟨rfl, hb⟩
        rw [HTX.out]
        have HB2 := Lib.hid (below_next HB1.out (Nat.le_refl _) hb)
        have HT2 := Lib.hid (HT.out.below hb)
        obtain ⟨bc1, bf1⟩ := bcell hb
        have hz1 : w.heap.size < w1.heap.size := by have := hb.size; simp at this; omega
        have hg1 : g < w1.heap.size := by omega
        clear hb
        go_wp2_with fail
        refine (valid_any ⟨xo, xa, xb, xc, xd⟩ _ HT2.out).mono ?_
        rintro e w2 ⟨rfl, hb⟩
        rw [HV.out]
        have HB3 := Lib.hid (below_next HB2.out (Nat.le_refl _) hb)
        have HT3 := Lib.hid (HT2.out.below hb)
        obtain ⟨bc2, bf2⟩ := bcell hb
        have hz2 : w.heap.size < w2.heap.size := by have := hb.size; omega
        have hg2 : g < w2.heap.size := by omega
        clear hb
        go_wp2_with fail
        refine (valid_any ⟨yo, ya, yb, yc, yd⟩ _ HT3.out).mono ?_
        rintro e w3 ⟨rfl, hb⟩
        rw [HU.out]
        have HB4 := Lib.hid (below_next HB3.out (Nat.le_refl _) hb)
        have HT4 := Lib.hid (HT3.out.below hb)
        obtain ⟨bc3, bf3⟩ := bcell hb
        have hz3 : w.heap.size < w3.heap.size := by have := hb.size; omega
        have hg3 : g < w3.heap.size := by omega
        clear hb
        go_wp2_with fail
        go_ret2
        exact ⟨rfl, HB4.out⟩
      | true =>
        have HU := Lib.hid hu
        clear hu
        cases hs : targ ⟨yo, ya, yb, yc, yd⟩ with
        | none =>
          have HS := Lib.hid hs
          clear hs
          go_enter Tryd.func45, Tryd.ntmps45
          go_wp2_with fail
          refine (target_any ⟨xo, xa, xb, xc, xd⟩ _).mono ?_
          rintro e w1 ⟨rfl, hb⟩
          rw [HTX.out]
          have HB2 := Lib.hid (below_next HB1.out (Nat.le_refl _) hb)
          have HT2 := Lib.hid (HT.out.below hb)
          obtain ⟨bc1, bf1⟩ := bcell hb
          have hz1 : w.heap.size < w1.heap.size := by have := hb.size; simp at this; omega
          have hg1 : g < w1.heap.size := by omega
          clear hb
          go_wp2_with fail
          refine (valid_any ⟨xo, xa, xb, xc, xd⟩ _ HT2.out).mono ?_
          rintro e w2 ⟨rfl, hb⟩
          rw [HV.out]
          have HB3 := Lib.hid (below_next HB2.out (Nat.le_refl _) hb)
          have HT3 := Lib.hid (HT2.out.below hb)
          obtain ⟨bc2, bf2⟩ := bcell hb
          have hz2 : w.heap.size < w2.heap.size := by have := hb.size; omega
          have hg2 : g < w2.heap.size := by omega
          clear hb
          go_wp2_with fail
          refine (valid_any ⟨yo, ya, yb, yc, yd⟩ _ HT3.out).mono ?_
          rintro e w3 ⟨rfl, hb⟩
          rw [HU.out]
          have HB4 := Lib.hid (below_next HB3.out (Nat.le_refl _) hb)
          have HT4 := Lib.hid (HT3.out.below hb)
          obtain ⟨bc3, bf3⟩ := bcell hb
          have hz3 : w.heap.size < w3.heap.size := by have := hb.size; omega
          have hg3 : g < w3.heap.size := by omega
          clear hb
          go_wp2_with fail
          refine (target_any ⟨yo, ya, yb, yc, yd⟩ _).mono ?_
          rintro e w4 ⟨rfl, hb⟩
          rw [HS.out]
          have HB5 := Lib.hid (below_next HB4.out (Nat.le_refl _) hb)
          obtain ⟨bc4, bf4⟩ := bcell hb
          have hz4 : w.heap.size < w4.heap.size := by have := hb.size; omega
          have hg4 : g < w4.heap.size := by omega
          clear hb
          go_wp2_with fail
          go_ret2
          exact ⟨rfl, HB5.out.alloc HB5.out.size _⟩
        | some b =>
          have HS := Lib.hid hs
          clear hs
          by_cases hbk : b = k
          · subst hbk
            have eb : (some (k : Int) == some (k : Int)) = true := by simp
            rw [eb]
            obtain ⟨R, hR⟩ : ∃ R, (if true && true && true && pairB k j xo yo then some (j : Int) else none) = R := ⟨_, rfl⟩
            rw [hR]
            have HR := Lib.hid hR
            clear hR eb
            have hq := not_t
            have hq2 := not_f
            go_enter Tryd.func45, Tryd.ntmps45
            go_wp2_with fail
            refine (target_any ⟨xo, xa, xb, xc, xd⟩ _).mono ?_
            rintro e w1 ⟨rfl, hb⟩
            rw [HTX.out]
            have HB2 := Lib.hid (below_next HB1.out (Nat.le_refl _) hb)
            have HT2 := Lib.hid (HT.out.below hb)
            obtain ⟨bc1, bf1⟩ := bcell hb
            have hz1 : w.heap.size < w1.heap.size := by have := hb.size; simp at this; omega
            have hg1 : g < w1.heap.size := by omega
            clear hb
            go_wp2_with fail
            refine (valid_any ⟨xo, xa, xb, xc, xd⟩ _ HT2.out).mono ?_
            rintro e w2 ⟨rfl, hb⟩
            rw [HV.out]
            have HB3 := Lib.hid (below_next HB2.out (Nat.le_refl _) hb)
            have HT3 := Lib.hid (HT2.out.below hb)
            obtain ⟨bc2, bf2⟩ := bcell hb
            have hz2 : w.heap.size < w2.heap.size := by have := hb.size; omega
            have hg2 : g < w2.heap.size := by omega
            clear hb
            go_wp2_with fail
            refine (valid_any ⟨yo, ya, yb, yc, yd⟩ _ HT3.out).mono ?_
            rintro e w3 ⟨rfl, hb⟩
            rw [HU.out]
            have HB4 := Lib.hid (below_next HB3.out (Nat.le_refl _) hb)
            have HT4 := Lib.hid (HT3.out.below hb)
            obtain ⟨bc3, bf3⟩ := bcell hb
            have hz3 : w.heap.size < w3.heap.size := by have := hb.size; omega
            have hg3 : g < w3.heap.size := by omega
            clear hb
            go_wp2_with fail
            refine (target_any ⟨yo, ya, yb, yc, yd⟩ _).mono ?_
            rintro e w4 ⟨rfl, hb⟩
            rw [HS.out]
            have HB5 := Lib.hid (below_next HB4.out (Nat.le_refl _) hb)
            obtain ⟨bc4, bf4⟩ := bcell hb
            have hz4 : w.heap.size < w4.heap.size := by have := hb.size; omega
            have hg4 : g < w4.heap.size := by omega
            clear hb
            go_wp2_with fail
            go_quiet (fail)
            go_wp2_with (first
              | (go_at_call 34; refine (isjump_any _ _).mono ?_; rintro e w' ⟨rfl, rfl⟩)
              | (go_at_call 35; refine (island_any _ _).mono ?_; rintro e w' ⟨rfl, rfl⟩))
            all_goals go_ret2
            all_goals first
              | (have hpb : pairB (k : Int) (j : Int) xo yo = true := by (rw [pb_jl (by assumption)]; exact hq2 _ (by assumption))
                 have hr : R = some (j : Int) := by rw [← HR.out, hpb]; rfl
                 subst hr
                 exact ⟨rfl, drewN_below (HB5.out.alloc HB5.out.size _) _⟩)
              | (have hpb : pairB (k : Int) (j : Int) xo yo = false := by (rw [pb_jl (by assumption)]; exact hq _ (by assumption))
                 have hr : R = none := by rw [← HR.out, hpb]; rfl
                 subst hr
                 exact ⟨rfl, drewN_below (HB5.out.alloc HB5.out.size _) _⟩)
              | (have hpb : pairB (k : Int) (j : Int) xo yo = true := by (rw [pb_lj (by assumption) (by assumption)]; exact hq2 _ (by assumption))
                 have hr : R = some (j : Int) := by rw [← HR.out, hpb]; rfl
                 subst hr
                 exact ⟨rfl, drewN_below (HB5.out.alloc HB5.out.size _) _⟩)
              | (have hpb : pairB (k : Int) (j : Int) xo yo = false := by (rw [pb_lj (by assumption) (by assumption)]; exact hq _ (by assumption))
                 have hr : R = none := by rw [← HR.out, hpb]; rfl
                 subst hr
                 exact ⟨rfl, drewN_below (HB5.out.alloc HB5.out.size _) _⟩)
              | (have hpb : pairB (k : Int) (j : Int) xo yo = true := by (rw [pb_se (by assumption) (by assumption) (by omega), show ((yo : Int) == 33) = true from hq2 _ (by assumption), show ((xo : Int) == 32) = true by simp; omega]; rfl)
                 have hr : R = some (j : Int) := by rw [← HR.out, hpb]; rfl
                 subst hr
                 exact ⟨rfl, drewN_below (HB5.out.alloc HB5.out.size _) _⟩)
              | (have hpb : pairB (k : Int) (j : Int) xo yo = false := by (rw [pb_se (by assumption) (by assumption) (by omega), show ((yo : Int) == 33) = false from hq _ (by assumption)]; simp)
                 have hr : R = none := by rw [← HR.out, hpb]; rfl
                 subst hr
                 exact ⟨rfl, drewN_below (HB5.out.alloc HB5.out.size _) _⟩)
              | (have hpb : pairB (k : Int) (j : Int) xo yo = false := by (rw [pb_se (by assumption) (by assumption) (by omega), show ((xo : Int) == 32) = false by assumption]; rfl)
                 have hr : R = none := by rw [← HR.out, hpb]; rfl
                 subst hr
                 exact ⟨rfl, drewN_below (HB5.out.alloc HB5.out.size _) _⟩)
              | (have hpb : pairB (k : Int) (j : Int) xo yo = false := by (rw [pb_se (by assumption) (by assumption) (by omega), show ((xo : Int) == 32) = false by simp; omega]; rfl)
                 have hr : R = none := by rw [← HR.out, hpb]; rfl
                 subst hr
                 exact ⟨rfl, drewN_below (HB5.out.alloc HB5.out.size _) _⟩)
              | (have hpb : pairB (k : Int) (j : Int) xo yo = true := by (rw [pb_es (by assumption) (by assumption) (by omega), show ((yo : Int) == 32) = true from hq2 _ (by assumption), show ((xo : Int) == 33) = true by simp; omega]; rfl)
                 have hr : R = some (j : Int) := by rw [← HR.out, hpb]; rfl
                 subst hr
                 exact ⟨rfl, drewN_below (HB5.out.alloc HB5.out.size _) _⟩)
              | (have hpb : pairB (k : Int) (j : Int) xo yo = false := by (rw [pb_es (by assumption) (by assumption) (by omega), show ((yo : Int) == 32) = false from hq _ (by assumption)]; simp)
                 have hr : R = none := by rw [← HR.out, hpb]; rfl
                 subst hr
                 exact ⟨rfl, drewN_below (HB5.out.alloc HB5.out.size _) _⟩)
              | (have hpb : pairB (k : Int) (j : Int) xo yo = false := by (rw [pb_es (by assumption) (by assumption) (by omega), show ((xo : Int) == 33) = false by assumption]; rfl)
                 have hr : R = none := by rw [← HR.out, hpb]; rfl
                 subst hr
                 exact ⟨rfl, drewN_below (HB5.out.alloc HB5.out.size _) _⟩)
              | (have hpb : pairB (k : Int) (j : Int) xo yo = false := by (rw [pb_es (by assumption) (by assumption) (by omega), show ((xo : Int) == 33) = false by simp; omega]; rfl)
                 have hr : R = none := by rw [← HR.out, hpb]; rfl
                 subst hr
                 exact ⟨rfl, drewN_below (HB5.out.alloc HB5.out.size _) _⟩)
          · have eb : (some b == some (k : Int)) = false := by simpa using hbk
            rw [eb]
            go_enter Tryd.func45, Tryd.ntmps45
            go_wp2_with fail
            refine (target_any ⟨xo, xa, xb, xc, xd⟩ _).mono ?_
            rintro e w1 ⟨rfl, hb⟩
            rw [HTX.out]
            have HB2 := Lib.hid (below_next HB1.out (Nat.le_refl _) hb)
            have HT2 := Lib.hid (HT.out.below hb)
            obtain ⟨bc1, bf1⟩ := bcell hb
            have hz1 : w.heap.size < w1.heap.size := by have := hb.size; simp at this; omega
            have hg1 : g < w1.heap.size := by omega
            clear hb
            go_wp2_with fail
            refine (valid_any ⟨xo, xa, xb, xc, xd⟩ _ HT2.out).mono ?_
            rintro e w2 ⟨rfl, hb⟩
            rw [HV.out]
            have HB3 := Lib.hid (below_next HB2.out (Nat.le_refl _) hb)
            have HT3 := Lib.hid (HT2.out.below hb)
            obtain ⟨bc2, bf2⟩ := bcell hb
            have hz2 : w.heap.size < w2.heap.size := by have := hb.size; omega
            have hg2 : g < w2.heap.size := by omega
            clear hb
            go_wp2_with fail
            refine (valid_any ⟨yo, ya, yb, yc, yd⟩ _ HT3.out).mono ?_
            rintro e w3 ⟨rfl, hb⟩
            rw [HU.out]
            have HB4 := Lib.hid (below_next HB3.out (Nat.le_refl _) hb)
            have HT4 := Lib.hid (HT3.out.below hb)
            obtain ⟨bc3, bf3⟩ := bcell hb
            have hz3 : w.heap.size < w3.heap.size := by have := hb.size; omega
            have hg3 : g < w3.heap.size := by omega
            clear hb
            go_wp2_with fail
            refine (target_any ⟨yo, ya, yb, yc, yd⟩ _).mono ?_
            rintro e w4 ⟨rfl, hb⟩
            rw [HS.out]
            have HB5 := Lib.hid (below_next HB4.out (Nat.le_refl _) hb)
            obtain ⟨bc4, bf4⟩ := bcell hb
            have hz4 : w.heap.size < w4.heap.size := by have := hb.size; omega
            have hg4 : g < w4.heap.size := by omega
            clear hb
            go_wp2_with fail
            go_ret2
            exact ⟨rfl, HB5.out.alloc HB5.out.size _⟩

end Go.Proofs.YtichiccohmeecaaDoor
