/- The walk of the law StateSorts. -/
import Derived.Test.YtpbbiidfahaamaaStL0
namespace Go.Proofs.Ytpbbiidfahaamaa
open Go.RowKit

theorem enc_inj {D : List Decl} {a b : St} (ha : InSt a) (hb : InSt b) (fa : fitsB D a = true) (fb : fitsB D b = true) : ((ByteArray.mk (encB D a).toArray).toList == (ByteArray.mk (encB D b).toArray).toList) = decide (a = b) := by
  rw [Lib.toList_data, Lib.toList_data, Bool.eq_iff_iff, beq_iff_eq, decide_eq_true_eq]
  constructor
  · intro h
    have h1 : encB D a = encB D b := by simpa using h
    have h2 := dec_enc fa ha
    rw [h1, dec_enc fb hb] at h2
    exact (Except.ok.inj h2).symm
  · rintro rfl; rfl

set_option maxRecDepth 100000 in
set_option maxHeartbeats 8000000 in
theorem sortslaw_any (D : List Decl) (a b : St) (u va vb : Value) (w : World) (h0 : DeclsAt w u D) (h1 : StAt w va a) (h2 : StAt w vb b) :
    Calls Try.prog 6 #[u, va, vb] w fun e w' => e = .returned (.bool true) ∧ Below w.heap.size w w' := by
  obtain ⟨⟨ad, cd, rfl, -, -, -⟩, -⟩ := id h0
  obtain ⟨c1, i1, o1, rfl, -, -, -⟩ := id h1
  obtain ⟨c2, i2, o2, rfl, -, -, -⟩ := id h2
  obtain ⟨W, hW⟩ : ∃ W, W = (w.alloc (.cells #[c1, i1, o1] 25)).alloc (.cells #[c2, i2, o2] 25) := ⟨_, rfl⟩
  have hB0 : Below w.heap.size w W := by rw [hW]; exact ((Below.refl _ _).alloc (Nat.le_refl _) _).alloc (by simp) _
  have hWs : w.heap.size + 1 < W.heap.size := by rw [hW]; simp
  obtain ⟨r0, r1, r2⟩ := three_new w c1 i1 o1 25
  have q := three_new (w.alloc (.cells #[c1, i1, o1] 25)) c2 i2 o2 25
  have hs1 : (w.alloc (.cells #[c1, i1, o1] 25)).heap.size = w.heap.size + 1 := by simp
  rw [← hW, hs1] at q
  have p0 := alloc_cell r0 (.cells #[c2, i2, o2] 25)
  have p1 := alloc_cell r1 (.cells #[c2, i2, o2] 25)
  have p2 := alloc_cell r2 (.cells #[c2, i2, o2] 25)
  rw [← hW] at p0 p1 p2
  have HCELL : Hid (∀ w', Below W.heap.size W w' → (w'.cell? ⟨w.heap.size, 0, none⟩ = some c1 ∧ w'.cell? ⟨w.heap.size, 1, none⟩ = some i1 ∧ w'.cell? ⟨w.heap.size, 2, none⟩ = some o1) ∧ w'.cell? ⟨w.heap.size + 1, 0, none⟩ = some c2 ∧ w'.cell? ⟨w.heap.size + 1, 1, none⟩ = some i2 ∧ w'.cell? ⟨w.heap.size + 1, 2, none⟩ = some o2) :=
    fun w' hb => ⟨⟨cell_below hb (by omega) p0, cell_below hb (by omega) p1, cell_below hb (by omega) p2⟩, cell_below hb hWs q.1, cell_below hb hWs q.2.1, cell_below hb hWs q.2.2⟩
  have k0 := h0.below hB0 (Nat.le_refl _)
  have k1 := h1.below hB0 (Nat.le_refl _)
  have k2 := h2.below hB0 (Nat.le_refl _)
  have HSA : Hid (∀ w', Below W.heap.size W w' → Calls Try.prog 14 #[.agg #[c1, i1, o1]] w' _) := fun w' hb => small_any a _ w' (k1.below hb (Nat.le_refl _))
  have HSB : Hid (∀ w', Below W.heap.size W w' → Calls Try.prog 14 #[.agg #[c2, i2, o2]] w' _) := fun w' hb => small_any b _ w' (k2.below hb (Nat.le_refl _))
  have HAB : Hid (∀ w', Below W.heap.size W w' → Calls Try.prog 24 #[.agg #[c1, i1, o1], .agg #[c2, i2, o2]] w' _) := fun w' hb => equal_any a b _ _ w' (k1.below hb (Nat.le_refl _)) (k2.below hb (Nat.le_refl _))
  have HEA : Hid (∀ w', Below W.heap.size W w' → Calls Try.prog 25 #[.slice ad D.length cd, .agg #[c1, i1, o1]] w' _) := fun w' hb => encode_any D a _ _ w' (k0.below hb (Nat.le_refl _)) (k1.below hb (Nat.le_refl _))
  have HEB : Hid (∀ w', Below W.heap.size W w' → Calls Try.prog 25 #[.slice ad D.length cd, .agg #[c2, i2, o2]] w' _) := fun w' hb => encode_any D b _ _ w' (k0.below hb (Nat.le_refl _)) (k2.below hb (Nat.le_refl _))
  have HINJ := Lib.hid (enc_inj (D := D) (a := a) (b := b) h1.inSt h2.inSt)
  have HW := Lib.hid hW
  have HB0 := Lib.hid hB0
  clear k0 k1 k2 p0 p1 p2 q r0 r1 r2 hs1 hB0 hW h0 h1 h2 hWs
  generalize decide (a = b) = R1 at *
  have e1 : (R1 == R1) = true := by simp
  generalize fitsB D a = F1 at *
  generalize fitsB D b = F2 at *
  generalize encB D a = B1 at *
  generalize encB D b = B2 at *
  generalize smallB a = S1 at *
  generalize smallB b = S2 at *
  generalize D.length = n at *
  by_cases h40 : 40 < n
  · have h40' : (40 : Int) < (n : Int) := by omega
    go_enter Try.func6, Try.ntmps6
    go_wp2_with fail
    rw [← HW.out]
    refine (awake_any _).mono ?_
    rintro e w1 ⟨rfl, hb1⟩
    have HF1 := Lib.hid (below_next HB0.out (Nat.le_refl _) hb1)
    clear hb1
    go_wp2
    go_ret
    exact ⟨rfl, HF1.out⟩
  have h40' : (n : Int) ≤ 40 := by omega
  cases S1 with
  | false =>
    go_enter Try.func6, Try.ntmps6
    go_wp2_with fail
    rw [← HW.out]
    refine (awake_any _).mono ?_
    rintro e w1 ⟨rfl, hb1⟩
    obtain ⟨⟨m0, m1, m2⟩, n0, n1, n2⟩ := HCELL.out _ hb1
    have H1 := Lib.hid hb1
    clear hb1
    go_wp2_with fail
    refine (HSA.out _ H1.out).mono ?_
    rintro e w2 ⟨rfl, hb2⟩
    have HF2 := Lib.hid (below_next HB0.out (Nat.le_refl _) (below_next H1.out (Nat.le_refl _) hb2))
    clear hb2 m0 m1 m2 n0 n1 n2
    go_wp2
    go_ret
    exact ⟨rfl, HF2.out⟩
  | true =>
    go_enter Try.func6, Try.ntmps6
    go_wp2_with fail
    rw [← HW.out]
    refine (awake_any _).mono ?_
    rintro e w1 ⟨rfl, hb1⟩
    obtain ⟨⟨m0, m1, m2⟩, n0, n1, n2⟩ := HCELL.out _ hb1
    have H1 := Lib.hid hb1
    clear hb1
    go_wp2_with fail
    refine (HSA.out _ H1.out).mono ?_
    rintro e w2 ⟨rfl, hb2⟩
    have hb2 := below_next H1.out (Nat.le_refl _) hb2
    clear m0 m1 m2 n0 n1 n2
    obtain ⟨⟨m0, m1, m2⟩, n0, n1, n2⟩ := HCELL.out _ hb2
    have H2 := Lib.hid hb2
    clear hb2
    go_wp2_with fail
    refine (HSB.out _ H2.out).mono ?_
    rintro e w3 ⟨rfl, hb3⟩
    have hb3 := below_next H2.out (Nat.le_refl _) hb3
    clear m0 m1 m2 n0 n1 n2
    obtain ⟨⟨m0, m1, m2⟩, n0, n1, n2⟩ := HCELL.out _ hb3
    have H3 := Lib.hid hb3
    clear hb3
    cases S2 with
    | false =>
      have HF3 := Lib.hid (below_next HB0.out (Nat.le_refl _) H3.out)
      go_wp2
      go_ret
      exact ⟨rfl, HF3.out⟩
    | true =>
      cases F1 <;> cases F2
      all_goals
        simp only [↓reduceIte, Bool.false_eq_true] at HEA HEB
        go_wp2_with fail
        refine (HEA.out _ H3.out).mono ?_
        rintro e w4 ⟨v1, rfl, hown1, hb4⟩
        have hb4' := below_next H3.out (Nat.le_refl _) hb4
        clear m0 m1 m2 n0 n1 n2
        obtain ⟨⟨m0, m1, m2⟩, n0, n1, n2⟩ := HCELL.out _ hb4'
        have H4 := Lib.hid hb4'
        have HO1 := Lib.hid hown1
        clear hb4 hb4' hown1
        go_wp2_with fail
        refine (HEB.out _ H4.out).mono ?_
        rintro e w5 ⟨v2, rfl, hown2, hb5⟩
        have hb5' := below_next H4.out (Nat.le_refl _) hb5
        clear m0 m1 m2 n0 n1 n2
        obtain ⟨⟨m0, m1, m2⟩, n0, n1, n2⟩ := HCELL.out _ hb5'
        have H5 := Lib.hid hb5'
        have HO1' := Lib.hid (own_below HO1.out hb5)
        have HO2 := Lib.hid hown2
        have HF5 := Lib.hid (below_next HB0.out (Nat.le_refl _) H5.out)
        clear hb5 hb5' hown2 HO1
      · go_wp2
        go_ret
        exact ⟨rfl, HF5.out⟩
      · go_wp2
        go_ret
        exact ⟨rfl, HF5.out⟩
      · go_wp2
        go_ret
        exact ⟨rfl, HF5.out⟩
      · have HC1 : Hid (∀ w', Below w5.heap.size w5 w' → (convert 47 9 v1).run Try.prog w' = .ok (.string ⟨B1.toArray⟩) w') := fun w' hb => own_convert (own_below HO1'.out hb)
        have HC2 : Hid (∀ w', Below w5.heap.size w5 w' → (convert 47 9 v2).run Try.prog w' = .ok (.string ⟨B2.toArray⟩) w') := fun w' hb => own_convert (own_below HO2.out hb)
        have hC1 := HC1.out w5 (Below.refl _ _)
        have hC2 := HC2.out w5 (Below.refl _ _)
        have hI : ((ByteArray.mk B1.toArray).toList == (ByteArray.mk B2.toArray).toList) = R1 := HINJ.out (by simp) (by simp)
        generalize ByteArray.mk B1.toArray = X1 at *
        generalize ByteArray.mk B2.toArray = X2 at *
        clear HO1' HO2
        have HX := H5
        have HY : Hid (Below w5.heap.size w5 w5) := Below.refl _ _
        go_wp2_with fail
        go_region_held3 (fun w' => (w'.cell? ⟨w.heap.size, 0, none⟩ = some c1 ∧ w'.cell? ⟨w.heap.size, 1, none⟩ = some i1 ∧ w'.cell? ⟨w.heap.size, 2, none⟩ = some o1 ∧ w'.cell? ⟨w.heap.size + 1, 0, none⟩ = some c2 ∧ w'.cell? ⟨w.heap.size + 1, 1, none⟩ = some i2 ∧ w'.cell? ⟨w.heap.size + 1, 2, none⟩ = some o2) ∧ (convert 47 9 v1).run Try.prog w' = .ok (.string X1) w' ∧ (convert 47 9 v2).run Try.prog w' = .ok (.string X2) w')
          (first | exact ⟨⟨(HCELL.out _ HX.out).1.1, (HCELL.out _ HX.out).1.2.1, (HCELL.out _ HX.out).1.2.2, (HCELL.out _ HX.out).2.1, (HCELL.out _ HX.out).2.2.1, (HCELL.out _ HX.out).2.2.2⟩, HC1.out _ HY.out, HC2.out _ HY.out⟩ | exact ⟨⟨m0, m1, m2, n0, n1, n2⟩, HC1.out _ (below_drew HY.out), HC2.out _ (below_drew HY.out)⟩)
          (first
            | (go_at_call 24; refine (HAB.out _ (by first | exact HX.out | exact below_drew HX.out)).mono ?_; rintro e wa ⟨rfl, hba⟩; have HX := Lib.hid (by first | exact below_next HX.out (Nat.le_refl _) hba | exact below_next' HX.out (Nat.le_refl _) hba : Below W.heap.size W wa); have HY := Lib.hid (by first | exact below_next HY.out (Nat.le_refl _) hba | exact below_next' HY.out (Nat.le_refl _) hba : Below w5.heap.size w5 wa); clear hba))
        have HF9 := Lib.hid (below_next HB0.out (Nat.le_refl _) HX.out)
        all_goals go_wp2
        go_ret
        exact ⟨rfl, HF9.out⟩

open Go.ChangeShapes Go.WideShapes in
theorem sortslaw_top {H : Type} {enc : TypeId × Value → H} {r : Reach} {b0 : Nat} {w : World} {base : Nat} {sp : Nat → Bool} {held : Bool} (u : Value) (du : DataW H) (pu : List MemPlace) (hu : Value.okWide Try.prog w r b0 36 u) (tu : DataW.Trod enc Try.prog w base sp held 36 u du pu)
    (va : Value) (da : DataW H) (pa : List MemPlace) (ha : Value.okWide Try.prog w r b0 25 va) (ta : DataW.Trod enc Try.prog w base sp held 25 va da pa)
    (vb : Value) (db : DataW H) (pb : List MemPlace) (hb : Value.okWide Try.prog w r b0 25 vb) (tb : DataW.Trod enc Try.prog w base sp held 25 vb db pb) (w' : World) (hw : w' = w := by rfl) :
    Calls Try.prog 6 #[u, va, vb] w' fun e w'' => e = .returned (.bool true) ∧ Below w'.heap.size w' w'' := by
  subst hw
  obtain ⟨D, h0⟩ := decls_top hu tu
  obtain ⟨a, h1⟩ := st_open ha ta
  obtain ⟨b, h2⟩ := st_open hb tb
  exact sortslaw_any D a b u va vb _ h0 h1 h2
end Go.Proofs.Ytpbbiidfahaamaa
