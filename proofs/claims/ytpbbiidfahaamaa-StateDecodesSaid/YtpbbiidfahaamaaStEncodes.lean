/- The walk of the law StateEncodes. -/
import Derived.Test.YtpbbiidfahaamaaStQ3
import Derived.Test.YtpbbiidfahaamaaStB4
import Derived.Test.YtpbbiidfahaamaaStStarts
namespace Go.Proofs.Ytpbbiidfahaamaa
open Go.RowKit

set_option maxRecDepth 100000 in
set_option maxHeartbeats 8000000 in
theorem encodeslaw_any (D : List Decl) (a : St) (u va : Value) (w : World) (h0 : DeclsAt w u D) (h1 : StAt w va a) :
    Calls Try.prog 8 #[u, va] w fun e w' => e = .returned (.bool true) ∧ Below w.heap.size w w' := by
  obtain ⟨⟨ad, cd, rfl, -, -, -⟩, -⟩ := id h0
  obtain ⟨c1, i1, o1, rfl, -, -, -⟩ := id h1
  obtain ⟨W, hW⟩ : ∃ W, W = w.alloc (.cells #[c1, i1, o1] 25) := ⟨_, rfl⟩
  have hB0 : Below w.heap.size w W := by rw [hW]; exact below_alloc _ _
  have hbk : Blk W w.heap.size 25 #[c1, i1, o1] := by rw [hW]; exact Blk.new _ _ _
  have k0 := h0.below hB0 (Nat.le_refl _)
  have k1 := h1.below hB0 (Nat.le_refl _)
  have HD := Lib.hid k0
  have HS := Lib.hid k1
  have HSA : Hid (∀ w', Below W.heap.size W w' → Calls Try.prog 14 #[.agg #[c1, i1, o1]] w' _) := fun w' hb => small_any a _ w' (k1.below hb (Nat.le_refl _))
  have HEA : Hid (∀ w', Below W.heap.size W w' → Calls Try.prog 25 #[.slice ad D.length cd, .agg #[c1, i1, o1]] w' _) := fun w' hb => encode_any D a _ _ w' (k0.below hb (Nat.le_refl _)) (k1.below hb (Nat.le_refl _))
  have HRF : Hid (∀ w', Below W.heap.size W w' → Calls Try.prog 22 #[.slice ad D.length cd, .agg #[c1, i1, o1]] w' _) := fun w' hb => rfits_any D a _ _ w' (k0.below hb (Nat.le_refl _)) (k1.below hb (Nat.le_refl _))
  have HRE : Hid (fitsB D a = true → ∀ w', Below W.heap.size W w' → Calls Try.prog 29 #[.slice ad D.length cd, .agg #[c1, i1, o1]] w' fun e w'' => ∃ b, e = .returned b ∧ w''.ownsRow w'.heap.size 5 1 b (encB D a).length (bytesV (encB D a)) ∧ Below w'.heap.size w' w'') := fun hf w' hb => rencode_any D a _ _ w' (k0.below hb (Nat.le_refl _)) (k1.below hb (Nat.le_refl _)) hf
  have HDE : Hid (fitsB D a = true → ∀ (v : Value) (w' : World), BytesAt w' v (encB D a) → Below W.heap.size W w' → Calls Try.prog 28 #[.slice ad D.length cd, v] w' fun e w'' => ∃ r, e = .returned (.tuple #[r, .int .i64 0]) ∧ StNew w'.heap.size w'' r a ∧ Below w'.heap.size w' w'') := fun hf v w' hv hb => by
    have := decode_any D (encB D a) _ v w' (k0.below hb (Nat.le_refl _)) hv
    rw [dec_enc hf h1.inSt] at this
    exact this
  have HIS := Lib.hid h1.inSt
  have HW := Lib.hid hW
  have HB0 := Lib.hid hB0
  have HBK := Lib.hid hbk
  clear k0 k1 hW hB0 hbk h0 h1
  generalize fitsB D a = F at *
  generalize encB D a = B at *
  generalize smallB a = S1 at *
  generalize D.length = n at *
  by_cases h40 : 40 < n
  · have h40' : (40 : Int) < (n : Int) := by omega
    go_enter Try.func8, Try.ntmps8
    go_wp2_with fail
    rw [← HW.out]
    refine (awake_any _).mono ?_
    rintro e w1 ⟨rfl, hb1⟩
    have HF1 := Lib.hid (below_next HB0.out (Nat.le_refl _) hb1)
    clear hb1
    go_wp2
    go_ret
    exact ⟨rfl, HF1.out⟩
  have h40' : (n : Int) ≤ 40 := by omega
  cases S1 with
  | false =>
    go_enter Try.func8, Try.ntmps8
    go_wp2_with fail
    rw [← HW.out]
    refine (awake_any _).mono ?_
    rintro e w1 ⟨rfl, hb1⟩
    have m0 := (HBK.out.next hb1).cell 0
    have m1 := (HBK.out.next hb1).cell 1
    have m2 := (HBK.out.next hb1).cell 2
    have H1 := Lib.hid hb1
    clear hb1
    go_wp2_with fail
    refine (HSA.out _ H1.out).mono ?_
    rintro e w2 ⟨rfl, hb2⟩
    have HF2 := Lib.hid (below_next HB0.out (Nat.le_refl _) (below_next H1.out (Nat.le_refl _) hb2))
    clear hb2 m0 m1 m2
    go_wp2
    go_ret
    exact ⟨rfl, HF2.out⟩
  | true =>
    cases F
    all_goals
      simp only [↓reduceIte, Bool.false_eq_true, forall_const, false_implies] at HEA HRE HDE
      go_enter Try.func8, Try.ntmps8
      go_wp2_with fail
      rw [← HW.out]
      refine (awake_any _).mono ?_
      rintro e w1 ⟨rfl, hb1⟩
      have m0 := (HBK.out.next hb1).cell 0
      have m1 := (HBK.out.next hb1).cell 1
      have m2 := (HBK.out.next hb1).cell 2
      have H1 := Lib.hid hb1
      clear hb1
      go_wp2_with fail
      refine (HSA.out _ H1.out).mono ?_
      rintro e w2 ⟨rfl, hb2⟩
      have hb2' := below_next H1.out (Nat.le_refl _) hb2
      clear m0 m1 m2 hb2
      have m0 := (HBK.out.next hb2').cell 0
      have m1 := (HBK.out.next hb2').cell 1
      have m2 := (HBK.out.next hb2').cell 2
      have H2 := Lib.hid hb2'
      clear hb2'
      go_wp2_with fail
      refine (HEA.out _ H2.out).mono ?_
      rintro e w3 ⟨v1, rfl, hown3, hb3⟩
      have hb3' := below_next H2.out (Nat.le_refl _) hb3
      clear m0 m1 m2 hb3
      have m0 := (HBK.out.next hb3').cell 0
      have m1 := (HBK.out.next hb3').cell 1
      have m2 := (HBK.out.next hb3').cell 2
      have H3 := Lib.hid hb3'
      have HO3 := Lib.hid hown3
      clear hb3' hown3
      go_wp2_with fail
      refine (HRF.out _ H3.out).mono ?_
      rintro e w4 ⟨rfl, hb4⟩
      have hb4' := below_next H3.out (Nat.le_refl _) hb4
      have HO4 := Lib.hid (own_below HO3.out hb4)
      clear m0 m1 m2 hb4
      have m0 := (HBK.out.next hb4').cell 0
      have m1 := (HBK.out.next hb4').cell 1
      have m2 := (HBK.out.next hb4').cell 2
      have H4 := Lib.hid hb4'
      clear hb4' HO3
    · have hf := own_form HO4.out
      obtain ⟨af, cf, rfl⟩ := hf
      have HF4 := Lib.hid (below_next HB0.out (Nat.le_refl _) H4.out)
      go_wp2
      go_ret
      exact ⟨rfl, HF4.out⟩
    · go_wp2_with fail
      refine (HDE.out _ _ (BytesAt.of_own HO4.out) H4.out).mono ?_
      rintro e w5 ⟨r, rfl, hst, hb5⟩
      obtain ⟨c, i, o, vs, rfl, hr, hi, ho⟩ := id hst
      obtain ⟨ac, cc, rfl⟩ := own_form hr.1
      obtain ⟨ai, ci, rfl⟩ := own_form hi
      obtain ⟨ao, co, rfl⟩ := own_form ho
      obtain ⟨w6, hw6⟩ : ∃ w6, w6 = w5.alloc (.cells #[.slice ac a.cells.length cc, .slice ai a.inp.length ci, .slice ao a.out.length co] 25) := ⟨_, rfl⟩
      have hb56 : Below w5.heap.size w5 w6 := by rw [hw6]; exact below_alloc _ _
      have HX6 : Hid (Blk w6 w5.heap.size 25 #[.slice ac a.cells.length cc, .slice ai a.inp.length ci, .slice ao a.out.length co]) := by rw [hw6]; exact Blk.new _ _ _
      have hb6 := below_next H4.out (Nat.le_refl _) (below_next hb5 (Nat.le_refl _) hb56)
      have HST := Lib.hid ((hst.at_ HIS.out).below hb56 (Nat.le_refl _))
      have HO6 := Lib.hid (own_below (own_below HO4.out hb5) hb56)
      have H6 := Lib.hid hb6
      have HW6 := Lib.hid hw6
      have HC6 : Hid (∀ w', Below w6.heap.size w6 w' → (convert 47 9 v1).run Try.prog w' = .ok (.string ⟨B.toArray⟩) w') := fun w' hb => own_convert (own_below HO6.out hb)
      have hC6 := HC6.out w6 (Below.refl _ _)
      have hC6d := HC6.out w6.drew (below_drew (Below.refl _ _))
      have q0 : w6.cell? ⟨w5.heap.size, 0, none⟩ = some (.slice ac a.cells.length cc) := HX6.out.cell 0
      have q1 : w6.cell? ⟨w5.heap.size, 1, none⟩ = some (.slice ai a.inp.length ci) := HX6.out.cell 1
      have q2 : w6.cell? ⟨w5.heap.size, 2, none⟩ = some (.slice ao a.out.length co) := HX6.out.cell 2
      clear m0 m1 m2
      have m0 : w6.cell? ⟨w.heap.size, 0, none⟩ = some c1 := (HBK.out.next hb6).cell 0
      have m1 : w6.cell? ⟨w.heap.size, 1, none⟩ = some i1 := (HBK.out.next hb6).cell 1
      have m2 : w6.cell? ⟨w.heap.size, 2, none⟩ = some o1 := (HBK.out.next hb6).cell 2
      have HEQ : Hid (∀ w', Below w6.heap.size w6 w' → Calls Try.prog 20 #[.agg #[.slice ac a.cells.length cc, .slice ai a.inp.length ci, .slice ao a.out.length co], .agg #[c1, i1, o1]] w' fun e w'' => e = .returned (.bool true) ∧ Below w'.heap.size w' w'') := fun w' hb => by
        have := requal_any a a _ _ w' (HST.out.below hb (Nat.le_refl _)) (HS.out.below (H6.out.trans (hb.mono H6.out.size)) (Nat.le_refl _))
        rwa [decide_eq_true rfl] at this
      clear hw6 hst hr hi ho hb5 hb56 hb6
      have HY : Hid (Below w6.heap.size w6 w6) := Below.refl _ _
      have HRE6 : Hid (∀ w', Below w6.heap.size w6 w' → Calls Try.prog 29 #[.slice ad n cd, .agg #[c1, i1, o1]] w' fun e w'' => ∃ b, e = .returned b ∧ w''.ownsRow w'.heap.size 5 1 b B.length (bytesV B) ∧ Below w'.heap.size w' w'') := fun w' hb => HRE.out w' (H6.out.trans (hb.mono H6.out.size))
      have e1 : ((ByteArray.mk B.toArray).toList == (ByteArray.mk B.toArray).toList) = true := by simp
      go_upto_region 9 with (fail)
      rw [← HW6.out]
      clear HW6
      have HCV : Hid (∀ (v : Value) (w' : World) (base : Nat), w'.ownsRow base 5 1 v B.length (bytesV B) → (convert 47 9 v).run Try.prog w' = .ok (.string ⟨B.toArray⟩) w') := fun v w' base h => own_convert h
      generalize ByteArray.mk B.toArray = X at *
      have hm0 : w.heap.size < w6.heap.size := World.block_lt_of_cell? w6 _ m0
      go_region_law
        (first
          | (go_simp; go_at_call 29; (with_reducible refine (HRE6.out _ ?_).mono ?_); (first | exact HY.out | exact below_drew HY.out); rintro e wa ⟨bb, rfl, hownb, hba⟩; have hcvb := HCV.out _ _ _ hownb; have HY : Hid (Below w6.heap.size w6 wa) := Lib.hid (by first | exact below_next HY.out (Nat.le_refl _) hba | exact below_next' HY.out (Nat.le_refl _) hba); have ma0 := cell_below HY.out hm0 m0; have ma1 := cell_below HY.out hm0 m1; have ma2 := cell_below HY.out hm0 m2; have qa0 : wa.cell? ⟨w5.heap.size, 0, none⟩ = some (.slice ac a.cells.length cc) := (HX6.out.next HY.out).cell 0; have qa1 : wa.cell? ⟨w5.heap.size, 1, none⟩ = some (.slice ai a.inp.length ci) := (HX6.out.next HY.out).cell 1; have qa2 : wa.cell? ⟨w5.heap.size, 2, none⟩ = some (.slice ao a.out.length co) := (HX6.out.next HY.out).cell 2; have hca := HC6.out _ HY.out; clear hba hownb)
          | (go_simp; go_at_call 20; (with_reducible refine (HEQ.out _ ?_).mono ?_); (first | exact HY.out | exact below_drew HY.out); rintro e wa ⟨rfl, hba⟩; have HY : Hid (Below w6.heap.size w6 wa) := Lib.hid (by first | exact below_next HY.out (Nat.le_refl _) hba | exact below_next' HY.out (Nat.le_refl _) hba); clear hba))
      all_goals
        have HF9 := Lib.hid (below_next HB0.out (Nat.le_refl _) (H6.out.trans (HY.out.mono H6.out.size)))
        go_wp2
        go_ret
        exact ⟨rfl, HF9.out⟩

open Go.ChangeShapes Go.WideShapes in
theorem encodeslaw_top {H : Type} {enc : TypeId × Value → H} {r : Reach} {b0 : Nat} {w : World} {base : Nat} {sp : Nat → Bool} {held : Bool} (u : Value) (du : DataW H) (pu : List MemPlace) (hu : Value.okWide Try.prog w r b0 36 u) (tu : DataW.Trod enc Try.prog w base sp held 36 u du pu)
    (va : Value) (da : DataW H) (pa : List MemPlace) (ha : Value.okWide Try.prog w r b0 25 va) (ta : DataW.Trod enc Try.prog w base sp held 25 va da pa) (w' : World) (hw : w' = w := by rfl) :
    Calls Try.prog 8 #[u, va] w' fun e w'' => e = .returned (.bool true) ∧ Below w'.heap.size w' w'' := by
  subst hw
  obtain ⟨D, h0⟩ := decls_top hu tu
  obtain ⟨a, h1⟩ := st_open ha ta
  exact encodeslaw_any D a u va _ h0 h1
end Go.Proofs.Ytpbbiidfahaamaa
