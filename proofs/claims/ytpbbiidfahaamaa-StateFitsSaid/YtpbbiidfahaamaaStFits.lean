/- The walk of the law StateFits. -/
import Derived.Test.YtpbbiidfahaamaaStL0
namespace Go.Proofs.Ytpbbiidfahaamaa
open Go.RowKit

set_option maxRecDepth 100000 in
set_option maxHeartbeats 8000000 in
theorem fitslaw_any (D : List Decl) (a b : St) (u va vb : Value) (w : World) (h0 : DeclsAt w u D) (h1 : StAt w va a) (h2 : StAt w vb b) :
    Calls Try.prog 5 #[u, va, vb] w fun e w' => e = .returned (.bool true) ∧ Below w.heap.size w w' := by
  obtain ⟨⟨ad, cd, rfl, -, -, -⟩, -⟩ := id h0
  obtain ⟨c1, i1, o1, rfl, -, -, -⟩ := id h1
  obtain ⟨c2, i2, o2, rfl, -, -, -⟩ := id h2
  obtain ⟨W, hW⟩ : ∃ W, W = (w.alloc (.cells #[c1, i1, o1] 25)).alloc (.cells #[c2, i2, o2] 25) := ⟨_, rfl⟩
  have hB0 : Below w.heap.size w W := by rw [hW]; exact ((Below.refl _ _).alloc (Nat.le_refl _) _).alloc (by simp) _
  have hWs : w.heap.size + 1 < W.heap.size := by rw [hW]; simp
  obtain ⟨r0, r1, r2⟩ := three_new w c1 i1 o1 25
  have q := three_new (w.alloc (.cells #[c1, i1, o1] 25)) c2 i2 o2 25
  have hs1 : (w.alloc (.cells #[c1, i1, o1] 25)).heap.size = w.heap.size + 1 := by simp
  rw [← hW, hs1] at q
  have p0 := alloc_cell r0 (.cells #[c2, i2, o2] 25)
  have p1 := alloc_cell r1 (.cells #[c2, i2, o2] 25)
  have p2 := alloc_cell r2 (.cells #[c2, i2, o2] 25)
  rw [← hW] at p0 p1 p2
  have HCELL : Hid (∀ w', Below W.heap.size W w' → (w'.cell? ⟨w.heap.size, 0, none⟩ = some c1 ∧ w'.cell? ⟨w.heap.size, 1, none⟩ = some i1 ∧ w'.cell? ⟨w.heap.size, 2, none⟩ = some o1) ∧ w'.cell? ⟨w.heap.size + 1, 0, none⟩ = some c2 ∧ w'.cell? ⟨w.heap.size + 1, 1, none⟩ = some i2 ∧ w'.cell? ⟨w.heap.size + 1, 2, none⟩ = some o2) :=
    fun w' hb => ⟨⟨cell_below hb (by omega) p0, cell_below hb (by omega) p1, cell_below hb (by omega) p2⟩, cell_below hb hWs q.1, cell_below hb hWs q.2.1, cell_below hb hWs q.2.2⟩
  have k0 := h0.below hB0 (Nat.le_refl _)
  have k1 := h1.below hB0 (Nat.le_refl _)
  have k2 := h2.below hB0 (Nat.le_refl _)
  have HSA : Hid (∀ w', Below W.heap.size W w' → Calls Try.prog 14 #[.agg #[c1, i1, o1]] w' _) := fun w' hb => small_any a _ w' (k1.below hb (Nat.le_refl _))
  have HSB : Hid (∀ w', Below W.heap.size W w' → Calls Try.prog 14 #[.agg #[c2, i2, o2]] w' _) := fun w' hb => small_any b _ w' (k2.below hb (Nat.le_refl _))
  have HF : Hid (∀ w', Below W.heap.size W w' → Calls Try.prog 21 #[.slice ad D.length cd, .agg #[c1, i1, o1]] w' _) := fun w' hb => fits_any D a _ _ w' (k0.below hb (Nat.le_refl _)) (k1.below hb (Nat.le_refl _))
  have HRF : Hid (∀ w', Below W.heap.size W w' → Calls Try.prog 22 #[.slice ad D.length cd, .agg #[c1, i1, o1]] w' _) := fun w' hb => rfits_any D a _ _ w' (k0.below hb (Nat.le_refl _)) (k1.below hb (Nat.le_refl _))
  have HAB : Hid (∀ w', Below W.heap.size W w' → Calls Try.prog 24 #[.agg #[c1, i1, o1], .agg #[c2, i2, o2]] w' _) := fun w' hb => equal_any a b _ _ w' (k1.below hb (Nat.le_refl _)) (k2.below hb (Nat.le_refl _))
  have HRAB : Hid (∀ w', Below W.heap.size W w' → Calls Try.prog 20 #[.agg #[c1, i1, o1], .agg #[c2, i2, o2]] w' _) := fun w' hb => requal_any a b _ _ w' (k1.below hb (Nat.le_refl _)) (k2.below hb (Nat.le_refl _))
  have eba : decide (b = a) = decide (a = b) := by rw [decide_eq_decide]; exact eq_comm
  have HBA : Hid (∀ w', Below W.heap.size W w' → Calls Try.prog 24 #[.agg #[c2, i2, o2], .agg #[c1, i1, o1]] w' fun e w'' => e = .returned (.bool (decide (a = b))) ∧ Below w'.heap.size w' w'') := fun w' hb => by
    rw [← eba]
    exact equal_any b a _ _ w' (k2.below hb (Nat.le_refl _)) (k1.below hb (Nat.le_refl _))
  have HAA : Hid (∀ w', Below W.heap.size W w' → Calls Try.prog 24 #[.agg #[c1, i1, o1], .agg #[c1, i1, o1]] w' fun e w'' => e = .returned (.bool true) ∧ Below w'.heap.size w' w'') := fun w' hb => by
    have := equal_any a a _ _ w' (k1.below hb (Nat.le_refl _)) (k1.below hb (Nat.le_refl _))
    rwa [decide_eq_true rfl] at this
  have HW := Lib.hid hW
  have HB0 := Lib.hid hB0
  clear k0 k1 k2 eba p0 p1 p2 q r0 r1 r2 hs1 hB0 hW h0 h1 h2 hWs
  generalize hR1 : decide (a = b) = R1 at *
  generalize fitsB D a = R2 at *
  have e1 : (R1 == R1) = true := by simp
  have e2 : (R2 == R2) = true := by simp
  generalize smallB a = S1 at *
  generalize smallB b = S2 at *
  generalize D.length = n at *
  clear hR1
  by_cases h40 : 40 < n
  · have h40' : (40 : Int) < (n : Int) := by omega
    go_enter Try.func5, Try.ntmps5
    go_wp2_with fail
    rw [← HW.out]
    refine (awake_any _).mono ?_
    rintro e w1 ⟨rfl, hb1⟩
    have HF1 := Lib.hid (below_next HB0.out (Nat.le_refl _) hb1)
    clear hb1
    go_wp2
    go_ret
    exact ⟨rfl, HF1.out⟩
  have h40' : (n : Int) ≤ 40 := by omega
  cases S1 with
  | false =>
    go_enter Try.func5, Try.ntmps5
    go_wp2_with fail
    rw [← HW.out]
    refine (awake_any _).mono ?_
    rintro e w1 ⟨rfl, hb1⟩
    obtain ⟨⟨m0, m1, m2⟩, n0, n1, n2⟩ := HCELL.out _ hb1
    have H1 := Lib.hid hb1
    clear hb1
    go_wp2_with fail
    refine (HSA.out _ H1.out).mono ?_
    rintro e w2 ⟨rfl, hb2⟩
    have HF2 := Lib.hid (below_next HB0.out (Nat.le_refl _) (below_next H1.out (Nat.le_refl _) hb2))
    clear hb2 m0 m1 m2 n0 n1 n2
    go_wp2
    go_ret
    exact ⟨rfl, HF2.out⟩
  | true =>
    go_enter Try.func5, Try.ntmps5
    go_wp2_with fail
    rw [← HW.out]
    refine (awake_any _).mono ?_
    rintro e w1 ⟨rfl, hb1⟩
    obtain ⟨⟨m0, m1, m2⟩, n0, n1, n2⟩ := HCELL.out _ hb1
    have H1 := Lib.hid hb1
    clear hb1
    go_wp2_with fail
    refine (HSA.out _ H1.out).mono ?_
    rintro e w2 ⟨rfl, hb2⟩
    have hb2 := below_next H1.out (Nat.le_refl _) hb2
    clear m0 m1 m2 n0 n1 n2
    obtain ⟨⟨m0, m1, m2⟩, n0, n1, n2⟩ := HCELL.out _ hb2
    have H2 := Lib.hid hb2
    clear hb2
    go_wp2_with fail
    refine (HSB.out _ H2.out).mono ?_
    rintro e w3 ⟨rfl, hb3⟩
    have hb3 := below_next H2.out (Nat.le_refl _) hb3
    clear m0 m1 m2 n0 n1 n2
    obtain ⟨⟨m0, m1, m2⟩, n0, n1, n2⟩ := HCELL.out _ hb3
    have H3 := Lib.hid hb3
    clear hb3
    cases S2 with
    | false =>
      have HF3 := Lib.hid (below_next HB0.out (Nat.le_refl _) H3.out)
      go_wp2
      go_ret
      exact ⟨rfl, HF3.out⟩
    | true =>
      have HX := H3
      go_wp2_with fail
      go_region_held3 (fun w' => w'.cell? ⟨w.heap.size, 0, none⟩ = some c1 ∧ w'.cell? ⟨w.heap.size, 1, none⟩ = some i1 ∧ w'.cell? ⟨w.heap.size, 2, none⟩ = some o1 ∧ w'.cell? ⟨w.heap.size + 1, 0, none⟩ = some c2 ∧ w'.cell? ⟨w.heap.size + 1, 1, none⟩ = some i2 ∧ w'.cell? ⟨w.heap.size + 1, 2, none⟩ = some o2)
        (first | exact ⟨(HCELL.out _ HX.out).1.1, (HCELL.out _ HX.out).1.2.1, (HCELL.out _ HX.out).1.2.2, (HCELL.out _ HX.out).2.1, (HCELL.out _ HX.out).2.2.1, (HCELL.out _ HX.out).2.2.2⟩ | exact ⟨m0, m1, m2, n0, n1, n2⟩)
        (first
          | (go_at_call 21; refine (HF.out _ (by first | exact HX.out | exact below_drew HX.out)).mono ?_; rintro e wa ⟨rfl, hba⟩; have HX := Lib.hid (by first | exact below_next HX.out (Nat.le_refl _) hba | exact below_next' HX.out (Nat.le_refl _) hba : Below W.heap.size W wa); clear hba)
          | (go_at_call 22; refine (HRF.out _ (by first | exact HX.out | exact below_drew HX.out)).mono ?_; rintro e wa ⟨rfl, hba⟩; have HX := Lib.hid (by first | exact below_next HX.out (Nat.le_refl _) hba | exact below_next' HX.out (Nat.le_refl _) hba : Below W.heap.size W wa); clear hba)
          | (go_at_call 20; refine (HRAB.out _ (by first | exact HX.out | exact below_drew HX.out)).mono ?_; rintro e wa ⟨rfl, hba⟩; have HX := Lib.hid (by first | exact below_next HX.out (Nat.le_refl _) hba | exact below_next' HX.out (Nat.le_refl _) hba : Below W.heap.size W wa); clear hba)
          | (go_at_call 24; (first | (with_reducible refine (HAB.out _ ?_).mono ?_) | (with_reducible refine (HBA.out _ ?_).mono ?_) | (with_reducible refine (HAA.out _ ?_).mono ?_)); (first | exact HX.out | exact below_drew HX.out); rintro e wa ⟨rfl, hba⟩; have HX := Lib.hid (by first | exact below_next HX.out (Nat.le_refl _) hba | exact below_next' HX.out (Nat.le_refl _) hba : Below W.heap.size W wa); clear hba))
      have HF3 := Lib.hid (below_next HB0.out (Nat.le_refl _) HX.out)
      go_wp2
      go_ret
      exact ⟨rfl, HF3.out⟩

open Go.ChangeShapes Go.WideShapes in
theorem fitslaw_top {H : Type} {enc : TypeId × Value → H} {r : Reach} {b0 : Nat} {w : World} {base : Nat} {sp : Nat → Bool} {held : Bool} (u : Value) (du : DataW H) (pu : List MemPlace) (hu : Value.okWide Try.prog w r b0 36 u) (tu : DataW.Trod enc Try.prog w base sp held 36 u du pu)
    (va : Value) (da : DataW H) (pa : List MemPlace) (ha : Value.okWide Try.prog w r b0 25 va) (ta : DataW.Trod enc Try.prog w base sp held 25 va da pa)
    (vb : Value) (db : DataW H) (pb : List MemPlace) (hb : Value.okWide Try.prog w r b0 25 vb) (tb : DataW.Trod enc Try.prog w base sp held 25 vb db pb) (w' : World) (hw : w' = w := by rfl) :
    Calls Try.prog 5 #[u, va, vb] w' fun e w'' => e = .returned (.bool true) ∧ Below w'.heap.size w' w'' := by
  subst hw
  obtain ⟨D, h0⟩ := decls_top hu tu
  obtain ⟨a, h1⟩ := st_open ha ta
  obtain ⟨b, h2⟩ := st_open hb tb
  exact fitslaw_any D a b u va vb _ h0 h1 h2
end Go.Proofs.Ytpbbiidfahaamaa
