/- The walk of the law EvalFolds. -/
import Derived.Test.YtlpmoklcdocmmaaEvF5
namespace Go.Proofs.Ytlpmoklcdocmmaa
open Go.RowKit

set_option maxRecDepth 100000 in
set_option maxHeartbeats 8000000 in
theorem foldslaw_any (t : T) (env : Env) (v l : Value) (w : World) (h : NodeAt w v t) (hl : EnvAt w l env) :
    Calls Try.prog 10 #[v, l] w fun e w' => e = .returned (.bool true) ∧ Below w.heap.size w w' := by
  have hgood := fun hT => fold_good env t v h hT
  obtain ⟨kd, nm, s, a, n, c, rfl⟩ := node_form h
  obtain ⟨⟨ea, ec, rfl, -, -, -⟩, -⟩ := id hl
  obtain ⟨m, hmk⟩ : ∃ m, m = env.length := ⟨_, rfl⟩
  rw [← hmk] at hl ⊢
  obtain ⟨W, hW⟩ : ∃ W, W = w.alloc (.cells #[.int .u8 kd, .int .i64 nm, .string s, .slice a n c] 24) := ⟨_, rfl⟩
  have hb0 : Below w.heap.size w W := by rw [hW]; exact below_alloc _ _
  have hk0 : Blk W w.heap.size 24 #[.int .u8 kd, .int .i64 nm, .string s, .slice a n c] := by rw [hW]; exact Blk.new _ _ _
  have hwW : w.heap.size < W.heap.size := hk0.lt
  have HCELL : Hid (∀ w', Below W.heap.size W w' → w'.cell? ⟨w.heap.size, 0, none⟩ = some (.int .u8 kd) ∧ w'.cell? ⟨w.heap.size, 1, none⟩ = some (.int .i64 nm) ∧ w'.cell? ⟨w.heap.size, 2, none⟩ = some (.string s) ∧ w'.cell? ⟨w.heap.size, 3, none⟩ = some (.slice a n c)) :=
    fun w' hb => ⟨cell_below hb hwW (hk0.cell 0), cell_below hb hwW (hk0.cell 1), cell_below hb hwW (hk0.cell 2), cell_below hb hwW (hk0.cell 3)⟩
  have hn1 := h.below hb0 (Nat.le_refl _)
  have he1 := hl.below hb0 (Nat.le_refl _)
  have HN : Hid (∀ w', Below W.heap.size W w' → NodeAt w' (.agg #[.int .u8 kd, .int .i64 nm, .string s, .slice a n c]) t) := fun w' hb => hn1.below hb (Nat.le_refl _)
  have HE : Hid (∀ w', Below W.heap.size W w' → EnvAt w' (.slice ea m ec) env) := fun w' hb => he1.below hb (Nat.le_refl _)
  have HX : Hid (Below W.heap.size W W) := Below.refl _ _
  have HG : Hid (∀ w', Below W.heap.size W w' → Calls Try.prog 12 #[.agg #[.int .u8 kd, .int .i64 nm, .string s, .slice a n c], .slice ea m ec] w' fun e w'' => e = .returned (.int .i64 (b2i (greatE t env))) ∧ Below w'.heap.size w' w'') := fun w' hb => greate_any t env _ _ w' (hn1.below hb (Nat.le_refl _)) (he1.below hb (Nat.le_refl _))
  generalize greatE t env = G at *
  have HB0 := Lib.hid hb0
  have HW := Lib.hid hW
  clear h hl hn1 he1 hb0 hk0 hmk hW
  have HV : Hid (∀ f w', Below W.heap.size W w' → AtL w' f env → Calls Try.prog 15 #[.agg #[.int .u8 kd, .int .i64 nm, .string s, .slice a n c], f] w' (ValR (exprV env t) w')) := fun f w' hb hf => expr_any env t _ _ w' (HN.out w' hb) hf
  have HI : Hid (∀ w', Below W.heap.size W w' → Calls Try.prog 13 #[.agg #[.int .u8 kd, .int .i64 nm, .string s, .slice a n c]] w' fun e w'' => e = .returned (.bool (isT t)) ∧ Below w'.heap.size w' w'') := fun w' hb => isexpr_any t _ w' (HN.out w' hb)
  have HK : Hid (isT t = true → ∀ w', Below W.heap.size W w' → Calls Try.prog 24 #[.agg #[.int .u8 kd, .int .i64 nm, .string s, .slice a n c]] w' (CexR (foldF t).1 w')) := fun hT w' hb => cexpr_any t hT _ w' (HN.out w' hb)
  have HV2 : Hid (∀ v f w', NodeAt w' v (foldF t).1 → AtL w' f env → Calls Try.prog 15 #[v, f] w' (ValR (exprV env (foldF t).1) w')) := fun v f w' hv hf => expr_any env _ v f w' hv hf
  have hz : isT t = true → exprV env (foldF t).1 = exprV env t := fun h1 => by
    obtain ⟨g1, g2, -⟩ := hgood h1
    rw [exprV_yes h1, exprV_yes g1, g2]
  generalize exprV env t = R at *
  generalize exprV env (foldF t).1 = R' at *
  generalize isT t = B at *
  generalize (foldF t).1 = t' at *
  obtain ⟨R1, R2⟩ := R
  have HZ := Lib.hid hz
  clear hz hgood
  go_enter Try.func10, Try.ntmps10
  go_wp2_with fail
  rw [← HW.out]
  clear HW
  refine (awake_any _).mono ?_
  rintro e wn ⟨rfl, hbn⟩
  have HX := Lib.hid (by first | exact below_next HX.out (Nat.le_refl _) hbn | exact below_next' HX.out (Nat.le_refl _) hbn)
  clear hbn
  obtain ⟨c0, c1, c2, c3⟩ := HCELL.out _ HX.out
  go_wp2_with fail
  refine (HG.out _ HX.out).mono ?_
  rintro e wn ⟨rfl, hbn⟩
  have HX := Lib.hid (by first | exact below_next HX.out (Nat.le_refl _) hbn | exact below_next' HX.out (Nat.le_refl _) hbn)
  clear hbn c0 c1 c2 c3
  obtain ⟨c0, c1, c2, c3⟩ := HCELL.out _ HX.out
  cases G with
  | true =>
    have e1 : ((b2i true) == 1) = true := rfl
    go_wp2_with fail
    go_ret
    exact ⟨rfl, below_next HB0.out (Nat.le_refl _) HX.out⟩
  | false =>
  have e1 : ((b2i false) == 1) = false := rfl
  go_wp2_with fail
  refine (HI.out _ HX.out).mono ?_
  rintro e wn ⟨rfl, hbn⟩
  have HX := Lib.hid (by first | exact below_next HX.out (Nat.le_refl _) hbn | exact below_next' HX.out (Nat.le_refl _) hbn)
  clear hbn c0 c1 c2 c3
  obtain ⟨c0, c1, c2, c3⟩ := HCELL.out _ HX.out
  cases B with
  | false =>
    go_wp2_with fail
    go_ret
    exact ⟨rfl, below_next HB0.out (Nat.le_refl _) HX.out⟩
  | true =>
  go_wp2_with fail
  go_region_held3 (fun w' => w'.cell? ⟨w.heap.size, 0, none⟩ = some (.int .u8 kd) ∧ w'.cell? ⟨w.heap.size, 1, none⟩ = some (.int .i64 nm) ∧ w'.cell? ⟨w.heap.size, 2, none⟩ = some (.string s) ∧ w'.cell? ⟨w.heap.size, 3, none⟩ = some (.slice a n c))
    (first | exact HCELL.out _ HX.out | exact HCELL.out _ (below_drew HX.out))
    (first
      | (go_at_call 16; refine (lookup_any env _ _ (HE.out _ (by first | exact HX.out | exact below_drew HX.out))).mono ?_; rintro e wn ⟨f, rfl, hA, hbn⟩; have HX := Lib.hid (by first | exact below_next HX.out (Nat.le_refl _) hbn | exact below_next' HX.out (Nat.le_refl _) hbn); obtain ⟨b1, ev1, rfl, -, -, -⟩ := id hA; have HA := Lib.hid hA; clear hA hbn)
      | (go_at_call 15; (with_reducible refine (HV.out _ _ HX.out HA.out).mono ?_); rintro e wn ⟨rfl, hbn⟩; have HX := Lib.hid (by first | exact below_next HX.out (Nat.le_refl _) hbn | exact below_next' HX.out (Nat.le_refl _) hbn); clear hbn HA))
  clear c0 c1 c2 c3
  obtain ⟨c0, c1, c2, c3⟩ := HCELL.out _ HX.out
  have hr := HZ.out (by simp)
  subst hr
  have HK2 := Lib.hid (HK.out (by simp) _ HX.out)
  clear HK
  go_wp2_with fail
  refine HK2.out.mono ?_
  rintro e wn ⟨r, rfl, hnd, hbn⟩
  have HX := Lib.hid (below_next HX.out (Nat.le_refl _) hbn)
  have HND := Lib.hid hnd
  clear hbn c0 c1 c2 c3 HK2 hnd
  go_wp2_with fail
  refine (lookup_any env _ _ (HE.out _ HX.out)).mono ?_
  rintro e wp ⟨f, rfl, hA, hbn⟩
  have HX := Lib.hid (below_next HX.out (Nat.le_refl _) hbn)
  have HC := Lib.hid (HV2.out _ _ _ (HND.out.below hbn (Nat.le_refl _)) hA)
  obtain ⟨b1, ev1, rfl, -, -, -⟩ := id hA
  clear hA hbn HND HV2
  go_wp2_with fail
  refine HC.out.mono ?_
  rintro e wq ⟨rfl, hbn⟩
  have HX := Lib.hid (below_next HX.out (Nat.le_refl _) hbn)
  clear hbn HC
  have e2 : (R1 == R1) = true := by simp
  have e3 : (R2 == R2) = true := by simp
  go_wp2_with fail
  go_ret
  exact ⟨rfl, below_next HB0.out (Nat.le_refl _) HX.out⟩

theorem foldslaw_top {H : Type} {enc : TypeId × Value → H} {r : Reach} {b0 : Nat} {w : World} {base : Nat} {sp : Nat → Bool} {held : Bool} (v0 : Value) (d0 : DataW H) (p0 : List MemPlace) (h0 : Value.okWide Try.prog w r b0 24 v0) (t0 : DataW.Trod enc Try.prog w base sp held 24 v0 d0 p0) (v1 : Value) (d1 : DataW H) (p1 : List MemPlace) (h1 : Value.okWide Try.prog w r b0 25 v1) (t1 : DataW.Trod enc Try.prog w base sp held 25 v1 d1 p1) (w' : World) (hw : w' = w := by rfl) :
    Calls Try.prog 10 #[v0, v1] w' fun e w'' => e = .returned (.bool true) ∧ Below w'.heap.size w' w'' := by
  subst hw
  obtain ⟨t, ht⟩ := node_top h0 t0
  obtain ⟨env, he⟩ := env_top h1 t1
  exact foldslaw_any t env v0 v1 _ ht he
end Go.Proofs.Ytlpmoklcdocmmaa
