/- The walk of the law EvalMentioned. -/
import Derived.Test.YtlpmoklcdocmmaaEvEnv
namespace Go.Proofs.Ytlpmoklcdocmmaa
open Go.RowKit

theorem great_len {t : T} {env : Env} (h : greatE t env = false) : env.length ≤ 10 := by
  unfold greatE at h
  rw [Bool.or_eq_false_iff, Bool.or_eq_false_iff] at h
  have := of_decide_eq_false h.1.1
  omega

set_option maxRecDepth 100000 in
set_option maxHeartbeats 8000000 in
theorem mentlaw_any (t : T) (env : Env) (x : ByteArray) (yl : List Int) (v l vy : Value) (w : World) (hx : x.size ≤ maxLen) (h : NodeAt w v t) (hl : EnvAt w l env) (hy : IntsAt w vy yl) :
    Calls Try.prog 3 #[v, l, .string x, vy] w fun e w' => e = .returned (.bool true) ∧ Below w.heap.size w w' := by
  obtain ⟨⟨ya, yc, rfl, hyc, hym, -⟩, -⟩ := id hy
  have hyn63' : yl.length ≤ 9223372036854775807 := by unfold maxLen at hym; omega
  have hgl := @great_len t env
  have hln := hl.2
  obtain ⟨kd, nm, s, a, n, c, rfl⟩ := node_form h
  obtain ⟨⟨ea, ec, rfl, -, -, -⟩, -⟩ := id hl
  obtain ⟨m, hmk⟩ : ∃ m, m = env.length := ⟨_, rfl⟩
  rw [← hmk] at hl hgl ⊢
  obtain ⟨W, hW⟩ : ∃ W, W = w.alloc (.cells #[.int .u8 kd, .int .i64 nm, .string s, .slice a n c] 24) := ⟨_, rfl⟩
  have hb0 : Below w.heap.size w W := by rw [hW]; exact below_alloc _ _
  have hk0 : Blk W w.heap.size 24 #[.int .u8 kd, .int .i64 nm, .string s, .slice a n c] := by rw [hW]; exact Blk.new _ _ _
  have hwW : w.heap.size < W.heap.size := hk0.lt
  have HCELL : Hid (∀ w', Below W.heap.size W w' → w'.cell? ⟨w.heap.size, 0, none⟩ = some (.int .u8 kd) ∧ w'.cell? ⟨w.heap.size, 1, none⟩ = some (.int .i64 nm) ∧ w'.cell? ⟨w.heap.size, 2, none⟩ = some (.string s) ∧ w'.cell? ⟨w.heap.size, 3, none⟩ = some (.slice a n c)) :=
    fun w' hb => ⟨cell_below hb hwW (hk0.cell 0), cell_below hb hwW (hk0.cell 1), cell_below hb hwW (hk0.cell 2), cell_below hb hwW (hk0.cell 3)⟩
  have hn1 := h.below hb0 (Nat.le_refl _)
  have he1 := hl.below hb0 (Nat.le_refl _)
  have HN : Hid (∀ w', Below W.heap.size W w' → NodeAt w' (.agg #[.int .u8 kd, .int .i64 nm, .string s, .slice a n c]) t) := fun w' hb => hn1.below hb (Nat.le_refl _)
  have HE : Hid (∀ w', Below W.heap.size W w' → EnvAt w' (.slice ea m ec) env) := fun w' hb => he1.below hb (Nat.le_refl _)
  have HX : Hid (Below W.heap.size W W) := Below.refl _ _
  have HG : Hid (∀ w', Below W.heap.size W w' → Calls Try.prog 12 #[.agg #[.int .u8 kd, .int .i64 nm, .string s, .slice a n c], .slice ea m ec] w' fun e w'' => e = .returned (.int .i64 (b2i (greatE t env))) ∧ Below w'.heap.size w' w'') := fun w' hb => greate_any t env _ _ w' (hn1.below hb (Nat.le_refl _)) (he1.below hb (Nat.le_refl _))
  have hy1 := hy.below hb0 (Nat.le_refl _)
  have HY : Hid (∀ w', Below W.heap.size W w' → IntsAt w' (.slice ya yl.length yc) yl) := fun w' hb => hy1.below hb (Nat.le_refl _)
  generalize greatE t env = G at *
  have HB0 := Lib.hid hb0
  have HMK := Lib.hid hmk
  have HGL := Lib.hid hgl
  have HLN := Lib.hid hln
  have HW := Lib.hid hW
  clear h hl hy hy1 hn1 he1 hb0 hk0 hmk hW hgl hln
  have HV : Hid (∀ f w', Below W.heap.size W w' → AtL w' f env → Calls Try.prog 15 #[.agg #[.int .u8 kd, .int .i64 nm, .string s, .slice a n c], f] w' (ValR (exprV env t) w')) := fun f w' hb hf => expr_any env t _ _ w' (HN.out w' hb) hf
  have HI : Hid (∀ w', Below W.heap.size W w' → Calls Try.prog 13 #[.agg #[.int .u8 kd, .int .i64 nm, .string s, .slice a n c]] w' fun e w'' => e = .returned (.bool (isT t)) ∧ Below w'.heap.size w' w'') := fun w' hb => isexpr_any t _ w' (HN.out w' hb)
  have HV2 : Hid (∀ f w', Below W.heap.size W w' → AtL w' f ((x, yl) :: env) → Calls Try.prog 15 #[.agg #[.int .u8 kd, .int .i64 nm, .string s, .slice a n c], f] w' (ValR (exprV ((x, yl) :: env) t) w')) := fun f w' hb hf => expr_any ((x, yl) :: env) t _ _ w' (HN.out w' hb) hf
  have HM : Hid (∀ w', Below W.heap.size W w' → Calls Try.prog 14 #[.agg #[.int .u8 kd, .int .i64 nm, .string s, .slice a n c], .string x] w' fun e w'' => e = .returned (.bool (says x t)) ∧ Below w'.heap.size w' w'') := fun w' hb => mentions_any x hx t _ w' (HN.out w' hb)
  have hz : says x t = false → exprV ((x, yl) :: env) t = exprV env t := fun h => by unfold exprV; rw [evalT_says x yl env t h]
  generalize exprV env t = R at *
  generalize exprV ((x, yl) :: env) t = R' at *
  generalize isT t = B at *
  generalize says x t = M at *
  have HZ := Lib.hid hz
  have HXS := Lib.hid hx
  obtain ⟨yn, hyn⟩ : ∃ yn, yn = yl.length := ⟨_, rfl⟩
  rw [← hyn] at HY ⊢
  have hyn63 : yn ≤ 9223372036854775807 := by omega
  clear hz hx hyn hyn63' hyc hym
  go_enter Try.func3, Try.ntmps3
  go_wp2_with fail
  rw [← HW.out]
  clear HW
  refine (awake_any _).mono ?_
  rintro e wn ⟨rfl, hbn⟩
  have HX := Lib.hid (by first | exact below_next HX.out (Nat.le_refl _) hbn | exact below_next' HX.out (Nat.le_refl _) hbn)
  clear hbn
  obtain ⟨c0, c1, c2, c3⟩ := HCELL.out _ HX.out
  go_wp2_with fail
  refine (HG.out _ HX.out).mono ?_
  rintro e wn ⟨rfl, hbn⟩
  have HX := Lib.hid (by first | exact below_next HX.out (Nat.le_refl _) hbn | exact below_next' HX.out (Nat.le_refl _) hbn)
  clear hbn c0 c1 c2 c3
  obtain ⟨c0, c1, c2, c3⟩ := HCELL.out _ HX.out
  cases G with
  | true =>
    have e1 : ((b2i true) == 1) = true := rfl
    go_wp2_with fail
    go_ret
    exact ⟨rfl, below_next HB0.out (Nat.le_refl _) HX.out⟩
  | false =>
  have hm10 : m ≤ 10 := HGL.out (by simp)
  have e1 : ((b2i false) == 1) = false := rfl
  go_wp2_with fail
  refine (HI.out _ HX.out).mono ?_
  rintro e wn ⟨rfl, hbn⟩
  have HX := Lib.hid (by first | exact below_next HX.out (Nat.le_refl _) hbn | exact below_next' HX.out (Nat.le_refl _) hbn)
  clear hbn c0 c1 c2 c3
  obtain ⟨c0, c1, c2, c3⟩ := HCELL.out _ HX.out
  cases B with
  | false =>
    go_wp2_with fail
    go_ret
    exact ⟨rfl, below_next HB0.out (Nat.le_refl _) HX.out⟩
  | true =>
  by_cases h20 : 20 < yn
  · have h20' : (20 : Int) < (yn : Int) := by omega
    go_wp2_with fail
    go_ret
    exact ⟨rfl, below_next HB0.out (Nat.le_refl _) HX.out⟩
  have h20' : (yn : Int) ≤ 20 := by omega
  go_wp2_with fail
  refine (HM.out _ HX.out).mono ?_
  rintro e wn ⟨rfl, hbn⟩
  have HX := Lib.hid (by first | exact below_next HX.out (Nat.le_refl _) hbn | exact below_next' HX.out (Nat.le_refl _) hbn)
  clear hbn c0 c1 c2 c3
  obtain ⟨c0, c1, c2, c3⟩ := HCELL.out _ HX.out
  cases M with
  | true =>
    go_wp2_with fail
    go_ret
    exact ⟨rfl, below_next HB0.out (Nat.le_refl _) HX.out⟩
  | false =>
  have hr : R' = R := HZ.out (by simp)
  subst hr
  have hown : (wn.alloc (.cells #[.string x, .slice ya yn yc] 32)).ownsRow W.heap.size 32 2 (.slice (some ⟨wn.heap.size, 0, none⟩) 1 1) 1 [.string x, .slice ya yn yc] :=
    World.ownsRow_lit wn #[.string x, .slice ya yn yc] 1 HX.out.size (by unfold maxLen; omega) rfl
  have hbl : Below W.heap.size W (wn.alloc (.cells #[.string x, .slice ya yn yc] 32)) := HX.out.alloc HX.out.size _
  have HOWN := Lib.hid hown
  have HBL := Lib.hid hbl
  have hm1 : 1 + env.length ≤ 1000000 := by rw [← HMK.out]; omega
  have HM1 := Lib.hid hm1
  clear hown hbl hm1
  go_wp2_with (refine wpList_append_env HBL.out rfl (.tmp 38) (.tmp 39) rfl W.heap.size _ 1 _ rfl HOWN.out _ env rfl (HE.out W (Below.refl _ _)) HM1.out HBL.out.size ?_; intro v' w' news hf hown hgr; have HX := Lib.hid (HBL.out.grown hgr HBL.out.size (fun j hj => (HOWN.out.lt j hj).1)); have HE2 := Lib.hid (env_cons hown hf HXS.out ((HY.out _ HX.out)) HLN.out (fun u c hu _ => hu.below HX.out (Nat.le_refl _))); clear hf hown hgr)
  clear c0 c1 c2 c3 HG HI HM HN HY HOWN HBL
  have hbX := HX.out
  have HCELL := Lib.hid (fun w'' (hb : Below w'.heap.size w' w'') => HCELL.out w'' (below_next hbX (Nat.le_refl _) hb))
  have HE := Lib.hid (fun w'' (hb : Below w'.heap.size w' w'') => HE.out w'' (below_next hbX (Nat.le_refl _) hb))
  have HE2 := Lib.hid (fun w'' (hb : Below w'.heap.size w' w'') => HE2.out.below hb (Nat.le_refl _))
  have HV := Lib.hid (fun f w'' (hb : Below w'.heap.size w' w'') => HV.out f w'' (below_next hbX (Nat.le_refl _) hb))
  have HV2 := Lib.hid (fun f w'' (hb : Below w'.heap.size w' w'') => HV2.out f w'' (below_next hbX (Nat.le_refl _) hb))
  have HB0 := Lib.hid (below_next HB0.out (Nat.le_refl _) hbX)
  have HX : Hid (Below w'.heap.size w' w') := Below.refl _ _
  clear hbX
  obtain ⟨c0, c1, c2, c3⟩ := HCELL.out _ HX.out
  obtain ⟨R1, R2⟩ := R'
  go_wp2_with fail
  go_region_held3 (fun w' => w'.cell? ⟨w.heap.size, 0, none⟩ = some (.int .u8 kd) ∧ w'.cell? ⟨w.heap.size, 1, none⟩ = some (.int .i64 nm) ∧ w'.cell? ⟨w.heap.size, 2, none⟩ = some (.string s) ∧ w'.cell? ⟨w.heap.size, 3, none⟩ = some (.slice a n c))
    (first | exact HCELL.out _ HX.out | exact HCELL.out _ (below_drew HX.out))
    (first
      | (go_at_call 16; refine (lookup_any env _ _ (HE.out _ (by first | exact HX.out | exact below_drew HX.out))).mono ?_; rintro e wn ⟨f, rfl, hA, hbn⟩; have HX := Lib.hid (by first | exact below_next HX.out (Nat.le_refl _) hbn | exact below_next' HX.out (Nat.le_refl _) hbn); obtain ⟨b1, ev1, rfl, -, -, -⟩ := id hA; have HA := Lib.hid hA; clear hA hbn)
      | (go_at_call 15; (with_reducible refine (HV.out _ _ HX.out HA.out).mono ?_); rintro e wn ⟨rfl, hbn⟩; have HX := Lib.hid (by first | exact below_next HX.out (Nat.le_refl _) hbn | exact below_next' HX.out (Nat.le_refl _) hbn); clear hbn HA))
  clear c0 c1 c2 c3
  obtain ⟨c0, c1, c2, c3⟩ := HCELL.out _ HX.out
  go_wp2_with fail
  go_region_held3 (fun w' => w'.cell? ⟨w.heap.size, 0, none⟩ = some (.int .u8 kd) ∧ w'.cell? ⟨w.heap.size, 1, none⟩ = some (.int .i64 nm) ∧ w'.cell? ⟨w.heap.size, 2, none⟩ = some (.string s) ∧ w'.cell? ⟨w.heap.size, 3, none⟩ = some (.slice a n c))
    (first | exact HCELL.out _ HX.out | exact HCELL.out _ (below_drew HX.out))
    (first
      | (go_at_call 16; refine (lookup_any ((x, yl) :: env) _ _ (HE2.out _ (by first | exact HX.out | exact below_drew HX.out))).mono ?_; rintro e wn ⟨f, rfl, hA, hbn⟩; have HX := Lib.hid (by first | exact below_next HX.out (Nat.le_refl _) hbn | exact below_next' HX.out (Nat.le_refl _) hbn); obtain ⟨b1, ev1, rfl, -, -, -⟩ := id hA; have HA := Lib.hid hA; clear hA hbn)
      | (go_at_call 15; (with_reducible refine (HV2.out _ _ HX.out HA.out).mono ?_); rintro e wn ⟨rfl, hbn⟩; have HX := Lib.hid (by first | exact below_next HX.out (Nat.le_refl _) hbn | exact below_next' HX.out (Nat.le_refl _) hbn); clear hbn HA))
  clear c0 c1 c2 c3
  obtain ⟨c0, c1, c2, c3⟩ := HCELL.out _ HX.out
  have e2 : (R1 == R1) = true := by simp
  have e3 : (R2 == R2) = true := by simp
  go_wp2_with fail
  go_ret
  exact ⟨rfl, below_next HB0.out (Nat.le_refl _) HX.out⟩

theorem mentlaw_top {H : Type} {enc : TypeId × Value → H} {r : Reach} {b0 : Nat} {w : World} {base : Nat} {sp : Nat → Bool} {held : Bool} (v0 : Value) (d0 : DataW H) (p0 : List MemPlace) (h0 : Value.okWide Try.prog w r b0 24 v0) (t0 : DataW.Trod enc Try.prog w base sp held 24 v0 d0 p0) (v1 : Value) (d1 : DataW H) (p1 : List MemPlace) (h1 : Value.okWide Try.prog w r b0 25 v1) (t1 : DataW.Trod enc Try.prog w base sp held 25 v1 d1 p1) (x : ByteArray) (hx : x.size ≤ maxLen) (v3 : Value) (d3 : DataW H) (p3 : List MemPlace) (h3 : Value.okWide Try.prog w r b0 26 v3) (t3 : DataW.Trod enc Try.prog w base sp held 26 v3 d3 p3) (w' : World) (hw : w' = w := by rfl) :
    Calls Try.prog 3 #[v0, v1, .string x, v3] w' fun e w'' => e = .returned (.bool true) ∧ Below w'.heap.size w' w'' := by
  subst hw
  obtain ⟨t, ht⟩ := node_top h0 t0
  obtain ⟨env, he⟩ := env_top h1 t1
  obtain ⟨yl, hy⟩ := ints_top h3 t3
  exact mentlaw_any t env x yl v0 v1 v3 _ hx ht he hy
end Go.Proofs.Ytlpmoklcdocmmaa
