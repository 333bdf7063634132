/- The walk of the law EvalStrict. -/
import Derived.Test.YtlpmoklcdocmmaaEvP2
namespace Go.Proofs.Ytlpmoklcdocmmaa
open Go.RowKit

theorem bin_isT {op : Int} {x y : T} (ho : 8 ≤ op ∧ op ≤ 23) (hx : isT x = true) (hy : isT y = true) : isT (.mk op 0 ⟨#[]⟩ [x, y]) = true := by
  rw [isT, isL, isL, isL, hx, hy, isN_bin ho]
  rfl
theorem bin_exprV {env : Env} {op : Int} {x y : T} (ho : 8 ≤ op ∧ op ≤ 23) (hx : isT x = true) (hy : isT y = true) :
    exprV env (.mk op 0 ⟨#[]⟩ [x, y]) = if (exprV env x).2 ≠ 0 then (0, (exprV env x).2) else if (exprV env y).2 ≠ 0 then (0, (exprV env y).2) else (applyV op (exprV env x).1 (exprV env y).1, applyE op (exprV env y).1) := by
  rw [exprV_yes (bin_isT ho hx hy), exprV_yes hx, exprV_yes hy, evalT]
  unfold evalN
  rw [if_neg (by omega), if_neg (by omega), evalL, evalL, evalL]
def tVx : T := .mk 2 0 ⟨#[120]⟩ []
def tVy : T := .mk 2 0 ⟨#[121]⟩ []
def envXY (a b : Int) : Env := [(⟨#[120]⟩, [a]), (⟨#[121]⟩, [b])]
theorem look_x (a b : Int) : look (envXY a b) ⟨#[120]⟩ = some [a] := by unfold envXY; rw [look, if_pos rfl]
theorem look_y (a b : Int) : look (envXY a b) ⟨#[121]⟩ = some [b] := by unfold envXY; rw [look, if_neg (by decide), look, if_pos rfl]
theorem vX (a b : Int) : exprV (envXY a b) tVx = (a, 0) := by
  rw [exprV_yes (by decide +kernel), tVx, evalT]
  unfold evalN
  rw [if_neg (by decide), if_pos (by decide)]
  exact varV_2 (look_x a b)
theorem vY (a b : Int) : exprV (envXY a b) tVy = (b, 0) := by
  rw [exprV_yes (by decide +kernel), tVy, evalT]
  unfold evalN
  rw [if_neg (by decide), if_pos (by decide)]
  exact varV_2 (look_y a b)
theorem vXY (op a b : Int) (ho : 8 ≤ op ∧ op ≤ 23) : exprV (envXY a b) (.mk op 0 ⟨#[]⟩ [tVx, tVy]) = (applyV op a b, applyE op b) := by
  rw [bin_exprV ho (by decide +kernel) (by decide +kernel), vX, vY]
  rfl
theorem exprV_in {env : Env} {w : World} {v l : Value} {t : T} (h : NodeAt w v t) (hl : EnvAt w l env) : I64 (exprV env t).1 := by
  unfold exprV
  split
  · exact evalT_in hl.in_ t v h
  · exact zero_in

set_option maxRecDepth 100000 in
set_option maxHeartbeats 8000000 in
theorem strictlaw_any (op : Int) (hop : 0 ≤ op ∧ op ≤ 255) (x y : T) (env : Env) (vx vy l : Value) (w : World) (hx : NodeAt w vx x) (hy : NodeAt w vy y) (hl : EnvAt w l env) :
    Calls Try.prog 4 #[.int .u8 op, vx, vy, l] w fun e w' => e = .returned (.bool true) ∧ Below w.heap.size w w' := by
  obtain ⟨kd, nm, s, a, n, c, rfl⟩ := node_form hx
  obtain ⟨kd2, nm2, s2, a2, n2, c2, rfl⟩ := node_form hy
  obtain ⟨⟨ea, ec, rfl, -, -, -⟩, -⟩ := id hl
  obtain ⟨m, hmk⟩ : ∃ m, m = env.length := ⟨_, rfl⟩
  have hra := exprV_in hx hl
  have hrb := exprV_in hy hl
  rw [← hmk] at hl ⊢
  obtain ⟨W, hW⟩ : ∃ W, W = (w.alloc (.cells #[.int .u8 kd, .int .i64 nm, .string s, .slice a n c] 24)).alloc (.cells #[.int .u8 kd2, .int .i64 nm2, .string s2, .slice a2 n2 c2] 24) := ⟨_, rfl⟩
  have hb0 : Below w.heap.size w W := by rw [hW]; exact (below_alloc _ _).alloc (by simp) _
  have hkx : Blk W w.heap.size 24 #[.int .u8 kd, .int .i64 nm, .string s, .slice a n c] := by rw [hW]; exact (Blk.new _ _ _).al _
  have hky : Blk W (w.heap.size + 1) 24 #[.int .u8 kd2, .int .i64 nm2, .string s2, .slice a2 n2 c2] := by rw [hW]; exact Blk.new' (by simp)
  have hwW := hky.lt
  have HCX : Hid (∀ w', Below W.heap.size W w' → w'.cell? ⟨w.heap.size, 0, none⟩ = some (.int .u8 kd) ∧ w'.cell? ⟨w.heap.size, 1, none⟩ = some (.int .i64 nm) ∧ w'.cell? ⟨w.heap.size, 2, none⟩ = some (.string s) ∧ w'.cell? ⟨w.heap.size, 3, none⟩ = some (.slice a n c)) := fun w' hb => ⟨cell_below hb (by omega) (hkx.cell 0), cell_below hb (by omega) (hkx.cell 1), cell_below hb (by omega) (hkx.cell 2), cell_below hb (by omega) (hkx.cell 3)⟩
  have HCY : Hid (∀ w', Below W.heap.size W w' → w'.cell? ⟨w.heap.size + 1, 0, none⟩ = some (.int .u8 kd2) ∧ w'.cell? ⟨w.heap.size + 1, 1, none⟩ = some (.int .i64 nm2) ∧ w'.cell? ⟨w.heap.size + 1, 2, none⟩ = some (.string s2) ∧ w'.cell? ⟨w.heap.size + 1, 3, none⟩ = some (.slice a2 n2 c2)) := fun w' hb => ⟨cell_below hb hwW (hky.cell 0), cell_below hb hwW (hky.cell 1), cell_below hb hwW (hky.cell 2), cell_below hb hwW (hky.cell 3)⟩
  have hx1 := hx.below hb0 (Nat.le_refl _)
  have hy1 := hy.below hb0 (Nat.le_refl _)
  have he1 := hl.below hb0 (Nat.le_refl _)
  have HNX : Hid (∀ w', Below W.heap.size W w' → NodeAt w' (.agg #[.int .u8 kd, .int .i64 nm, .string s, .slice a n c]) x) := fun w' hb => hx1.below hb (Nat.le_refl _)
  have HNY : Hid (∀ w', Below W.heap.size W w' → NodeAt w' (.agg #[.int .u8 kd2, .int .i64 nm2, .string s2, .slice a2 n2 c2]) y) := fun w' hb => hy1.below hb (Nat.le_refl _)
  have HE : Hid (∀ w', Below W.heap.size W w' → EnvAt w' (.slice ea m ec) env) := fun w' hb => he1.below hb (Nat.le_refl _)
  have HX : Hid (Below W.heap.size W W) := Below.refl _ _
  have HGX : Hid (∀ w', Below W.heap.size W w' → Calls Try.prog 12 #[.agg #[.int .u8 kd, .int .i64 nm, .string s, .slice a n c], .slice ea m ec] w' fun e w'' => e = .returned (.int .i64 (b2i (greatE x env))) ∧ Below w'.heap.size w' w'') := fun w' hb => greate_any x env _ _ w' (HNX.out w' hb) (HE.out w' hb)
  have HGY : Hid (∀ w', Below W.heap.size W w' → Calls Try.prog 12 #[.agg #[.int .u8 kd2, .int .i64 nm2, .string s2, .slice a2 n2 c2], .slice ea m ec] w' fun e w'' => e = .returned (.int .i64 (b2i (greatE y env))) ∧ Below w'.heap.size w' w'') := fun w' hb => greate_any y env _ _ w' (HNY.out w' hb) (HE.out w' hb)
  have HIX : Hid (∀ w', Below W.heap.size W w' → Calls Try.prog 13 #[.agg #[.int .u8 kd, .int .i64 nm, .string s, .slice a n c]] w' fun e w'' => e = .returned (.bool (isT x)) ∧ Below w'.heap.size w' w'') := fun w' hb => isexpr_any x _ w' (HNX.out w' hb)
  have HIY : Hid (∀ w', Below W.heap.size W w' → Calls Try.prog 13 #[.agg #[.int .u8 kd2, .int .i64 nm2, .string s2, .slice a2 n2 c2]] w' fun e w'' => e = .returned (.bool (isT y)) ∧ Below w'.heap.size w' w'') := fun w' hb => isexpr_any y _ w' (HNY.out w' hb)
  have HVX : Hid (∀ f w', Below W.heap.size W w' → AtL w' f env → Calls Try.prog 15 #[.agg #[.int .u8 kd, .int .i64 nm, .string s, .slice a n c], f] w' (ValR (exprV env x) w')) := fun f w' hb hf => expr_any env x _ _ w' (HNX.out w' hb) hf
  have HVY : Hid (∀ f w', Below W.heap.size W w' → AtL w' f env → Calls Try.prog 15 #[.agg #[.int .u8 kd2, .int .i64 nm2, .string s2, .slice a2 n2 c2], f] w' (ValR (exprV env y) w')) := fun f w' hb hf => expr_any env y _ _ w' (HNY.out w' hb) hf
  have hrn : 8 ≤ op → op ≤ 23 → isT x = true → isT y = true → exprV env (.mk op 0 ⟨#[]⟩ [x, y]) = if (exprV env x).2 ≠ 0 then (0, (exprV env x).2) else if (exprV env y).2 ≠ 0 then (0, (exprV env y).2) else (applyV op (exprV env x).1 (exprV env y).1, applyE op (exprV env y).1) := fun h1 h2 h3 h4 => bin_exprV ⟨h1, h2⟩ h3 h4
  have hin : 8 ≤ op → op ≤ 23 → isT x = true → isT y = true → isT (.mk op 0 ⟨#[]⟩ [x, y]) = true := fun h1 h2 h3 h4 => bin_isT ⟨h1, h2⟩ h3 h4
  generalize greatE x env = GX at *
  generalize greatE y env = GY at *
  generalize exprV env x = RX at *
  generalize exprV env y = RY at *
  generalize isT x = BX at *
  generalize isT y = BY at *
  obtain ⟨ra, re⟩ := RX
  obtain ⟨rb, rf⟩ := RY
  have HRA := Lib.hid hra
  have HRB := Lib.hid hrb
  have HRN := Lib.hid hrn
  have HIN := Lib.hid hin
  have HB0 := Lib.hid hb0
  have HW := Lib.hid hW
  obtain ⟨hop0, hop255⟩ := hop
  clear hx hy hl hx1 hy1 he1 hb0 hkx hky hmk hW hra hrb hrn hin
  go_enter Try.func4, Try.ntmps4
  go_wp2_with fail
  rw [← HW.out]
  clear HW
  refine (awake_any _).mono ?_
  rintro e wn ⟨rfl, hbn⟩
  have HX := Lib.hid (by first | exact below_next HX.out (Nat.le_refl _) hbn | exact below_next' HX.out (Nat.le_refl _) hbn)
  clear hbn
  obtain ⟨c0, c1, c2', c3⟩ := HCX.out _ HX.out
  obtain ⟨d0, d1, d2, d3⟩ := HCY.out _ HX.out
  go_wp2_with fail
  refine (HGX.out _ HX.out).mono ?_
  rintro e wn ⟨rfl, hbn⟩
  have HX := Lib.hid (by first | exact below_next HX.out (Nat.le_refl _) hbn | exact below_next' HX.out (Nat.le_refl _) hbn)
  clear hbn c0 c1 c2' c3 d0 d1 d2 d3
  obtain ⟨c0, c1, c2', c3⟩ := HCX.out _ HX.out
  obtain ⟨d0, d1, d2, d3⟩ := HCY.out _ HX.out
  cases GX with
  | true =>
    have e1 : ((b2i true) == 1) = true := rfl
    go_wp2_with fail
    go_ret
    exact ⟨rfl, below_next HB0.out (Nat.le_refl _) HX.out⟩
  | false =>
  have e1 : ((b2i false) == 1) = false := rfl
  go_wp2_with fail
  refine (HGY.out _ HX.out).mono ?_
  rintro e wn ⟨rfl, hbn⟩
  have HX := Lib.hid (by first | exact below_next HX.out (Nat.le_refl _) hbn | exact below_next' HX.out (Nat.le_refl _) hbn)
  clear hbn c0 c1 c2' c3 d0 d1 d2 d3
  obtain ⟨c0, c1, c2', c3⟩ := HCX.out _ HX.out
  obtain ⟨d0, d1, d2, d3⟩ := HCY.out _ HX.out
  cases GY with
  | true =>
    have e1 : ((b2i true) == 1) = true := rfl
    go_wp2_with fail
    go_ret
    exact ⟨rfl, below_next HB0.out (Nat.le_refl _) HX.out⟩
  | false =>
  go_wp2_with fail
  refine (HIX.out _ HX.out).mono ?_
  rintro e wn ⟨rfl, hbn⟩
  have HX := Lib.hid (by first | exact below_next HX.out (Nat.le_refl _) hbn | exact below_next' HX.out (Nat.le_refl _) hbn)
  clear hbn c0 c1 c2' c3 d0 d1 d2 d3
  obtain ⟨c0, c1, c2', c3⟩ := HCX.out _ HX.out
  obtain ⟨d0, d1, d2, d3⟩ := HCY.out _ HX.out
  cases BX with
  | false =>
    go_wp2_with fail
    go_ret
    exact ⟨rfl, below_next HB0.out (Nat.le_refl _) HX.out⟩
  | true =>
  go_wp2_with fail
  refine (HIY.out _ HX.out).mono ?_
  rintro e wn ⟨rfl, hbn⟩
  have HX := Lib.hid (by first | exact below_next HX.out (Nat.le_refl _) hbn | exact below_next' HX.out (Nat.le_refl _) hbn)
  clear hbn c0 c1 c2' c3 d0 d1 d2 d3
  obtain ⟨c0, c1, c2', c3⟩ := HCX.out _ HX.out
  obtain ⟨d0, d1, d2, d3⟩ := HCY.out _ HX.out
  cases BY with
  | false =>
    go_wp2_with fail
    go_ret
    exact ⟨rfl, below_next HB0.out (Nat.le_refl _) HX.out⟩
  | true =>
  by_cases h8 : op < 8
  · go_wp2_with fail
    go_ret
    exact ⟨rfl, below_next HB0.out (Nat.le_refl _) HX.out⟩
  have h8' : 8 ≤ op := by omega
  by_cases h23 : 23 < op
  · go_wp2_with fail
    go_ret
    exact ⟨rfl, below_next HB0.out (Nat.le_refl _) HX.out⟩
  have h23' : op ≤ 23 := by omega
  obtain ⟨W2, hW2⟩ : ∃ W2, W2 = (wn.alloc (.cells #[.int .u8 kd, .int .i64 nm, .string s, .slice a n c, .int .u8 kd2, .int .i64 nm2, .string s2, .slice a2 n2 c2] 24)).alloc (.cells #[.int .u8 op, .int .i64 0, .string ⟨#[]⟩, .slice (some ⟨wn.heap.size, 0, none⟩) 2 2] 24) := ⟨_, rfl⟩
  have hb2 : Below wn.heap.size wn W2 := by rw [hW2]; exact (below_alloc _ _).alloc (by simp) _
  have hk8 : Blk W2 wn.heap.size 24 #[.int .u8 kd, .int .i64 nm, .string s, .slice a n c, .int .u8 kd2, .int .i64 nm2, .string s2, .slice a2 n2 c2] := by rw [hW2]; exact (Blk.new _ _ _).al _
  have hkn : Blk W2 (wn.heap.size + 1) 24 #[.int .u8 op, .int .i64 0, .string ⟨#[]⟩, .slice (some ⟨wn.heap.size, 0, none⟩) 2 2] := by rw [hW2]; exact Blk.new' (by simp)
  have HX := Lib.hid (below_next HX.out (Nat.le_refl _) hb2)
  have hnn : NodeAt W2 (.agg #[.int .u8 op, .int .i64 0, .string ⟨#[]⟩, .slice (some ⟨wn.heap.size, 0, none⟩) 2 2]) (.mk op 0 ⟨#[]⟩ [x, y]) := NodeAt.mk_iff.2 ⟨_, rfl, ⟨hop0, hop255⟩, by simp [I64], by decide, kids2_at hk8 (HNX.out _ HX.out) (HNY.out _ HX.out)⟩
  have hltn := hkn.lt
  have HCN : Hid (∀ w', Below W2.heap.size W2 w' → w'.cell? ⟨wn.heap.size + 1, 0, none⟩ = some (.int .u8 op) ∧ w'.cell? ⟨wn.heap.size + 1, 1, none⟩ = some (.int .i64 0) ∧ w'.cell? ⟨wn.heap.size + 1, 2, none⟩ = some (.string ⟨#[]⟩) ∧ w'.cell? ⟨wn.heap.size + 1, 3, none⟩ = some (.slice (some ⟨wn.heap.size, 0, none⟩) 2 2)) := fun w' hb => ⟨cell_below hb hltn (hkn.cell 0), cell_below hb hltn (hkn.cell 1), cell_below hb hltn (hkn.cell 2), cell_below hb hltn (hkn.cell 3)⟩
  have HNN : Hid (∀ w', Below W2.heap.size W2 w' → NodeAt w' (.agg #[.int .u8 op, .int .i64 0, .string ⟨#[]⟩, .slice (some ⟨wn.heap.size, 0, none⟩) 2 2]) (.mk op 0 ⟨#[]⟩ [x, y])) := fun w' hb => hnn.below hb (Nat.le_refl _)
  have hin2 := HIN.out h8' h23' (by simp) (by simp)
  have hrn2 := HRN.out h8' h23' (by simp) (by simp)
  have HIC : Hid (∀ w', Below W2.heap.size W2 w' → Calls Try.prog 13 #[.agg #[.int .u8 op, .int .i64 0, .string ⟨#[]⟩, .slice (some ⟨wn.heap.size, 0, none⟩) 2 2]] w' fun e w'' => e = .returned (.bool true) ∧ Below w'.heap.size w' w'') := fun w' hb => by
    have := isexpr_any _ _ w' (HNN.out w' hb)
    rwa [hin2] at this
  have HVN : Hid (∀ f w', Below W2.heap.size W2 w' → AtL w' f env → Calls Try.prog 15 #[.agg #[.int .u8 op, .int .i64 0, .string ⟨#[]⟩, .slice (some ⟨wn.heap.size, 0, none⟩) 2 2], f] w' (ValR (exprV env (.mk op 0 ⟨#[]⟩ [x, y])) w')) := fun f w' hb hf => expr_any env _ _ _ w' (HNN.out w' hb) hf
  generalize exprV env (.mk op 0 ⟨#[]⟩ [x, y]) = RN at *
  obtain ⟨rv, rg⟩ := RN
  have HRN2 := Lib.hid hrn2
  have HW2 := Lib.hid hW2
  have hbX := HX.out
  have HCX := Lib.hid (fun w'' (hb : Below W2.heap.size W2 w'') => HCX.out w'' (below_next hbX (Nat.le_refl _) hb))
  have HCY := Lib.hid (fun w'' (hb : Below W2.heap.size W2 w'') => HCY.out w'' (below_next hbX (Nat.le_refl _) hb))
  have HE := Lib.hid (fun w'' (hb : Below W2.heap.size W2 w'') => HE.out w'' (below_next hbX (Nat.le_refl _) hb))
  have HVX := Lib.hid (fun f w'' (hb : Below W2.heap.size W2 w'') => HVX.out f w'' (below_next hbX (Nat.le_refl _) hb))
  have HVY := Lib.hid (fun f w'' (hb : Below W2.heap.size W2 w'') => HVY.out f w'' (below_next hbX (Nat.le_refl _) hb))
  have HB0 := Lib.hid (below_next HB0.out (Nat.le_refl _) hbX)
  have HX : Hid (Below W2.heap.size W2 W2) := Below.refl _ _
  obtain ⟨n0, n1, n2', n3⟩ := HCN.out _ HX.out
  rw [hW2] at n0 n1 n2' n3
  clear hW2 hb2 hk8 hkn hnn hin2 hrn2 hbX HIN HRN HNX HNY HNN HGX HGY HIX HIY h8 h23
  go_wp2_with fail
  rw [← HW2.out]
  refine (HIC.out _ HX.out).mono ?_
  rintro e wm ⟨rfl, hbn⟩
  have HX := Lib.hid (by first | exact below_next HX.out (Nat.le_refl _) hbn | exact below_next' HX.out (Nat.le_refl _) hbn)
  clear hbn n0 n1 n2' n3 c0 c1 c2' c3 d0 d1 d2 d3 HIC
  obtain ⟨c0, c1, c2', c3⟩ := HCX.out _ HX.out
  go_wp2_with fail
  go_region_held3 (fun w' => w'.cell? ⟨w.heap.size, 0, none⟩ = some (.int .u8 kd) ∧ w'.cell? ⟨w.heap.size, 1, none⟩ = some (.int .i64 nm) ∧ w'.cell? ⟨w.heap.size, 2, none⟩ = some (.string s) ∧ w'.cell? ⟨w.heap.size, 3, none⟩ = some (.slice a n c))
    (first | exact HCX.out _ HX.out | exact HCX.out _ (below_drew HX.out))
    (first
      | (go_at_call 16; refine (lookup_any env _ _ (HE.out _ (by first | exact HX.out | exact below_drew HX.out))).mono ?_; rintro e wp ⟨f, rfl, hA, hbn⟩; have HX := Lib.hid (by first | exact below_next HX.out (Nat.le_refl _) hbn | exact below_next' HX.out (Nat.le_refl _) hbn); obtain ⟨b1, ev1, rfl, -, -, -⟩ := id hA; have HA := Lib.hid hA; clear hA hbn)
      | (go_at_call 15; (with_reducible refine (HVX.out _ _ HX.out HA.out).mono ?_); rintro e wp ⟨rfl, hbn⟩; have HX := Lib.hid (by first | exact below_next HX.out (Nat.le_refl _) hbn | exact below_next' HX.out (Nat.le_refl _) hbn); clear hbn HA))
  clear c0 c1 c2' c3
  obtain ⟨c0, c1, c2', c3⟩ := HCY.out _ HX.out
  go_wp2_with fail
  go_region_held3 (fun w' => w'.cell? ⟨w.heap.size + 1, 0, none⟩ = some (.int .u8 kd2) ∧ w'.cell? ⟨w.heap.size + 1, 1, none⟩ = some (.int .i64 nm2) ∧ w'.cell? ⟨w.heap.size + 1, 2, none⟩ = some (.string s2) ∧ w'.cell? ⟨w.heap.size + 1, 3, none⟩ = some (.slice a2 n2 c2))
    (first | exact HCY.out _ HX.out | exact HCY.out _ (below_drew HX.out))
    (first
      | (go_at_call 16; refine (lookup_any env _ _ (HE.out _ (by first | exact HX.out | exact below_drew HX.out))).mono ?_; rintro e wp ⟨f, rfl, hA, hbn⟩; have HX := Lib.hid (by first | exact below_next HX.out (Nat.le_refl _) hbn | exact below_next' HX.out (Nat.le_refl _) hbn); obtain ⟨b1, ev1, rfl, -, -, -⟩ := id hA; have HA := Lib.hid hA; clear hA hbn)
      | (go_at_call 15; (with_reducible refine (HVY.out _ _ HX.out HA.out).mono ?_); rintro e wp ⟨rfl, hbn⟩; have HX := Lib.hid (by first | exact below_next HX.out (Nat.le_refl _) hbn | exact below_next' HX.out (Nat.le_refl _) hbn); clear hbn HA))
  clear c0 c1 c2' c3
  obtain ⟨c0, c1, c2', c3⟩ := HCN.out _ HX.out
  go_wp2_with fail
  go_region_held3 (fun w' => w'.cell? ⟨wn.heap.size + 1, 0, none⟩ = some (.int .u8 op) ∧ w'.cell? ⟨wn.heap.size + 1, 1, none⟩ = some (.int .i64 0) ∧ w'.cell? ⟨wn.heap.size + 1, 2, none⟩ = some (.string ⟨#[]⟩) ∧ w'.cell? ⟨wn.heap.size + 1, 3, none⟩ = some (.slice (some ⟨wn.heap.size, 0, none⟩) 2 2))
    (first | exact HCN.out _ HX.out | exact HCN.out _ (below_drew HX.out))
    (first
      | (go_at_call 16; refine (lookup_any env _ _ (HE.out _ (by first | exact HX.out | exact below_drew HX.out))).mono ?_; rintro e wp ⟨f, rfl, hA, hbn⟩; have HX := Lib.hid (by first | exact below_next HX.out (Nat.le_refl _) hbn | exact below_next' HX.out (Nat.le_refl _) hbn); obtain ⟨b1, ev1, rfl, -, -, -⟩ := id hA; have HA := Lib.hid hA; clear hA hbn)
      | (go_at_call 15; (with_reducible refine (HVN.out _ _ HX.out HA.out).mono ?_); rintro e wp ⟨rfl, hbn⟩; have HX := Lib.hid (by first | exact below_next HX.out (Nat.le_refl _) hbn | exact below_next' HX.out (Nat.le_refl _) hbn); clear hbn HA))
  clear c0 c1 c2' c3
  by_cases he : re = 0
  case neg =>
    obtain ⟨rfl, rfl⟩ := Prod.mk.inj (HRN2.out.trans (if_pos he))
    have e2 : (rg != 0) = true := by simpa using he
    have e3 : (rg == 0) = false := by simpa using he
    have e4 : (rg == rg) = true := by simp
    clear HRN2 he
    go_wp2_with fail
    go_ret
    exact ⟨rfl, below_next HB0.out (Nat.le_refl _) HX.out⟩
  have hrn3 := HRN2.out
  rw [if_neg (by simpa using he)] at hrn3
  subst he
  by_cases hf : rf = 0
  case neg =>
    obtain ⟨rfl, rfl⟩ := Prod.mk.inj (hrn3.trans (if_pos hf))
    have e2 : (rg != 0) = true := by simpa using hf
    have e3 : (rg == 0) = false := by simpa using hf
    have e4 : (rg == rg) = true := by simp
    clear HRN2 hf hrn3
    go_wp2_with fail
    go_ret
    exact ⟨rfl, below_next HB0.out (Nat.le_refl _) HX.out⟩
  rw [if_neg (by simpa using hf)] at hrn3
  subst hf
  obtain ⟨hv1, hv2⟩ := Prod.mk.inj hrn3
  have vxy := vXY op ra rb ⟨h8', h23'⟩
  rw [← hv1, ← hv2] at vxy
  have HVXY := Lib.hid vxy
  clear hrn3 hv1 hv2 vxy HRN2
  obtain ⟨W3, hW3⟩ : ∃ W3, W3 = (((wp.alloc (.cells #[.int .u8 2, .int .i64 0, .string ⟨#[120]⟩, .slice none 0 0, .int .u8 2, .int .i64 0, .string ⟨#[121]⟩, .slice none 0 0] 24)).alloc (.cells #[.int .i64 ra] 3)).alloc (.cells #[.int .i64 rb] 3)).alloc (.cells #[.string ⟨#[120]⟩, .slice (some ⟨wp.heap.size + 1, 0, none⟩) 1 1, .string ⟨#[121]⟩, .slice (some ⟨wp.heap.size + 1 + 1, 0, none⟩) 1 1] 32) := ⟨_, rfl⟩
  have hb3 : Below wp.heap.size wp W3 := by rw [hW3]; exact (((below_alloc _ _).alloc (by simp) _).alloc (by simp; omega) _).alloc (by simp; omega) _
  have hk8 : Blk W3 wp.heap.size 24 #[.int .u8 2, .int .i64 0, .string ⟨#[120]⟩, .slice none 0 0, .int .u8 2, .int .i64 0, .string ⟨#[121]⟩, .slice none 0 0] := by rw [hW3]; exact (((Blk.new _ _ _).al _).al _).al _
  have hka : Blk W3 (wp.heap.size + 1) 3 #[.int .i64 ra] := by rw [hW3]; exact ((Blk.new' (by simp)).al _).al _
  have hkb : Blk W3 (wp.heap.size + 1 + 1) 3 #[.int .i64 rb] := by rw [hW3]; exact (Blk.new' (by simp)).al _
  have hke : Blk W3 (wp.heap.size + 1 + 1 + 1) 32 #[.string ⟨#[120]⟩, .slice (some ⟨wp.heap.size + 1, 0, none⟩) 1 1, .string ⟨#[121]⟩, .slice (some ⟨wp.heap.size + 1 + 1, 0, none⟩) 1 1] := by rw [hW3]; exact Blk.new' (by simp)
  have hnd : NodeAt W3 (.agg #[.int .u8 op, .int .i64 0, .string ⟨#[]⟩, .slice (some ⟨wp.heap.size, 0, none⟩) 2 2]) (.mk op 0 ⟨#[]⟩ [tVx, tVy]) := NodeAt.mk_iff.2 ⟨_, rfl, ⟨hop0, hop255⟩, by simp [I64], by decide, kids2_at hk8 (leaf_at _ 2 0 ⟨#[120]⟩ (by decide) (by simp [I64]) (by decide)) (leaf_at _ 2 0 ⟨#[121]⟩ (by decide) (by simp [I64]) (by decide))⟩
  have hev : EnvAt W3 (.slice (some ⟨wp.heap.size + 1 + 1 + 1, 0, none⟩) 2 2) (envXY ra rb) := env2_blk hke (ints_blk (l := [ra]) hka (by intro z hz; simp at hz; subst hz; exact HRA.out) (by simp)) (ints_blk (l := [rb]) hkb (by intro z hz; simp at hz; subst hz; exact HRB.out) (by simp)) (by decide) (by decide)
  have HC := Lib.hid (lookup_any _ _ _ hev)
  have HND := Lib.hid hnd
  have HW3 := Lib.hid hW3
  have HX := Lib.hid (below_next HX.out (Nat.le_refl _) hb3)
  have e4 : (rv == rv) = true := by simp
  have e5 : (rg == rg) = true := by simp
  clear hW3 hb3 hk8 hka hkb hke hnd hev
  go_wp2_with fail
  rw [← HW3.out]
  refine HC.out.mono ?_
  rintro e wq ⟨f, rfl, hA, hbn⟩
  have HXQ := Lib.hid (below_next HX.out (Nat.le_refl _) hbn)
  have HV := Lib.hid (expr_v HVXY.out _ _ _ (HND.out.below hbn (Nat.le_refl _)) hA)
  obtain ⟨b1, ev1, rfl, -, -, -⟩ := hA
  clear hbn HC HND HVXY
  go_wp2_with fail
  refine HV.out.mono ?_
  rintro e wr ⟨rfl, hbn⟩
  have HX := Lib.hid (below_next HXQ.out (Nat.le_refl _) hbn)
  clear hbn HV
  go_wp2_with fail
  go_ret
  exact ⟨rfl, below_next HB0.out (Nat.le_refl _) HX.out⟩

open Go.ChangeShapes Go.WideShapes in
theorem strictlaw_top {H : Type} {enc : TypeId × Value → H} {r : Reach} {b0 : Nat} {w : World} {base : Nat} {sp : Nat → Bool} {held : Bool} (op : Int) (wo : (Lit.int .u8 op).wf = true)
    (v1 : Value) (d1 : DataW H) (p1 : List MemPlace) (h1 : Value.okWide Try.prog w r b0 24 v1) (t1 : DataW.Trod enc Try.prog w base sp held 24 v1 d1 p1)
    (v2 : Value) (d2 : DataW H) (p2 : List MemPlace) (h2 : Value.okWide Try.prog w r b0 24 v2) (t2 : DataW.Trod enc Try.prog w base sp held 24 v2 d2 p2)
    (v3 : Value) (d3 : DataW H) (p3 : List MemPlace) (h3 : Value.okWide Try.prog w r b0 25 v3) (t3 : DataW.Trod enc Try.prog w base sp held 25 v3 d3 p3) (w' : World) (hw : w' = w := by rfl) :
    Calls Try.prog 4 #[.int .u8 op, v1, v2, v3] w' fun e w'' => e = .returned (.bool true) ∧ Below w'.heap.size w' w'' := by
  subst hw
  obtain ⟨x, hx⟩ := node_top h1 t1
  obtain ⟨y, hy⟩ := node_top h2 t2
  obtain ⟨env, he⟩ := env_top h3 t3
  exact strictlaw_any op (u8_of wo) x y env v1 v2 v3 _ hx hy he
end Go.Proofs.Ytlpmoklcdocmmaa
