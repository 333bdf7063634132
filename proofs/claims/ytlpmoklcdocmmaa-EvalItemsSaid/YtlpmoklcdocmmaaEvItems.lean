/- The walk of the law EvalItems. -/
import Derived.Test.YtlpmoklcdocmmaaEvG
namespace Go.Proofs.Ytlpmoklcdocmmaa
open Go.RowKit

theorem cf_item (args : Array Value) (w : World) : (callFunc 17 args).run Try.prog w = .ok (.enter 17 args) w := by kernel_rfl

set_option maxRecDepth 100000 in
theorem item2_any (a : Value) (ta : T) (w : World) (ha : NodeAt w a ta) : Calls Try.prog 17 #[a] w fun e w' => ∃ u, e = .returned (.agg #[.int .u8 3, .int .i64 0, .string ⟨#[97]⟩, u]) ∧ NodeAt w' (.agg #[.int .u8 3, .int .i64 0, .string ⟨#[97]⟩, u]) (.mk 3 0 ⟨#[97]⟩ [ta]) ∧ Below w.heap.size w w' := by
  obtain ⟨kd, nm, s, a1, n, c, rfl⟩ := node_form ha
  have HA := Lib.hid ha
  clear ha
  go_enter Try.func17, Try.ntmps17
  go_wp2_with fail
  have hbel := (((Below.refl w.heap.size w).alloc (Nat.le_refl _) (.cells #[.int .u8 kd, .int .i64 nm, .string s, .slice a1 n c] 24)).alloc (by simp)
    (.cells #[.int .u8 3, .int .i64 0, .string ⟨#[97]⟩, .slice (some ⟨w.heap.size + 1 + 1, 0, none⟩) 1 1] 24)).alloc (by simp; omega) (.cells #[.int .u8 kd, .int .i64 nm, .string s, .slice a1 n c] 24)
  refine bodyPost_ret (results_node1 rfl _ _ (w.heap.size + 1) _ _ _ _ rfl ((Blk.new' (by simp)).al _)) rfl ⟨_, rfl, ?_, hbel⟩
  refine NodeAt.mk_iff.2 ⟨_, rfl, by decide, by simp [I64], by decide, ?_⟩
  exact kids1_at (Blk.new' (by simp)) (HA.out.below hbel (Nat.le_refl _))

def envI (cl : List Int) (i : Int) : Env := [(⟨#[97]⟩, cl), (⟨#[105]⟩, [i])]
def tSz : T := .mk 5 0 ⟨#[97]⟩ []
def tTop : T := .mk 4 0 ⟨#[97]⟩ []
def tI : T := .mk 2 0 ⟨#[105]⟩ []
def tV : T := .mk 3 0 ⟨#[97]⟩ [tI]
def tSub : T := .mk 9 0 ⟨#[]⟩ [tSz, tN 1]
def tLast : T := .mk 3 0 ⟨#[97]⟩ [tSub]

theorem look_a (cl : List Int) (i : Int) : look (envI cl i) ⟨#[97]⟩ = some cl := by unfold envI; rw [look, if_pos rfl]
theorem look_i (cl : List Int) (i : Int) : look (envI cl i) ⟨#[105]⟩ = some [i] := by unfold envI; rw [look, if_neg (by decide), look, if_pos rfl]

theorem vSz (cl : List Int) (i : Int) : exprV (envI cl i) tSz = ((cl.length : Int), 0) := by
  rw [exprV_yes (by decide +kernel), tSz, evalT]
  unfold evalN
  rw [if_neg (by decide), if_pos (by decide)]
  exact varV_5 (look_a cl i)
theorem vTop (cl : List Int) (i : Int) : exprV (envI cl i) tTop = if cl.length = 0 then (0, 13) else (cl.getD (cl.length - 1) 0, 0) := by
  rw [exprV_yes (by decide +kernel), tTop, evalT]
  unfold evalN
  rw [if_neg (by decide), if_pos (by decide)]
  exact varV_4 (look_a cl i)
theorem eI (cl : List Int) (i : Int) : evalT (envI cl i) tI = (i, 0) := by
  rw [tI, evalT]
  unfold evalN
  rw [if_neg (by decide), if_pos (by decide)]
  exact varV_2 (look_i cl i)
theorem vV (cl : List Int) (i : Int) : exprV (envI cl i) tV = if i < 0 ∨ (cl.length : Int) ≤ i then (0, 12) else (cl.getD i.toNat 0, 0) := by
  rw [exprV_yes (by decide +kernel), tV, evalT]
  unfold evalN
  rw [if_neg (by decide), if_pos (by decide), evalL, evalL, eI, varV_3 (look_a cl i), if_neg (by simp)]
theorem eSub (cl : List Int) (i : Int) (h : cl.length ≤ 1000) : evalT (envI cl i) tSub = ((cl.length : Int) - 1, 0) := by
  have h1 := vSz cl i
  rw [exprV_yes (by decide +kernel)] at h1
  have h2 : evalT (envI cl i) (tN 1) = (1, 0) := by rw [tN, evalT]; rfl
  rw [tSub, evalT, evalL, evalL, evalL, h1, h2]
  unfold evalN
  rw [if_neg (by decide), if_neg (by decide)]
  show (if (0 : Int) ≠ 0 then _ else if (0 : Int) ≠ 0 then _ else _) = _
  rw [if_neg (by decide), if_neg (by decide)]
  have e1 : applyV 9 (cl.length : Int) 1 = (cl.length : Int) - 1 := by
    show wrap64 ((cl.length : Int) - 1) = _
    unfold wrap64; omega
  exact Prod.ext e1 rfl
theorem vLast (cl : List Int) (i : Int) (h : cl.length ≤ 1000) : exprV (envI cl i) tLast = if cl.length = 0 then (0, 12) else (cl.getD (cl.length - 1) 0, 0) := by
  rw [exprV_yes (by decide +kernel), tLast, evalT]
  unfold evalN
  rw [if_neg (by decide), if_pos (by decide), evalL, evalL, eSub cl i h, varV_3 (look_a cl i), if_neg (by simp)]
  by_cases h0 : cl.length = 0
  · rw [if_pos h0, if_pos (.inl (by simp only; omega))]
  · rw [if_neg h0, if_neg (by simp only; omega)]
    have e : ((cl.length : Int) - 1).toNat = cl.length - 1 := by omega
    simp only [e]

set_option maxRecDepth 100000 in
set_option maxHeartbeats 8000000 in
theorem itemslaw_any (cl : List Int) (i : Int) (hi : I64 i) (v : Value) (w : World) (h : IntsAt w v cl) :
    Calls Try.prog 5 #[v, .int .i64 i] w fun e w' => e = .returned (.bool true) ∧ Below w.heap.size w w' := by
  obtain ⟨⟨ca, cc, rfl, hnc, hm, hq⟩, hI⟩ := id h
  obtain ⟨n, hn⟩ : ∃ n, n = cl.length := ⟨_, rfl⟩
  rw [← hn] at h hnc ⊢
  have hn63 : n ≤ 9223372036854775807 := by unfold maxLen at hm; omega
  have HH := Lib.hid h
  have HQ := Lib.hid hq
  have HN := Lib.hid hn
  have HI := Lib.hid hi
  clear h hq hn hm hI hi
  by_cases h20 : 20 < n
  · have h20' : (20 : Int) < (n : Int) := by omega
    go_enter Try.func5, Try.ntmps5
    go_wp2_with fail
    refine (awake_any _).mono ?_
    rintro e w1 ⟨rfl, hb1⟩
    have HB1 := Lib.hid hb1
    clear hb1
    go_wp2_with fail
    go_ret
    exact ⟨rfl, HB1.out⟩
  have h20' : (n : Int) ≤ 20 := by omega
  have hmf : ∀ (fn : Fn) (first cap : Array Value) (w : World), (Instr.makeFunc fn first cap).run Try.prog w = .ok (.func fn first cap) w := fun _ _ _ _ => rfl
  have hcf := cf_item
  go_enter Try.func5, Try.ntmps5
  go_wp2_with fail
  refine (awake_any _).mono ?_
  rintro e w1 ⟨rfl, hb1⟩
  have HB1 := Lib.hid hb1
  clear hb1
  obtain ⟨W, hW⟩ : ∃ W, W = (w1.alloc (.cells #[.int .i64 i] 3)).alloc (.cells #[.string ⟨#[97]⟩, .slice ca n cc, .string ⟨#[105]⟩, .slice (some ⟨w1.heap.size, 0, none⟩) 1 1] 32) := ⟨_, rfl⟩
  have hbW : Below w.heap.size w W := by rw [hW]; exact (HB1.out.alloc HB1.out.size _).alloc (by have := HB1.out.size; simp; omega) _
  have hk1 : Blk W w1.heap.size 3 #[.int .i64 i] := by rw [hW]; exact (Blk.new _ _ _).al _
  have hk2 : Blk W (w1.heap.size + 1) 32 #[.string ⟨#[97]⟩, .slice ca n cc, .string ⟨#[105]⟩, .slice (some ⟨w1.heap.size, 0, none⟩) 1 1] := by rw [hW]; exact Blk.new' (by simp)
  have hE : EnvAt W (.slice (some ⟨w1.heap.size + 1, 0, none⟩) 2 2) (envI cl i) := env2_blk hk2 (HH.out.below hbW (Nat.le_refl _)) (ints_blk (l := [i]) hk1 (by intro x hx; simp at hx; subst hx; exact HI.out) (by simp)) (by decide) (by decide)
  have HC := Lib.hid (lookup_any _ _ _ hE)
  have HBW := Lib.hid hbW
  have HW := Lib.hid hW
  clear hbW hk1 hk2 hE hW
  go_wp2_with fail
  rw [← HW.out]
  refine HC.out.mono ?_
  rintro e w2 ⟨f, rfl, hA, hb2⟩
  have HA := Lib.hid hA
  have HB2 := Lib.hid (below_next HBW.out (Nat.le_refl _) hb2)
  have HX : Hid (Below w2.heap.size w2 w2) := Below.refl _ _
  obtain ⟨b, ev, rfl, -, -, -⟩ := id hA
  clear hA hb2 HC
  have v1 := vSz cl i
  have v2 := vTop cl i
  have v3 := vV cl i
  have v4 := vLast cl i (by rw [← HN.out]; omega)
  rw [← HN.out] at v1 v2 v3 v4
  have E1 := Lib.hid (fun w' (hb : Below w2.heap.size w2 w') => expr_v v1 _ _ w' (leaf_at w' 5 0 ⟨#[97]⟩ (by decide) (by simp [I64]) (by decide)) (HA.out.below hb (Nat.le_refl _)))
  have V2 := Lib.hid v2
  have V3 := Lib.hid v3
  have V4 := Lib.hid v4
  clear v1 v2 v3 v4
  obtain ⟨⟨p1, p2⟩, hp⟩ : ∃ p, p = exprV (envI cl i) tTop := ⟨_, rfl⟩
  obtain ⟨⟨q1, q2⟩, hq⟩ : ∃ p, p = exprV (envI cl i) tV := ⟨_, rfl⟩
  obtain ⟨⟨r1, r2⟩, hr⟩ : ∃ p, p = exprV (envI cl i) tLast := ⟨_, rfl⟩
  rw [← hp] at V2
  rw [← hq] at V3
  rw [← hr] at V4
  have E2 := Lib.hid (fun w' (hb : Below w2.heap.size w2 w') => expr_v hp.symm _ _ w' (leaf_at w' 4 0 ⟨#[97]⟩ (by decide) (by simp [I64]) (by decide)) (HA.out.below hb (Nat.le_refl _)))
  have E3 := Lib.hid (fun w' v (hb : Below w2.heap.size w2 w') (hn : NodeAt w' v tV) => expr_v hq.symm _ _ w' hn (HA.out.below hb (Nat.le_refl _)))
  have E4 := Lib.hid (fun w' v (hb : Below w2.heap.size w2 w') (hn : NodeAt w' v tLast) => expr_v hr.symm _ _ w' hn (HA.out.below hb (Nat.le_refl _)))
  clear hp hq hr
  go_wp2_with fail
  refine (E1.out _ HX.out).mono ?_
  rintro e w3 ⟨rfl, hb3⟩
  have HX := Lib.hid (below_next HX.out (Nat.le_refl _) hb3)
  clear hb3 E1
  go_wp2_with fail
  refine (E2.out _ HX.out).mono ?_
  rintro e w4 ⟨rfl, hb4⟩
  have HX := Lib.hid (below_next HX.out (Nat.le_refl _) hb4)
  clear hb4 E2
  go_wp2_with fail
  refine (item2_any _ tI _ (leaf_at _ 2 0 ⟨#[105]⟩ (by decide) (by simp [I64]) (by decide))).mono ?_
  rintro e w5 ⟨u5, rfl, hn5, hb5⟩
  have HX := Lib.hid (below_next HX.out (Nat.le_refl _) hb5)
  have HN5 := Lib.hid hn5
  clear hb5 hn5
  go_wp2_with fail
  refine (E3.out _ _ HX.out HN5.out).mono ?_
  rintro e w6 ⟨rfl, hb6⟩
  have HX := Lib.hid (below_next HX.out (Nat.le_refl _) hb6)
  clear hb6 E3 HN5
  have hbl := below_alloc w6 (.cells #[.int .u8 5, .int .i64 0, .string ⟨#[97]⟩, .slice none 0 0, .int .u8 1, .int .i64 1, .string ⟨#[]⟩, .slice none 0 0] 24)
  have hnl : NodeAt (w6.alloc (.cells #[.int .u8 5, .int .i64 0, .string ⟨#[97]⟩, .slice none 0 0, .int .u8 1, .int .i64 1, .string ⟨#[]⟩, .slice none 0 0] 24)) (.agg #[.int .u8 9, .int .i64 0, .string ⟨#[]⟩, .slice (some ⟨w6.heap.size, 0, none⟩) 2 2]) tSub :=
    NodeAt.mk_iff.2 ⟨_, rfl, by decide, by simp [I64], by decide, kids2_at (Blk.new _ _ _) (leaf_at _ 5 0 ⟨#[97]⟩ (by decide) (by simp [I64]) (by decide)) (nat _ 1 (by simp [I64]))⟩
  have HBL := Lib.hid (below_next HX.out (Nat.le_refl _) hbl)
  have HNL := Lib.hid hnl
  clear hbl hnl
  go_wp2_with fail
  refine (item2_any _ tSub _ HNL.out).mono ?_
  rintro e w7 ⟨u7, rfl, hn7, hb7⟩
  have HX := Lib.hid (below_next HBL.out (Nat.le_refl _) hb7)
  have HN7 := Lib.hid hn7
  clear hb7 hn7 HBL HNL
  go_wp2_with fail
  refine (E4.out _ _ HX.out HN7.out).mono ?_
  rintro e w8 ⟨rfl, hb8⟩
  have HX := Lib.hid (below_next HX.out (Nat.le_refl _) hb8)
  have HF := Lib.hid (below_next HB2.out (Nat.le_refl _) HX.out)
  clear hb8 E4 HN7
  have e1 : ((n : Int) != (n : Int)) = false := by simp
  have e1' : ((n : Int) == (n : Int)) = true := by simp
  by_cases h0 : n = 0
  · obtain ⟨rfl, rfl⟩ := Prod.mk.inj (V2.out.trans (if_pos h0))
    obtain ⟨rfl, rfl⟩ := Prod.mk.inj (V4.out.trans (if_pos h0))
    subst h0
    have hv3 : (q1, q2) = (0, 12) := V3.out.trans (if_pos (by simp; omega))
    obtain ⟨rfl, rfl⟩ := Prod.mk.inj hv3
    clear hv3 V2 V3 V4
    by_cases hi0 : i < 0
    · go_wp2_with fail
      go_ret
      exact ⟨rfl, HF.out⟩
    · have hi1 : 0 ≤ i := by omega
      go_wp2_with fail
      go_ret
      exact ⟨rfl, HF.out⟩
  · obtain ⟨rfl, rfl⟩ := Prod.mk.inj (V2.out.trans (if_neg h0))
    obtain ⟨rfl, rfl⟩ := Prod.mk.inj (V4.out.trans (if_neg h0))
    generalize cl.getD (n - 1) 0 = y at *
    have e2 : (y != y) = false := by simp
    have e2' : (y == y) = true := by simp
    have h0' : (0 : Int) < (n : Int) := by omega
    by_cases hi0 : i < 0
    · obtain ⟨rfl, rfl⟩ := Prod.mk.inj (V3.out.trans (if_pos (.inl hi0)))
      clear V2 V3 V4 h0
      go_wp2_with fail
      go_ret
      exact ⟨rfl, HF.out⟩
    obtain ⟨j, rfl⟩ := Int.eq_ofNat_of_zero_le (by omega : 0 ≤ i)
    by_cases hij : n ≤ j
    · have hij' : (n : Int) ≤ (j : Int) := by omega
      obtain ⟨rfl, rfl⟩ := Prod.mk.inj (V3.out.trans (if_pos (.inr hij')))
      clear V2 V3 V4 h0
      go_wp2_with fail
      go_ret
      exact ⟨rfl, HF.out⟩
    · have hij' : (j : Int) < (n : Int) := by omega
      have hj0 : (0 : Int) ≤ (j : Int) := by omega
      obtain ⟨rfl, rfl⟩ := Prod.mk.inj (V3.out.trans (if_neg (by omega)))
      obtain ⟨g, o, rfl, hg, hc⟩ := HQ.out (by rw [← HN.out]; omega)
      obtain ⟨x, hx⟩ : ∃ x, cl[j]? = some x := ⟨_, List.getElem?_eq_getElem (by rw [← HN.out]; omega)⟩
      have m0 := cell_below HF.out hg (hc j x hx)
      have hxe : cl.getD ((j : Int)).toNat 0 = x := by rw [Int.toNat_natCast, List.getD_eq_getElem?_getD, hx]; rfl
      rw [hxe]
      have e3 : (x == x) = true := by simp
      clear V2 V3 V4 h0 hc hx hxe
      go_wp2_with fail
      go_ret
      exact ⟨rfl, HF.out⟩

open Go.ChangeShapes Go.WideShapes in
theorem itemslaw_top {H : Type} {enc : TypeId × Value → H} {r : Reach} {b0 : Nat} {w : World} {base : Nat} {sp : Nat → Bool} {held : Bool} (v0 : Value) (d0 : DataW H) (p0 : List MemPlace) (h0 : Value.okWide Try.prog w r b0 26 v0) (t0 : DataW.Trod enc Try.prog w base sp held 26 v0 d0 p0) (i : Int) (wi : (Lit.int .i64 i).wf = true) (w' : World) (hw : w' = w := by rfl) :
    Calls Try.prog 5 #[v0, .int .i64 i] w' fun e w'' => e = .returned (.bool true) ∧ Below w'.heap.size w' w'' := by
  subst hw
  obtain ⟨cl, hc⟩ := ints_top h0 t0
  exact itemslaw_any cl i (i64_of wi) v0 _ hc
end Go.Proofs.Ytlpmoklcdocmmaa
