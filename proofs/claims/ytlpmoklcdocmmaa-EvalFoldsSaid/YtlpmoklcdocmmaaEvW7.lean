/- The walks of Expr, Test, Index. -/
import Derived.Test.YtlpmoklcdocmmaaEvW6
namespace Go.Proofs.Ytlpmoklcdocmmaa
open Go.RowKit

def exprV (env : Env) (t : T) : Int × Int := if isT t = true then evalT env t else (0, 3)
def idxV (env : Env) : T → Int × Int
  | .mk k n s ks => if placeT (.mk k n s ks) = true then (if k = 2 then (0, 0) else (evalL env ks).headD (0, 0)) else (0, 3)
theorem exprV_yes {env : Env} {t : T} (h : isT t = true) : exprV env t = evalT env t := if_pos h
theorem exprV_no {env : Env} {t : T} (h : isT t = false) : exprV env t = (0, 3) := if_neg (by rw [h]; simp)

theorem eql_fn (b : Nat) (w : World) : (binOp .eql 37 (.func (.func 33) #[] #[.pointer (some ⟨b, 0, none⟩)]) .nilFunc).run Try.prog w = .ok (.bool false) w := by kernel_rfl
theorem eql_fn_nil (w : World) : (binOp .eql 37 .nilFunc .nilFunc).run Try.prog w = .ok (.bool true) w := by kernel_rfl

theorem node_form {w : World} {v : Value} {t : T} (h : NodeAt w v t) : ∃ kd nm s a n c, v = .agg #[.int .u8 kd, .int .i64 nm, .string s, .slice a n c] := by
  obtain ⟨k, n, s, ks⟩ := t
  obtain ⟨u, rfl, _, _, _, hq⟩ := NodeAt.mk_iff.1 h
  obtain ⟨a, c, rfl, _⟩ := hq
  exact ⟨_, _, _, _, _, _, rfl⟩

set_option maxRecDepth 100000 in
set_option maxHeartbeats 2000000 in
theorem expr_any (env : Env) (t : T) (v f : Value) (w : World) (h : NodeAt w v t) (hf : AtL w f env) : Calls Try.prog 15 #[v, f] w (ValR (exprV env t) w) := by
  obtain ⟨kd, nm, s, a, n, c, rfl⟩ := node_form h
  have hb1 := below_alloc w (.cells #[.int .u8 kd, .int .i64 nm, .string s, .slice a n c] 24)
  have hk1 := Blk.new w 24 #[.int .u8 kd, .int .i64 nm, .string s, .slice a n c]
  have HC := Lib.hid (isexpr_any t _ _ (h.below hb1 (Nat.le_refl _)))
  have HH := Lib.hid (h.below hb1 (Nat.le_refl _))
  have HF := Lib.hid (hf.below hb1 (Nat.le_refl _))
  have HB1 := Lib.hid hb1
  have HK1 := Lib.hid hk1
  obtain ⟨b, ev, rfl, -, -, -⟩ := hf
  cases hT : isT t with
  | false =>
    rw [exprV_no hT]
    rw [hT] at HC
    clear h hb1 hk1 hT
    have hfn := eql_fn
    have hfn0 := eql_fn_nil
    go_enter Try.func15, Try.ntmps15
    go_wp2_with fail
    refine HC.out.mono ?_
    rintro e w2 ⟨rfl, hb2⟩
    have HB2 := Lib.hid (below_next HB1.out (Nat.le_refl _) hb2)
    clear hb2 HC
    go_wp2_with fail
    go_ret2
    exact ⟨rfl, HB2.out⟩
  | true =>
    rw [exprV_yes hT]
    rw [hT] at HC
    have HT := Lib.hid hT
    clear h hb1 hk1 hT
    have hfn := eql_fn
    have hfn0 := eql_fn_nil
    go_enter Try.func15, Try.ntmps15
    go_wp2_with fail
    refine HC.out.mono ?_
    rintro e w2 ⟨rfl, hb2⟩
    have HB2 := Lib.hid (below_next HB1.out (Nat.le_refl _) hb2)
    have hk2 := HK1.out.next hb2
    have k0 := hk2.cell 0
    have k1 := hk2.cell 1
    have k2 := hk2.cell 2
    have k3 := hk2.cell 3
    have HV := Lib.hid (value_any env t HT.out _ _ _ (HH.out.below hb2 (Nat.le_refl _)) (HF.out.below hb2 (Nat.le_refl _)))
    clear hb2 HC hk2 HH HF
    go_wp2_with fail
    refine HV.out.mono ?_
    rintro e w3 ⟨rfl, hb3⟩
    have HB3 := Lib.hid (below_next HB2.out (Nat.le_refl _) hb3)
    clear hb3 HV
    go_wp2_with fail
    go_ret2
    exact ⟨rfl, HB3.out⟩

def TestR (r : Int × Int) (w : World) (e : Ending) (w' : World) : Prop := e = .returned (.tuple #[.bool (r.1 != 0), .int .i64 r.2]) ∧ Below w.heap.size w w'

set_option maxRecDepth 100000 in
set_option maxHeartbeats 2000000 in
theorem test_any (env : Env) (t : T) (v f : Value) (w : World) (h : NodeAt w v t) (hf : AtL w f env) : Calls Try.prog 18 #[v, f] w (TestR (exprV env t) w) := by
  obtain ⟨kd, nm, s, a, n, c, rfl⟩ := node_form h
  have hb1 := below_alloc w (.cells #[.int .u8 kd, .int .i64 nm, .string s, .slice a n c] 24)
  have HC := Lib.hid (expr_any env t _ _ _ (h.below hb1 (Nat.le_refl _)) (hf.below hb1 (Nat.le_refl _)))
  have HB1 := Lib.hid hb1
  generalize exprV env t = R at *
  obtain ⟨b, ev, rfl, -, -, -⟩ := hf
  clear h hb1
  go_enter Try.func18, Try.ntmps18
  go_wp2_with fail
  refine HC.out.mono ?_
  rintro e w2 ⟨rfl, hb2⟩
  have HB2 := Lib.hid (below_next HB1.out (Nat.le_refl _) hb2)
  clear hb2 HC
  obtain ⟨r1, r2⟩ := R
  go_wp2_with fail
  go_ret2
  exact ⟨rfl, HB2.out⟩

theorem place_kid {k n : Int} {s : ByteArray} {ks : List T} (h : placeT (.mk k n s ks) = true) (h2 : k ≠ 2) : k = 3 ∧ ∃ t, ks = [t] ∧ isT t = true := by
  rw [placeT, Bool.and_eq_true, isT] at h
  have hk : k = 3 := by simpa [h2] using h.1
  subst hk
  rcases isN_cases h.2 with ⟨e, _⟩ | ⟨e, _⟩ | ⟨_, _, e⟩ | ⟨e, _⟩ | ⟨e, _⟩
  · omega
  · omega
  · exact ⟨rfl, isL_one e⟩
  · omega
  · omega

set_option maxRecDepth 100000 in
set_option maxHeartbeats 2000000 in
theorem index_any (env : Env) (t : T) (v f : Value) (w : World) (h : NodeAt w v t) (hf : AtL w f env) : Calls Try.prog 20 #[v, f] w (ValR (idxV env t) w) := by
  obtain ⟨kd, nm, s, ks⟩ := t
  obtain ⟨u, rfl, ⟨hk0, hk255⟩, hnm, hs, hkids⟩ := NodeAt.mk_iff.1 h
  obtain ⟨a, c, rfl, -, -, -⟩ := id hkids
  obtain ⟨n, hnk⟩ : ∃ n, n = ks.length := ⟨_, rfl⟩
  rw [← hnk] at h hkids ⊢
  have hb1 := below_alloc w (.cells #[.int .u8 kd, .int .i64 nm, .string s, .slice a n c] 24)
  have hk1 := Blk.new w 24 #[.int .u8 kd, .int .i64 nm, .string s, .slice a n c]
  have HC := Lib.hid (isplace_any _ _ _ (h.below hb1 (Nat.le_refl _)))
  have HKID := Lib.hid (hkids.below hb1 (Nat.le_refl _))
  have HF := Lib.hid (hf.below hb1 (Nat.le_refl _))
  have HB1 := Lib.hid hb1
  have HK1 := Lib.hid hk1
  have HN := Lib.hid hnk
  obtain ⟨b, ev, rfl, -, -, -⟩ := hf
  have HE : Hid (idxV env (.mk kd nm s ks) = if placeT (.mk kd nm s ks) = true then (if kd = 2 then (0, 0) else (evalL env ks).headD (0, 0)) else (0, 3)) := by rw [Hid, idxV]
  generalize idxV env (.mk kd nm s ks) = R at *
  cases hT : placeT (.mk kd nm s ks) with
  | false =>
    have hr : R = (0, 3) := by rw [HE.out, hT]; rfl
    subst hr
    rw [hT] at HC
    clear h hb1 hk1 hT HE hkids hnm hs hnk
    have hfn := eql_fn
    have hfn0 := eql_fn_nil
    go_enter Try.func20, Try.ntmps20
    go_wp2_with fail
    refine HC.out.mono ?_
    rintro e w2 ⟨rfl, hb2⟩
    have HB2 := Lib.hid (below_next HB1.out (Nat.le_refl _) hb2)
    clear hb2 HC
    go_wp2_with fail
    go_ret2
    exact ⟨rfl, HB2.out⟩
  | true =>
    rw [hT] at HC
    by_cases h2 : kd = 2
    · have hr : R = (0, 0) := by rw [HE.out, hT, if_pos rfl, if_pos h2]
      subst hr
      subst h2
      clear h hb1 hk1 hT HE hkids hnm hs hnk
      have hfn := eql_fn
      have hfn0 := eql_fn_nil
      go_enter Try.func20, Try.ntmps20
      go_wp2_with fail
      refine HC.out.mono ?_
      rintro e w2 ⟨rfl, hb2⟩
      have HB2 := Lib.hid (below_next HB1.out (Nat.le_refl _) hb2)
      have k0 := (HK1.out.next hb2).cell 0
      clear hb2 HC
      go_wp2_with fail
      go_ret2
      exact ⟨rfl, HB2.out⟩
    · obtain ⟨rfl, t, rfl, ht⟩ := place_kid hT h2
      have hn1 : n = 1 := HN.out
      subst hn1
      have hr : R = evalT env t := by rw [HE.out, hT, if_pos rfl, if_neg h2, evalL]; rfl
      have HR := Lib.hid hr
      have HT := Lib.hid ht
      clear h hb1 hk1 hT HE hkids hnm hs hnk hr ht h2
      have hfn := eql_fn
      have hfn0 := eql_fn_nil
      go_enter Try.func20, Try.ntmps20
      go_wp2_with fail
      refine HC.out.mono ?_
      rintro e w2 ⟨rfl, hb2⟩
      have HB2 := Lib.hid (below_next HB1.out (Nat.le_refl _) hb2)
      have hk2 := HK1.out.next hb2
      have k0 := hk2.cell 0
      obtain ⟨g, o, c3, kd', nm', s', a', n', c', e1, hc3, hg, q0, q1, q2, q3, q4⟩ := one_kid (HKID.out.below hb2 (Nat.le_refl _))
      obtain ⟨rfl, rfl, -⟩ : a = some ⟨g, o, none⟩ ∧ c = c3 ∧ True := by simpa using e1
      have k3 := hk2.cell 3
      have HV := Lib.hid (value_any env t HT.out _ _ _ q4 (HF.out.below hb2 (Nat.le_refl _)))
      rw [← HR.out] at HV
      clear hb2 HC hk2 HF HKID q4 e1
      go_wp2_with fail
      refine HV.out.mono ?_
      rintro e w3 ⟨rfl, hb3⟩
      have HB3 := Lib.hid (below_next HB2.out (Nat.le_refl _) hb3)
      clear hb3 HV
      go_wp2_with fail
      go_ret2
      exact ⟨rfl, HB3.out⟩

set_option maxRecDepth 100000 in
set_option maxHeartbeats 1000000 in
theorem expr_nil (t : T) (v : Value) (w : World) (h : NodeAt w v t) : Calls Try.prog 15 #[v, .nilFunc] w (ValR (0, 1) w) := by
  obtain ⟨kd, nm, s, a, n, c, rfl⟩ := node_form h
  have HB1 := Lib.hid (below_alloc w (.cells #[.int .u8 kd, .int .i64 nm, .string s, .slice a n c] 24))
  clear h
  have hfn := eql_fn
  have hfn0 := eql_fn_nil
  go_enter Try.func15, Try.ntmps15
  go_wp2_with fail
  go_ret2
  exact ⟨rfl, HB1.out⟩

set_option maxRecDepth 100000 in
set_option maxHeartbeats 1000000 in
theorem index_nil (t : T) (v : Value) (w : World) (h : NodeAt w v t) : Calls Try.prog 20 #[v, .nilFunc] w (ValR (0, 1) w) := by
  obtain ⟨kd, nm, s, a, n, c, rfl⟩ := node_form h
  have HB1 := Lib.hid (below_alloc w (.cells #[.int .u8 kd, .int .i64 nm, .string s, .slice a n c] 24))
  clear h
  have hfn := eql_fn
  have hfn0 := eql_fn_nil
  go_enter Try.func20, Try.ntmps20
  go_wp2_with fail
  go_ret2
  exact ⟨rfl, HB1.out⟩

set_option maxRecDepth 100000 in
set_option maxHeartbeats 1000000 in
theorem test_nil (t : T) (v : Value) (w : World) (h : NodeAt w v t) : Calls Try.prog 18 #[v, .nilFunc] w (TestR (0, 1) w) := by
  obtain ⟨kd, nm, s, a, n, c, rfl⟩ := node_form h
  have hb1 := below_alloc w (.cells #[.int .u8 kd, .int .i64 nm, .string s, .slice a n c] 24)
  have HC := Lib.hid (expr_nil t _ _ (h.below hb1 (Nat.le_refl _)))
  have HB1 := Lib.hid hb1
  clear h hb1
  go_enter Try.func18, Try.ntmps18
  go_wp2_with fail
  refine HC.out.mono ?_
  rintro e w2 ⟨rfl, hb2⟩
  have HB2 := Lib.hid (below_next HB1.out (Nat.le_refl _) hb2)
  clear hb2 HC
  go_wp2_with fail
  go_ret2
  exact ⟨rfl, HB2.out⟩

end Go.Proofs.Ytlpmoklcdocmmaa
