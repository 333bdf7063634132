/- For every input the law returns true; no condition. -/
import Derived.Test.YtgoaplmmeciamaaRows
import Derived.WalkKit
import Derived.Test.YtgoaplmmeciamaaQ
import Derived.Outline
import Derived.ProofKit
import Derived.OpenShut
import Derived.ShutString
namespace Go.Proofs.Ytgoaplmmeciamaa.arithDivides
open Go.ChangeShapes Go.WideShapes Go.ChangeAt Go.RowKit
open Go.ChangeMaps (open_string shut_string)
set_option linter.unusedVariables false      -- a walk need not use every 'w<i>' (that an integer argument fits its kind)

theorem own : ownKnob Try.prog.godebug = none := by kernel_rfl

set_option maxHeartbeats 1000000 in
theorem go (x y q r : Int) (w : World) (hx1 : -9223372036854775808 ≤ x) (hx2 : x ≤ 9223372036854775807) (hy1 : -9223372036854775808 ≤ y) (hy2 : y ≤ 9223372036854775807)
    (HQ : Hid (applyV 11 x y = q)) (HR : Hid (applyV 12 x y = r)) (e3 : applyE 11 y = 0) (e4 : applyE 12 y = 0) (d0 : (y == 0) = false)
    (f5 : (wrap64 (wrap64 (q * y) + r) != x) = false) (hs : (1 ≤ x ∧ 0 ≤ r) ∨ (0 ≤ x ∧ x ≤ 0 ∧ 0 ≤ r ∧ r ≤ 0) ∨ (x ≤ -1 ∧ r ≤ 0))
    (hy : (1 ≤ y ∧ r < y ∧ -y < r) ∨ (y ≤ -1 ∧ y ≥ -9223372036854775807 ∧ r < -y ∧ y < r) ∨ (wrap64 (-y) = y ∧ y < r ∧ y < -r ∧ -9223372036854775807 ≤ r)) :
    Calls Try.prog 5 #[.int .i64 x, .int .i64 y] w fun e w' => e = .returned (.bool true) ∧ w = w' := by
  rcases hs with ⟨s0, s1⟩ | ⟨s0, s1, s6, s7⟩ | ⟨s0, s1⟩ <;> rcases hy with ⟨s2, s3, s4⟩ | ⟨s2, s3, s4, s5⟩ | ⟨s2, s3, s4, s5⟩
  all_goals
    go_enter Try.func5, Try.ntmps5
    go_wp2_with (first
      | (go_at_call 10; refine (awake_any _).mono ?_; rintro e w' ⟨rfl, rfl⟩)
      | (go_at_call 11; refine (apply_any _ _ _ _).mono ?_; (first | rw [HQ.out] | rw [HR.out]); rintro e w' ⟨rfl, rfl⟩))
    all_goals go_ret
    all_goals exact ⟨rfl, rfl⟩
theorem walk (a0 : Int) (a1 : Int) (w0 : (Lit.int .i64 a0).wf = true) (w1 : (Lit.int .i64 a1).wf = true) (w : World) :
    Calls Try.prog 5 #[.int .i64 a0, .int .i64 a1] w fun e w' => e = .returned (.bool true) ∧ Grown w w' := by
  have hx := i64_of_wf w0
  have hy := i64_of_wf w1
  by_cases h0 : a1 = 0
  · subst h0
    have e1 : applyV 11 a0 0 = 0 := rfl
    have e2 : applyV 12 a0 0 = 0 := rfl
    have e3 : applyE 11 0 = 11 := rfl
    have e4 : applyE 12 0 = 11 := rfl
    clear hx hy w0 w1
    go_enter Try.func5, Try.ntmps5
    go_wp2_with (first
      | (go_at_call 10; refine (awake_any _).mono ?_; rintro e w' ⟨rfl, rfl⟩)
      | (go_at_call 11; refine (apply_any _ _ _ _).mono ?_; rintro e w' ⟨rfl, rfl⟩))
    go_ret
    exact ⟨rfl, Grown.refl _⟩
  · have f1 := quo_facts hx hy h0
    obtain ⟨f2, f3, f4⟩ := rem_facts (x := a0) h0
    have e3 : applyE 11 a1 = 0 := by simp [applyE, divE, h0]
    have e4 : applyE 12 a1 = 0 := by simp [applyE, divE, h0]
    unfold I64 at hx hy
    refine (go a0 a1 _ _ w hx.1 hx.2 hy.1 hy.2 (Lib.hid rfl) (Lib.hid rfl) e3 e4 (by simp [h0]) (by simp [f1]) ?_ ?_).mono fun e w' ⟨h1, h2⟩ => ⟨h1, h2 ▸ Grown.refl _⟩
    · omega
    · unfold wrap64; omega

set_option maxRecDepth 100000 in
theorem lifted (os : Os) (started : os.Started) (H : Type) (enc : TypeId × Value → H) :
    ReturnsInHanded {} Try.checked os 5 .any (Rows.arithDividesSpec.pre6 enc Try.prog Try.f5 Rows.arithDividesRow.domain false) (Rows.arithDividesSpec.post enc Try.prog Try.f5 false true false false) := by
  refine returnsInHanded_of_change (C := Try.checked) own started (by kernel_rfl) Try.func5
    (ChangeSpec.witness6 (enc := enc) (C := Try.checked) false ⟨#[], #[.int .i64 0, .int .i64 0], []⟩ 8 (by kernel_rfl) (by kernel_rfl) (by kernel_rfl) (by kernel_rfl)) ?_
  intro W base args ds gs before hval0 hW hcnd _
  have hval : ∀ (j : Nat) t v, Try.f5.params[j]? = some t → args[j]? = some v → Value.okWide Try.prog W .any base t v := hval0
  have hW' := hW
  obtain ⟨p, q, hA0, hV, rfl, hfz, hnd⟩ := hW
  have hA : DataW.TrodAll enc Try.prog W 0 (fun _ => true) true Try.f5.params.toList args.toList ds p := hA0
  rw [Try.params5] at hA hval
  obtain ⟨v0, vs0, d0, ds0, p0, q0, hargs, rfl, rfl, h0, r0⟩ := trodAll_cons hA
  obtain ⟨v1, vs1, d1, ds1, p1, q1, rfl, rfl, rfl, h1, r1⟩ := trodAll_cons r0
  obtain ⟨rfl, rfl, rfl⟩ := trodAll_nil r1
  obtain rfl : args = #[v0, v1] := by cases args; simp_all
  obtain ⟨rfl, rfl⟩ := trodVars_none hV
  obtain ⟨a0, rfl, rfl, rfl, w0⟩ := open_int Try.underlying3 (hval 0 3 v0 rfl rfl) h0
  obtain ⟨a1, rfl, rfl, rfl, w1⟩ := open_int Try.underlying3 (hval 1 3 v1 rfl rfl) h1
  clear hA0 hval0
  simp only [List.append_nil] at hW'
  refine (walk a0 a1 w0 w1 W).mono fun e W' ⟨he, hg⟩ => ?_
  subst he
  exact ⟨_, rfl, post_of_same (pa := []) (pv := []) hW' (fun _ _ _ => (trodAll_cons_mk (shut_bool Try.underlying4 _) trodAll_mk0)) (fun sp _ => (trodAll_cons_mk (shut_int Try.underlying3 w0) (trodAll_cons_mk (shut_int Try.underlying3 w1) trodAll_mk0))) (fun _ _ => rfl) rfl
    (hg.frame _) hg.2.1 (ok_one (by kernel_rfl) rfl (okWide_bool_mk Try.underlying4 _))⟩

theorem over : Rows.arithDividesRow.holds Try.pinned (OpenSpec.ofChange Rows.arithDividesSpec) :=
  OpenClaim.holds_of_wide 5 Try.f5 rfl rfl rfl rfl rfl rfl rfl ⟨rfl, rfl, rfl, rfl, rfl⟩ rfl rfl rfl rfl rfl (by kernel_rfl) Try.func5 (by kernel_rfl)
    (of_decide_eq_true (by kernel_rfl)) (by unfold Func.isWrapper; first | (rw [if_pos (by decide +kernel)]; kernel_rfl) | (rw [if_neg (by decide +kernel)]; exact ⟨rfl, rfl⟩))
    (fun os started H enc _ => lifted os started H enc)

theorem proved : Rows.ArithDividesSaid :=
  over
end Go.Proofs.Ytgoaplmmeciamaa.arithDivides
