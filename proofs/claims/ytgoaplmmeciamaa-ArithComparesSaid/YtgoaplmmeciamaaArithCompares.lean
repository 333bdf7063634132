/- For every input the law returns true; no condition. -/
import Derived.Test.YtgoaplmmeciamaaRows
import Derived.WalkKit
import Derived.Test.YtgoaplmmeciamaaQ
import Derived.Outline
import Derived.Deep.QuietTactic
import Derived.BigQuiet
import Derived.Deep.DeepMust
import Derived.IntWalk
import Derived.ProofKit
import Derived.OpenShut
import Derived.ShutString
namespace Go.Proofs.Ytgoaplmmeciamaa.arithCompares
open Go.ChangeShapes Go.WideShapes Go.ChangeAt Go.RowKit
open Go.ChangeMaps (open_string shut_string)
set_option linter.unusedVariables false      -- a walk need not use every 'w<i>' (that an integer argument fits its kind)

theorem own : ownKnob Try.prog.godebug = none := by kernel_rfl

theorem quiet_left {P : Program} {f : FuncId} {args : Array Value} {w : World} {n : Nat} {v : Value}
    (h : Calls P f args (w.drewN n) fun e w' => e = .returned v ∧ w.drewN n = w') : Calls P f args (w.drewN n) fun e w'' => e = .returned v ∧ ∃ m, w'' = w.drewN m :=
  h.mono fun _ _ ⟨he, hm⟩ => ⟨he, n, hm.symm⟩
theorem v_any (op x y : Int) (A B : Addr) (w : World) (hx : w.cell? A = some (.int .i64 x)) (hy : w.cell? B = some (.int .i64 y)) (h : applyE op y = 0) :
    Calls Try.prog 15 #[.int .u8 op, .pointer (some A), .pointer (some B)] w fun e w' => e = .returned (.int .i64 (applyV op x y)) ∧ w = w' := by
  have h1 : (applyE op y != 0) = false := by simp [h]
  go_enter Try.func15, Try.ntmps15
  go_wp2_with (go_at_call 11; refine (apply_any _ _ _ _).mono ?_; rintro e w' ⟨rfl, rfl⟩)
  go_ret
  exact ⟨rfl, rfl⟩
theorem n_any (x : Int) (w : World) :
    Calls Try.prog 16 #[.int .i64 x] w fun e w' => e = .returned (.int .i64 (unV 7 x)) ∧ w = w' := by
  have h : unE 7 = 0 := by decide
  go_enter Try.func16, Try.ntmps16
  go_wp2_with (go_at_call 17; refine (unary_any _ _ _).mono ?_; rintro e w' ⟨rfl, rfl⟩)
  go_ret
  exact ⟨rfl, rfl⟩
set_option maxHeartbeats 8000000 in
theorem go (x y l q g ge le ne px py px' py' c23 : Int) (w : World) (v1 : applyV 18 x y = l) (v2 : applyV 16 x y = q) (v3 : applyV 20 x y = g) (v4 : applyV 21 x y = ge) (v5 : applyV 19 x y = le) (v6 : applyV 17 x y = ne)
    (v7 : applyV 22 x y = IntKind.i64.wrap (px' * py')) (v8 : applyV 23 x y = c23) (n1 : unV 7 x = px) (n2 : unV 7 y = py) (n3 : unV 7 px = px') (n4 : unV 7 py = py') (n5 : unV 7 (IntKind.i64.wrap (px * py)) = c23) (n6 : unV 7 l = ge) (n7 : unV 7 q = ne) (n8 : unV 7 g = le)
    (l0 : 0 ≤ l) (l1 : l ≤ 1) (q0 : 0 ≤ q) (q1 : q ≤ 1) (g0 : 0 ≤ g) (g1 : g ≤ 1) (hs : (l + q + g == 1) = true) (s1 : IntKind.i64.wrap (l + q) = l + q) (s2 : IntKind.i64.wrap (l + q + g) = l + q + g) :
    Calls Try.prog 7 #[.int .i64 x, .int .i64 y] w fun e w' => e = .returned (.bool true) ∧ Grown w w' := by
  go_enter Try.func7, Try.ntmps7
  go_wp2_with (first
      | (go_at_call 10; refine (awake_any _).mono ?_; rintro e w' ⟨rfl, rfl⟩)
      | (go_at_call 15; refine (v_any _ x y _ _ _ (by simp) (by simp) rfl).mono ?_; rintro e w' ⟨rfl, rfl⟩)
      | (go_at_call 16; refine (n_any _ _).mono ?_; rintro e w' ⟨rfl, rfl⟩))
  go_quiet ((first | (go_at_call 15; exact quiet_left (v_any _ x y _ _ _ (by simp) (by simp) rfl)) | (go_at_call 16; exact quiet_left (n_any _ _))))
  go_wp2
  go_ret
  exact ⟨rfl, by repeat (first | exact Grown.refl _ | apply Grown.drewN | apply Grown.drew | apply Grown.alloc)⟩
theorem un7 (x : Int) : unV 7 x = b2i (x == 0) := rfl
theorem b2i01 (b : Bool) : 0 ≤ b2i b ∧ b2i b ≤ 1 := by cases b <;> decide
theorem sum1 (x y : Int) : b2i (decide (x < y)) + b2i (x == y) + b2i (decide (y < x)) = 1 := by
  rcases Int.lt_trichotomy x y with h | h | h
  · have h1 : (x == y) = false := by simp; omega
    have h2 : decide (y < x) = false := by simp; omega
    rw [h1, h2, decide_eq_true h]; rfl
  · subst h
    simp [b2i]
  · have h1 : (x == y) = false := by simp; omega
    have h2 : decide (x < y) = false := by simp; omega
    rw [h1, h2, decide_eq_true h]; rfl
theorem not01 (b : Bool) : unV 7 (b2i b) = b2i (!b) := by cases b <;> rfl
theorem walk (a0 : Int) (a1 : Int) (w0 : (Lit.int .i64 a0).wf = true) (w1 : (Lit.int .i64 a1).wf = true) (w : World) :
    Calls Try.prog 7 #[.int .i64 a0, .int .i64 a1] w fun e w' => e = .returned (.bool true) ∧ Grown w w' := by
  have r : ∀ b : Bool, 0 ≤ b2i b ∧ b2i b ≤ 1 := b2i01
  refine go a0 a1 (b2i (decide (a0 < a1))) (b2i (a0 == a1)) (b2i (decide (a1 < a0))) (b2i (decide (a1 ≤ a0))) (b2i (decide (a0 ≤ a1))) (b2i (a0 != a1)) (b2i (a0 == 0)) (b2i (a1 == 0)) (b2i (!(a0 == 0))) (b2i (!(a1 == 0)))
    (b2i (a0 != 0 || a1 != 0)) w rfl rfl rfl rfl rfl rfl ?_ rfl rfl rfl (not01 _) (not01 _) ?_ ?_ (not01 _) ?_ (r _).1 (r _).2 (r _).1 (r _).2 (r _).1 (r _).2 ?_ (IntWalk.i64_in _ ?_) (IntWalk.i64_in _ ?_)
  · show b2i (a0 != 0 && a1 != 0) = _
    unfold bne
    cases (a0 == 0) <;> cases (a1 == 0) <;> decide
  · unfold bne
    cases (a0 == 0) <;> cases (a1 == 0) <;> decide
  · rw [not01]; congr 1; rw [Bool.eq_iff_iff]; simp
  · rw [not01]; congr 1; rw [Bool.eq_iff_iff]; simp
  · rw [sum1]; rfl
  · have := r (decide (a0 < a1)); have := r (a0 == a1); omega
  · rw [sum1]; omega

set_option maxRecDepth 100000 in
theorem lifted (os : Os) (started : os.Started) (H : Type) (enc : TypeId × Value → H) :
    ReturnsInHanded {} Try.checked os 7 .any (Rows.arithComparesSpec.pre6 enc Try.prog Try.f7 Rows.arithComparesRow.domain false) (Rows.arithComparesSpec.post enc Try.prog Try.f7 false true false false) := by
  refine returnsInHanded_of_change (C := Try.checked) own started (by kernel_rfl) Try.func7
    (ChangeSpec.witness6 (enc := enc) (C := Try.checked) false ⟨#[], #[.int .i64 0, .int .i64 0], []⟩ 8 (by kernel_rfl) (by kernel_rfl) (by kernel_rfl) (by kernel_rfl)) ?_
  intro W base args ds gs before hval0 hW hcnd _
  have hval : ∀ (j : Nat) t v, Try.f7.params[j]? = some t → args[j]? = some v → Value.okWide Try.prog W .any base t v := hval0
  have hW' := hW
  obtain ⟨p, q, hA0, hV, rfl, hfz, hnd⟩ := hW
  have hA : DataW.TrodAll enc Try.prog W 0 (fun _ => true) true Try.f7.params.toList args.toList ds p := hA0
  rw [Try.params7] at hA hval
  obtain ⟨v0, vs0, d0, ds0, p0, q0, hargs, rfl, rfl, h0, r0⟩ := trodAll_cons hA
  obtain ⟨v1, vs1, d1, ds1, p1, q1, rfl, rfl, rfl, h1, r1⟩ := trodAll_cons r0
  obtain ⟨rfl, rfl, rfl⟩ := trodAll_nil r1
  obtain rfl : args = #[v0, v1] := by cases args; simp_all
  obtain ⟨rfl, rfl⟩ := trodVars_none hV
  obtain ⟨a0, rfl, rfl, rfl, w0⟩ := open_int Try.underlying3 (hval 0 3 v0 rfl rfl) h0
  obtain ⟨a1, rfl, rfl, rfl, w1⟩ := open_int Try.underlying3 (hval 1 3 v1 rfl rfl) h1
  clear hA0 hval0
  simp only [List.append_nil] at hW'
  refine (walk a0 a1 w0 w1 W).mono fun e W' ⟨he, hg⟩ => ?_
  subst he
  exact ⟨_, rfl, post_of_same (pa := []) (pv := []) hW' (fun _ _ _ => (trodAll_cons_mk (shut_bool Try.underlying4 _) trodAll_mk0)) (fun sp _ => (trodAll_cons_mk (shut_int Try.underlying3 w0) (trodAll_cons_mk (shut_int Try.underlying3 w1) trodAll_mk0))) (fun _ _ => rfl) rfl
    (hg.frame _) hg.2.1 (ok_one (by kernel_rfl) rfl (okWide_bool_mk Try.underlying4 _))⟩

theorem over : Rows.arithComparesRow.holds Try.pinned (OpenSpec.ofChange Rows.arithComparesSpec) :=
  OpenClaim.holds_of_wide 7 Try.f7 rfl rfl rfl rfl rfl rfl rfl ⟨rfl, rfl, rfl, rfl, rfl⟩ rfl rfl rfl rfl rfl (by kernel_rfl) Try.func7 (by kernel_rfl)
    (of_decide_eq_true (by kernel_rfl)) (by unfold Func.isWrapper; first | (rw [if_pos (by decide +kernel)]; kernel_rfl) | (rw [if_neg (by decide +kernel)]; exact ⟨rfl, rfl⟩))
    (fun os started H enc _ => lifted os started H enc)

theorem proved : Rows.ArithComparesSaid :=
  over
end Go.Proofs.Ytgoaplmmeciamaa.arithCompares
