/- The law EnumerateRank: its walk. -/
import Derived.Test.YtklbaocgjegdfaaEnK
namespace Go.Proofs.Ytklbaocgjegdfaa
open Go.RowKit

theorem rankP_le {x : Int} (h : Mid x) : rankP x ≤ 2199023255552 := by
  unfold Mid at h
  unfold rankP
  split <;> omega

set_option maxRecDepth 100000 in
set_option maxHeartbeats 4000000 in
theorem rank_far (x y : Int) (h : ¬ (Mid x ∧ Mid y)) (w : World) :
    Calls Try.prog 4 #[.int .i64 x, .int .i64 y] w fun e w' => e = .returned (.bool true) ∧ Below w.heap.size w w' := by
  have HA : Hid (∀ w, Calls Try.prog 11 #[] w fun e w' => e = .returned (.bool true) ∧ Below w.heap.size w w') := awake_any
  unfold Mid at h
  have hc : 1099511627776 < x ∨ (¬ 1099511627776 < x ∧ x < -1099511627776) ∨ (¬ 1099511627776 < x ∧ ¬ x < -1099511627776 ∧ 1099511627776 < y) ∨ (¬ 1099511627776 < x ∧ ¬ x < -1099511627776 ∧ ¬ 1099511627776 < y ∧ y < -1099511627776) := by omega
  clear h
  rcases hc with h1 | ⟨h1, h2⟩ | ⟨h1, h2, h3⟩ | ⟨h1, h2, h3, h4⟩
  all_goals
    go_enter Try.func4, Try.ntmps4
    go_wp2_with fail
    refine (HA.out _).mono ?_
    rintro e w1 ⟨rfl, hb1⟩
    have HB1 := Lib.hid hb1
    clear hb1
    go_wp2_with fail
    refine (HA.out _).mono ?_
    rintro e w2 ⟨rfl, hb2⟩
    have HB2 := Lib.hid (below_next HB1.out (Nat.le_refl _) hb2)
    clear hb2
    go_wp2
    go_ret
    exact ⟨rfl, HB2.out⟩

/-- how ranks and absolute values lie -/
theorem rank_pos {x : Int} (h : 0 < x) : rankP x = 2 * x - 1 := if_pos h
theorem rank_neg {x : Int} (h : ¬ 0 < x) : rankP x = -2 * x := if_neg h

set_option maxRecDepth 100000 in
set_option maxHeartbeats 16000000 in
theorem rank_near (x y : Int) (hx : Mid x) (hy : Mid y) (w : World) :
    Calls Try.prog 4 #[.int .i64 x, .int .i64 y] w fun e w' => e = .returned (.bool true) ∧ Below w.heap.size w w' := by
  have HA : Hid (∀ w, Calls Try.prog 11 #[] w fun e w' => e = .returned (.bool true) ∧ Below w.heap.size w w') := awake_any
  obtain ⟨r, hr⟩ : ∃ r, rankP x = r := ⟨_, rfl⟩
  obtain ⟨q, hq⟩ : ∃ q, rankP y = q := ⟨_, rfl⟩
  have HR : Hid (∀ w, Calls Try.prog 16 #[.int .i64 x] w fun e w' => e = .returned (.int .i64 r) ∧ w = w') := fun w => (rank_any x hx w).mono fun _ _ ⟨a, b⟩ => ⟨by rw [a, hr], b.symm⟩
  have HQ : Hid (∀ w, Calls Try.prog 16 #[.int .i64 y] w fun e w' => e = .returned (.int .i64 q) ∧ w = w') := fun w => (rank_any y hy w).mono fun _ _ ⟨a, b⟩ => ⟨by rw [a, hq], b.symm⟩
  have HRR : Hid (∀ w, Calls Try.prog 18 #[.int .i64 x] w fun e w' => e = .returned (.int .i64 r) ∧ w = w') := fun w => (rrank_any x hx w).mono fun _ _ ⟨a, b⟩ => ⟨by rw [a, hr], b.symm⟩
  have r0 : 0 ≤ r := by rw [← hr]; exact rankP_nonneg x
  have q0 : 0 ≤ q := by rw [← hq]; exact rankP_nonneg y
  have r1 : r ≤ 2199023255552 := by rw [← hr]; exact rankP_le hx
  have q1 : q ≤ 2199023255552 := by rw [← hq]; exact rankP_le hy
  have HU : Hid (∀ w, Calls Try.prog 17 #[.int .i64 r] w fun e w' => e = .returned (.int .i64 x) ∧ w = w') := fun w => (unrank_any r (by omega) (by omega) w).mono fun _ _ ⟨a, b⟩ => ⟨by rw [a, ← hr, unrank_rank], b.symm⟩
  have HV : Hid (∀ w, Calls Try.prog 17 #[.int .i64 q] w fun e w' => e = .returned (.int .i64 y) ∧ w = w') := fun w => (unrank_any q (by omega) (by omega) w).mono fun _ _ ⟨a, b⟩ => ⟨by rw [a, ← hq, unrank_rank], b.symm⟩
  have HN : Hid (∀ k, k < 0 → -9223372036854775808 ≤ k → ∀ w, Calls Try.prog 17 #[.int .i64 k] w fun e w' => e = .returned (.int .i64 0) ∧ w = w') := fun k hk hk2 w => (unrank_any k (by omega) hk2 w).mono fun _ _ ⟨a, b⟩ => ⟨by rw [a]; unfold unrankP; rw [if_pos hk], b.symm⟩
  unfold Mid at hx hy
  obtain ⟨x1, x2⟩ := hx
  obtain ⟨y1, y2⟩ := hy
  have g1 : ¬ 1099511627776 < x := by omega
  have g2 : ¬ x < -1099511627776 := by omega
  have g3 : ¬ 1099511627776 < y := by omega
  have g4 : ¬ y < -1099511627776 := by omega
  have g5 : ¬ r < 0 := by omega
  have f1 : IntKind.i64.wrap (-x) = -x := IntWalk.i64_in _ (by omega)
  have f2 : IntKind.i64.wrap (-y) = -y := IntWalk.i64_in _ (by omega)
  have t1 : (x == x) = true := by simp
  have t2 : (y == y) = true := by simp
  have hcase : ∃ a b : Int, (a = x ∨ a = -x) ∧ max x (-x) = a ∧ max y (-y) = b ∧ 0 ≤ a ∧ a ≤ 1099511627776 ∧ 0 ≤ b ∧ b ≤ 1099511627776 ∧ (a < b → r < q) ∧ (b < a → q < r) ∧ (a = b → (r < q ↔ y < x)) := by
    refine ⟨max x (-x), max y (-y), by omega, rfl, rfl, by omega, by omega, by omega, by omega, ?_, ?_, ?_⟩
    all_goals
      rw [← hr, ← hq]
      unfold rankP
      intro hh
      split <;> split <;> omega
  obtain ⟨a, b, -, ea, eb, a0, a1, b0, b1, k1, k2, k3⟩ := hcase
  clear hr hq
  have HK : Hid ((a < b → r < q) ∧ (b < a → q < r) ∧ (a = b → (r < q ↔ y < x))) := ⟨k1, k2, k3⟩
  have u1 : IntKind.i64.wrap (-1 - a) = -1 - a := IntWalk.i64_in _ (by omega)
  have HNA := Lib.hid (HN.out (-1 - a) (by omega) (by omega))
  have ea0 : max a 0 = a := by omega
  clear k1 k2 k3
  rcases (by omega : a < b ∨ b < a ∨ b = a) with h | h | h
  · have h1 := HK.out.1 h
    have h2 : (a != b) = true := by simp; omega
    have h3 : (a == b) = false := by simp; omega
    clear ea0
    go_enter Try.func4, Try.ntmps4
    go_wp2_with fail
    refine (HA.out _).mono ?_
    rintro e w1 ⟨rfl, hb1⟩
    have HB1 := Lib.hid hb1
    clear hb1
    go_wp2_with fail
    refine (HR.out _).mono ?_
    rintro e w' ⟨rfl, rfl⟩
    go_wp2_with fail
    refine (HQ.out _).mono ?_
    rintro e w' ⟨rfl, rfl⟩
    go_wp2_with fail
    refine (HU.out _).mono ?_
    rintro e w' ⟨rfl, rfl⟩
    go_wp2_with fail
    refine (HV.out _).mono ?_
    rintro e w' ⟨rfl, rfl⟩
    go_wp2_with fail
    refine (HRR.out _).mono ?_
    rintro e w' ⟨rfl, rfl⟩
    go_wp2
    go_ret
    exact ⟨rfl, HB1.out⟩
  · have h1 := HK.out.2.1 h
    have h2 : (a != b) = true := by simp; omega
    have h3 : (a == b) = false := by simp; omega
    have h4 : ¬ a < b := by omega
    have h5 : ¬ r < q := by omega
    clear ea0
    go_enter Try.func4, Try.ntmps4
    go_wp2_with fail
    refine (HA.out _).mono ?_
    rintro e w1 ⟨rfl, hb1⟩
    have HB1 := Lib.hid hb1
    clear hb1
    go_wp2_with fail
    refine (HR.out _).mono ?_
    rintro e w' ⟨rfl, rfl⟩
    go_wp2_with fail
    refine (HQ.out _).mono ?_
    rintro e w' ⟨rfl, rfl⟩
    go_wp2_with fail
    refine (HU.out _).mono ?_
    rintro e w' ⟨rfl, rfl⟩
    go_wp2_with fail
    refine (HV.out _).mono ?_
    rintro e w' ⟨rfl, rfl⟩
    go_wp2_with fail
    refine (HRR.out _).mono ?_
    rintro e w' ⟨rfl, rfl⟩
    go_wp2
    go_ret
    exact ⟨by show Ending.returned (.bool (decide (a < b) == decide (r < q))) = _; rw [decide_eq_false (by omega), decide_eq_false (by omega)]; rfl, HB1.out⟩
  · subst h
    have h1 := HK.out.2.2 rfl
    have h2 : (b != b) = false := by simp
    have h3 : (b == b) = true := by simp
    by_cases h4 : r < q
    · have h5 := h1.1 h4
      clear h1
      go_enter Try.func4, Try.ntmps4
      go_wp2_with fail
      refine (HA.out _).mono ?_
      rintro e w1 ⟨rfl, hb1⟩
      have HB1 := Lib.hid hb1
      clear hb1
      go_wp2_with fail
      refine (HR.out _).mono ?_
      rintro e w' ⟨rfl, rfl⟩
      go_wp2_with fail
      refine (HQ.out _).mono ?_
      rintro e w' ⟨rfl, rfl⟩
      go_wp2_with fail
      refine (HU.out _).mono ?_
      rintro e w' ⟨rfl, rfl⟩
      go_wp2_with fail
      refine (HV.out _).mono ?_
      rintro e w' ⟨rfl, rfl⟩
      go_wp2_with fail
      refine (HRR.out _).mono ?_
      rintro e w' ⟨rfl, rfl⟩
      go_wp2_with fail
      refine (HNA.out _).mono ?_
      rintro e w' ⟨rfl, rfl⟩
      go_wp2
      go_ret
      exact ⟨rfl, HB1.out⟩
    · have h5 : ¬ y < x := fun hh => h4 (h1.2 hh)
      clear h1
      go_enter Try.func4, Try.ntmps4
      go_wp2_with fail
      refine (HA.out _).mono ?_
      rintro e w1 ⟨rfl, hb1⟩
      have HB1 := Lib.hid hb1
      clear hb1
      go_wp2_with fail
      refine (HR.out _).mono ?_
      rintro e w' ⟨rfl, rfl⟩
      go_wp2_with fail
      refine (HQ.out _).mono ?_
      rintro e w' ⟨rfl, rfl⟩
      go_wp2_with fail
      refine (HU.out _).mono ?_
      rintro e w' ⟨rfl, rfl⟩
      go_wp2_with fail
      refine (HV.out _).mono ?_
      rintro e w' ⟨rfl, rfl⟩
      go_wp2_with fail
      refine (HRR.out _).mono ?_
      rintro e w' ⟨rfl, rfl⟩
      go_wp2_with fail
      refine (HNA.out _).mono ?_
      rintro e w' ⟨rfl, rfl⟩
      go_wp2
      go_ret
      exact ⟨rfl, HB1.out⟩

theorem ranklaw_top (x : Int) (_ : (Lit.int .i64 x).wf = true) (y : Int) (_ : (Lit.int .i64 y).wf = true) (w : World) :
    Calls Try.prog 4 #[.int .i64 x, .int .i64 y] w fun e w' => e = .returned (.bool true) ∧ Below w.heap.size w w' := by
  by_cases h : Mid x ∧ Mid y
  · exact rank_near x y h.1 h.2 w
  · exact rank_far x y h w
end Go.Proofs.Ytklbaocgjegdfaa
