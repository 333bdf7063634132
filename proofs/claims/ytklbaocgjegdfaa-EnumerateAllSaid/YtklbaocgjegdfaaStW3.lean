/- Walks: slices.Equal at []int, the reference's Ints. -/
import Derived.Test.YtklbaocgjegdfaaStW1
namespace Go.Proofs.Ytklbaocgjegdfaa
open Go.RowKit

theorem take_eq {α : Type} {x y : List α} {k : Nat} {s : α} (h : x.take k = y.take k) (h1 : x[k]? = some s) (h2 : y[k]? = some s) : Hid (x.take (k + 1) = y.take (k + 1)) := by
  unfold Hid
  rw [List.take_add_one, List.take_add_one, h, h1, h2]

set_option maxRecDepth 100000 in
set_option maxHeartbeats 1000000 in
theorem seq_any (x y : List Int) (u v : Value) (w : World) (h1 : IntsAt w u x) (h2 : IntsAt w v y) :
    Calls Try.prog 39 #[u, v] w fun e w' => e = .returned (.bool (decide (x = y))) ∧ ∃ q, w' = w.drewN q := by
  obtain ⟨⟨a1, c1, rfl, hn1, hm1, hc1⟩, _⟩ := h1
  obtain ⟨⟨a2, c2, rfl, _, _, hc2⟩, _⟩ := h2
  by_cases hl : x.length = y.length
  · obtain ⟨n, hnx⟩ : ∃ n, n = x.length := ⟨_, rfl⟩
    have hny : n = y.length := by omega
    rw [← hnx] at hc1 hn1 ⊢
    rw [← hny] at hc2 ⊢
    have HC1 := Lib.hid hc1
    have HC2 := Lib.hid hc2
    have NX := Lib.hid hnx
    have NY := Lib.hid hny
    have hn63 : n ≤ 9223372036854775807 := by unfold maxLen at hm1; omega
    obtain ⟨R, hR⟩ : ∃ R, R = decide (x = y) := ⟨_, rfl⟩
    rw [← hR]
    have HR := Lib.hid hR
    clear hR hc1 hc2 hnx hny hn1 hm1 hl
    go_enter Try.func39, Try.ntmps39
    go_wp2
    go_loopg [13] n (fun q i wr => ∃ k : Nat, k + q = n ∧ i = .int .i64 k ∧ Hid (x.take k = y.take k) ∧ ∃ d, wr = w.drewN d)
    case atStart => exact ⟨0, by omega, rfl, rfl, 0, rfl⟩
    case round =>
      obtain ⟨k, hk, rfl, hal, d, rfl⟩ := hrel
      have Hk := Lib.hid hk
      have hkn : k ≤ n := by omega
      clear hk
      by_cases hlt : k < n
      · have hlt' : (k : Int) < (n : Int) := by omega
        obtain ⟨g1, o1, rfl, hg1, hq1⟩ := HC1.out (by omega)
        obtain ⟨g2, o2, rfl, hg2, hq2⟩ := HC2.out (by omega)
        obtain ⟨s, hs⟩ := get_lt NX.out hlt
        obtain ⟨t, ht⟩ := get_lt NY.out hlt
        have m0 := hq1 k s hs
        have l0 := hq2 k t ht
        have HS := Lib.hid hs
        have HT := Lib.hid ht
        clear hq1 hq2 hs ht
        by_cases he : s = t
        · subst he
          go_wp2
          go_quiet (fail)
          go_wp2
          have hk := Hk.out
          go_roundg (n - (k + 1))
          case measure => omega
          case rel => exact ⟨k + 1, by omega, by go_num, take_eq hal.out HS.out HT.out, _, by first | rfl | exact World.drewN_drewN _ _ _⟩
        · have hr : R = false := by
            rw [HR.out]
            refine decide_eq_false (fun hxy => he ?_)
            have h := HS.out
            rw [hxy, HT.out] at h
            exact (Option.some.inj h).symm
          have he1 : (s != t) = true := by simpa using he
          subst hr
          clear he
          go_wp2
          go_quiet (fail)
          go_wp2
          go_ret
          exact ⟨rfl, _, by first | rfl | exact World.drewN_drewN _ _ _⟩
      · have hge : ¬ (k : Int) < (n : Int) := by omega
        have hr : R = true := by
          have h := hal.out
          rw [List.take_of_length_le (by rw [← NX.out]; omega), List.take_of_length_le (by rw [← NY.out]; omega)] at h
          rw [HR.out]
          exact decide_eq_true h
        subst hr
        go_wp2
        go_ret
        exact ⟨rfl, d, rfl⟩
  · have hr : decide (x = y) = false := decide_eq_false (fun h => hl (by rw [h]))
    rw [hr]
    generalize x.length = n1 at *
    generalize y.length = n2 at *
    have he1 : ((n1 : Int) != (n2 : Int)) = true := by simp; omega
    clear hl hr
    go_enter Try.func39, Try.ntmps39
    go_wp2
    go_ret
    exact ⟨rfl, 0, rfl⟩

end Go.Proofs.Ytklbaocgjegdfaa
