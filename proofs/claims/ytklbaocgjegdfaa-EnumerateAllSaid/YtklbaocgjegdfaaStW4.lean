/- Walks: slices.EqualFunc at [][]int, Equal, the reference's Equal. -/
import Derived.Test.YtklbaocgjegdfaaStW3
namespace Go.Proofs.Ytklbaocgjegdfaa
open Go.RowKit

theorem cf_seq (args : Array Value) (w : World) : (callFunc 39 args).run Try.prog w = .ok (.enter 39 args) w := by kernel_rfl

theorem IntsAt.drewN {w : World} {v : Value} {l : List Int} (h : IntsAt w v l) (q : Nat) : IntsAt (w.drewN q) v l :=
  ⟨SliceAt.mono h.1 (Nat.le_refl _) (fun _ _ _ hq => hq), h.2⟩

set_option maxRecDepth 100000 in
set_option maxHeartbeats 2000000 in
theorem eqf_any (x y : List (List Int)) (u v : Value) (w : World) (h1 : RowsAt w u x) (h2 : RowsAt w v y) :
    Calls Try.prog 38 #[u, v, .func (.func 39) #[] #[]] w fun e w' => e = .returned (.bool (decide (x = y))) ∧ ∃ q, w' = w.drewN q := by
  obtain ⟨a1, c1, rfl, hn1, hm1, hc1⟩ := h1
  obtain ⟨a2, c2, rfl, _, _, hc2⟩ := h2
  by_cases hl : x.length = y.length
  · obtain ⟨n, hnx⟩ : ∃ n, n = x.length := ⟨_, rfl⟩
    have hny : n = y.length := by omega
    rw [← hnx] at hc1 hn1 ⊢
    rw [← hny] at hc2 ⊢
    have HC1 := Lib.hid hc1
    have HC2 := Lib.hid hc2
    have NX := Lib.hid hnx
    have NY := Lib.hid hny
    have hn63 : n ≤ 9223372036854775807 := by unfold maxLen at hm1; omega
    obtain ⟨R, hR⟩ : ∃ R, R = decide (x = y) := ⟨_, rfl⟩
    rw [← hR]
    have HR := Lib.hid hR
    clear hR hc1 hc2 hnx hny hn1 hm1 hl
    go_enter Try.func38, Try.ntmps38
    go_wp2
    go_loopg [17] n (fun q i wr => ∃ k : Nat, k + q = n ∧ i = .int .i64 k ∧ Hid (x.take k = y.take k) ∧ ∃ d, wr = w.drewN d)
    case atStart => exact ⟨0, by omega, rfl, rfl, 0, rfl⟩
    case round =>
      obtain ⟨k, hk, rfl, hal, d, rfl⟩ := hrel
      have Hk := Lib.hid hk
      have hkn : k ≤ n := by omega
      clear hk
      by_cases hlt : k < n
      · have hlt' : (k : Int) < (n : Int) := by omega
        obtain ⟨g1, o1, rfl, hg1, hq1⟩ := HC1.out (by omega)
        obtain ⟨g2, o2, rfl, hg2, hq2⟩ := HC2.out (by omega)
        obtain ⟨s, hs⟩ := get_lt NX.out hlt
        obtain ⟨t, ht⟩ := get_lt NY.out hlt
        obtain ⟨r1, m0, i1⟩ := hq1 k s hs
        obtain ⟨r2, l0, i2⟩ := hq2 k t ht
        have HS := Lib.hid hs
        have HT := Lib.hid ht
        have I1 := Lib.hid i1
        have I2 := Lib.hid i2
        have hcf := cf_seq
        clear hq1 hq2 hs ht i1 i2
        go_wp2_with fail
        refine (seq_any s t _ _ _ (by exact I1.out.drewN _) (by exact I2.out.drewN _)).mono ?_
        by_cases he : s = t
        · subst he
          rw [decide_eq_true rfl]
          rintro e w2 ⟨rfl, q2, rfl⟩
          go_wp2
          have hk := Hk.out
          go_roundg (n - (k + 1))
          case measure => omega
          case rel => exact ⟨k + 1, by omega, by go_num, take_eq hal.out HS.out HT.out, _, by first | rfl | exact World.drewN_drewN _ _ _⟩
        · have hr : R = false := by
            rw [HR.out]
            refine decide_eq_false (fun hxy => he ?_)
            have h := HS.out
            rw [hxy, HT.out] at h
            exact (Option.some.inj h).symm
          rw [decide_eq_false he]
          subst hr
          clear he
          rintro e w2 ⟨rfl, q2, rfl⟩
          go_wp2
          go_ret
          exact ⟨rfl, _, by first | rfl | exact World.drewN_drewN _ _ _⟩
      · have hge : ¬ (k : Int) < (n : Int) := by omega
        have hr : R = true := by
          have h := hal.out
          rw [List.take_of_length_le (by rw [← NX.out]; omega), List.take_of_length_le (by rw [← NY.out]; omega)] at h
          rw [HR.out]
          exact decide_eq_true h
        subst hr
        go_wp2
        go_ret
        exact ⟨rfl, d, rfl⟩
  · have hr : decide (x = y) = false := decide_eq_false (fun h => hl (by rw [h]))
    rw [hr]
    generalize x.length = n1 at *
    generalize y.length = n2 at *
    have he1 : ((n1 : Int) != (n2 : Int)) = true := by simp; omega
    clear hl hr
    go_enter Try.func38, Try.ntmps38
    go_wp2
    go_ret
    exact ⟨rfl, 0, rfl⟩

theorem RowsAt.drewN {w : World} {v : Value} {L : List (List Int)} (h : RowsAt w v L) (q : Nat) : RowsAt (w.drewN q) v L :=
  SliceAt.mono h (Nat.le_refl _) (fun _ _ _ hq i l hl => by
    obtain ⟨u, h1, h2⟩ := hq i l hl
    exact ⟨u, h1, h2.drewN q⟩)

theorem box_first (w : World) (x y z : Value) (t : TypeId) (o : Obj) : ((w.alloc (.cells #[x, y, z] t)).alloc o).cell? ⟨w.heap.size, 0, none⟩ = some x :=
  alloc_cell (by rw [World.cell?_alloc_at _ _ _ _ rfl]; rfl) _
theorem box_second (w : World) (x y z : Value) (t : TypeId) (o : Obj) : ((w.alloc o).alloc (.cells #[x, y, z] t)).cell? ⟨w.heap.size + 1, 0, none⟩ = some x := by
  have e : (w.alloc o).heap.size = w.heap.size + 1 := by simp
  rw [← e, World.cell?_alloc_at _ _ _ _ rfl]
  rfl
theorem drew_more {W w : World} (h : ∃ d, w = W.drewN d) (n : Nat) : Hid (∃ d, w.drewN n = W.drewN d) := by
  obtain ⟨d, rfl⟩ := h
  exact ⟨d + n, World.drewN_drewN _ _ _⟩

theorem st_eq (a b : St) : decide (a = b) = (decide (a.cells = b.cells) && decide (a.inp = b.inp) && decide (a.out = b.out)) := by
  obtain ⟨c, i, o⟩ := a
  obtain ⟨c', i', o'⟩ := b
  rw [Bool.eq_iff_iff]
  simp [and_assoc]

set_option maxRecDepth 100000 in
set_option maxHeartbeats 2000000 in
theorem equal_any (s t : St) (u v : Value) (w : World) (h1 : StAt w u s) (h2 : StAt w v t) :
    Calls Try.prog 23 #[u, v] w fun e w' => e = .returned (.bool (decide (s = t))) ∧ Below w.heap.size w w' := by
  obtain ⟨c1, i1, o1, rfl, hc1, hi1, ho1⟩ := h1
  obtain ⟨c2, i2, o2, rfl, hc2, hi2, ho2⟩ := h2
  rw [st_eq]
  have hb : Below w.heap.size w ((w.alloc (.cells #[c1, i1, o1] 35)).alloc (.cells #[c2, i2, o2] 35)) := (below_alloc _ _).alloc (by simp) _
  have C1 := Lib.hid (hc1.below hb (Nat.le_refl _))
  have C2 := Lib.hid (hc2.below hb (Nat.le_refl _))
  have I1 := Lib.hid (hi1.below hb (Nat.le_refl _))
  have I2 := Lib.hid (hi2.below hb (Nat.le_refl _))
  have O1 := Lib.hid (ho1.below hb (Nat.le_refl _))
  have O2 := Lib.hid (ho2.below hb (Nat.le_refl _))
  have HB := Lib.hid hb
  clear hc1 hc2 hi1 hi2 ho1 ho2 hb
  obtain ⟨x1, y1, z1⟩ := s
  obtain ⟨x2, y2, z2⟩ := t
  simp only at C1 C2 I1 I2 O1 O2 ⊢
  have E1 := eqf_any x1 x2
  have E2 := seq_any y1 y2
  have E3 := seq_any z1 z2
  generalize decide (x1 = x2) = r1 at *
  generalize decide (y1 = y2) = r2 at *
  generalize decide (z1 = z2) = r3 at *
  have H1 := Lib.hid E1
  have H2 := Lib.hid E2
  have H3 := Lib.hid E3
  clear E1 E2 E3
  go_enter Try.func23, Try.ntmps23
  go_wp2_with fail
  refine (H1.out _ _ _ C1.out C2.out).mono ?_
  rintro e w1 ⟨rfl, q1, rfl⟩
  cases r1
  · go_wp2
    go_ret
    exact ⟨rfl, drewN_below HB.out _⟩
  · go_wp2_with fail
    refine (H2.out _ _ _ (by exact I1.out.drewN _) (by exact I2.out.drewN _)).mono ?_
    rintro e w2 ⟨rfl, q2, rfl⟩
    cases r2
    · go_wp2
      go_ret
      exact ⟨rfl, by simpa using drewN_below HB.out (q1 + q2)⟩
    · go_wp2_with fail
      refine (H3.out _ _ _ (by exact O1.out.drewN _) (by exact O2.out.drewN _)).mono ?_
      rintro e w3 ⟨rfl, q3, rfl⟩
      go_wp2
      go_ret
      exact ⟨rfl, by simpa using drewN_below HB.out (q1 + q2 + q3)⟩

end Go.Proofs.Ytklbaocgjegdfaa
