/- The walk of plain. -/
import Derived.Test.YtpbbiidfahaamaaStR2
namespace Go.Proofs.Ytpbbiidfahaamaa
open Go.RowKit

theorem chgsV_get {C : List Chg} {k : Nat} {c : Chg} (h : C[k]? = some c) : (chgsV C)[k * 4]? = some (.int .i64 c.cell) ∧ (chgsV C)[k * 4 + 1]? = some (.int .i64 c.pos) ∧ (chgsV C)[k * 4 + 2]? = some (.int .i64 c.old) ∧ (chgsV C)[k * 4 + 3]? = some (.int .i64 c.new) := by
  induction C generalizing k with
  | nil => simp at h
  | cons d D ih =>
    have e : chgsV (d :: D) = chgV d ++ chgsV D := rfl
    rw [e]
    cases k with
    | zero =>
      simp only [List.getElem?_cons_zero, Option.some.injEq] at h
      subst h
      exact ⟨rfl, rfl, rfl, rfl⟩
    | succ k =>
      simp only [List.getElem?_cons_succ] at h
      obtain ⟨a, b, c1, d1⟩ := ih h
      have hl : (chgV d).length = 4 := rfl
      refine ⟨?_, ?_, ?_, ?_⟩ <;> (rw [List.getElem?_append_right (by rw [hl]; omega), hl]; first | (rw [show (k + 1) * 4 - 4 = k * 4 by omega]; assumption) | (rw [show (k + 1) * 4 + 1 - 4 = k * 4 + 1 by omega]; assumption) | (rw [show (k + 1) * 4 + 2 - 4 = k * 4 + 2 by omega]; assumption) | (rw [show (k + 1) * 4 + 3 - 4 = k * 4 + 3 by omega]; assumption))

theorem chgsV_len (C : List Chg) : (chgsV C).length = C.length * 4 := by
  induction C with
  | nil => rfl
  | cons d D ih =>
    have e : chgsV (d :: D) = chgV d ++ chgsV D := rfl
    rw [e, List.length_append, ih, List.length_cons]
    have hl : (chgV d).length = 4 := rfl
    omega

theorem ChgsAt.of_own {w : World} {base : Nat} {e : TypeId} {v : Value} {C : List Chg} (h : w.ownsRow base e 4 v C.length (chgsV C)) (hC : ∀ c ∈ C, c.Fits) : ChgsAt w v C := by
  refine ⟨?_, hC⟩
  rcases h.2 with ⟨rfl, h0⟩ | ⟨g, cap, cur, rfl, _, hg, hn, hm, _, _⟩
  · rw [h0]
    exact ⟨none, 0, rfl, Nat.le_refl _, by unfold maxLen; omega, fun h => absurd h (by decide)⟩
  · refine ⟨_, cap, rfl, hn, hm, fun hp => ⟨g, 0, rfl, (Array.getElem?_eq_some_iff.1 hg).1, fun i c hc => ?_⟩⟩
    have hi : i < C.length := by
      rcases Nat.lt_or_ge i C.length with hh | hh
      · exact hh
      · rw [List.getElem?_eq_none hh] at hc; cases hc
    obtain ⟨a, b, c1, d1⟩ := chgsV_get hc
    simp only [Nat.zero_add]
    exact ⟨by rw [h.cellAt _ (by omega), a], by rw [h.cellAt _ (by omega), b], by rw [h.cellAt _ (by omega), c1], by rw [h.cellAt _ (by omega), d1]⟩

theorem chgsV_take {C : List Chg} {k : Nat} {c : Chg} (h : C[k]? = some c) : chgsV (C.take (k + 1)) = chgsV (C.take k) ++ [.int .i64 c.cell, .int .i64 c.pos, .int .i64 c.old, .int .i64 c.new] := flat_take chgV h

theorem getD_i64 {l : List Int} (h : ∀ x ∈ l, I64 x) (i : Nat) : I64 (l.getD i 0) := by
  rw [List.getD_eq_getElem?_getD]
  cases hg : l[i]? with
  | none => simp [I64]
  | some x => exact h x (List.mem_of_getElem? hg)

theorem diffP_ok {a b : St} (ha : InSt a) (hb : InSt b) (sa : Small a) (sb : Small b) : (diffP a b).length ≤ 5000 ∧ ∀ c ∈ diffP a b, c.Fits := by
  unfold diffP
  by_cases hl : a.cells.length = b.cells.length
  · rw [if_pos hl]
    have hn := sa.1
    have hone : ∀ c, (diffAt a b c).length ≤ 61 := by
      intro c
      have h1 := dLen_len c (part a c) (part b c)
      have h2 := dEls_len c (part a c) (part b c) (max (part a c).length (part b c).length)
      have h3 := sa.len c
      have h4 := sb.len c
      show (dLen _ _ _ ++ dEls _ _ _ _).length ≤ 61
      rw [List.length_append]
      omega
    refine ⟨?_, ?_⟩
    · have hg : ∀ l : List Int, (l.flatMap (diffAt a b)).length ≤ 61 * l.length := by
        intro l
        induction l with
        | nil => simp
        | cons x l ih =>
          rw [List.flatMap_cons, List.length_append, List.length_cons]
          have := hone x
          omega
      have := hg (comps a.cells.length)
      have e : (comps a.cells.length).length = a.cells.length + 2 := by simp [comps, compsL]
      omega
    · intro x hx
      rw [List.mem_flatMap] at hx
      obtain ⟨c, hc, hx⟩ := hx
      have hci : I64 c := by
        have := comps_mem hc
        unfold I64
        omega
      have hga : ∀ i, I64 ((part a c).getD i 0) := fun i => getD_i64 (part_i64 ha c) i
      have hgb : ∀ i, I64 ((part b c).getD i 0) := fun i => getD_i64 (part_i64 hb c) i
      have h3 := sa.len c
      have h4 := sb.len c
      unfold diffAt dCell at hx
      rw [List.mem_append] at hx
      rcases hx with hx | hx
      · unfold dLen at hx
        split at hx
        · simp at hx
        · simp only [List.mem_cons, List.not_mem_nil, or_false] at hx
          subst hx
          refine ⟨hci, ?_, ?_, ?_⟩ <;> (unfold I64; simp only; omega)
      · unfold dEls at hx
        rw [List.mem_flatMap] at hx
        obtain ⟨i, hi, hx⟩ := hx
        rw [List.mem_range] at hi
        unfold dOne at hx
        split at hx
        · simp at hx
        · simp only [List.mem_cons, List.not_mem_nil, or_false] at hx
          subst hx
          refine ⟨hci, ?_, hga i, hgb i⟩
          unfold I64; simp only; omega
  · rw [if_neg hl]
    exact ⟨by simp, by simp⟩

set_option maxRecDepth 100000 in
set_option maxHeartbeats 4000000 in
theorem plain_any (C : List Chg) (v : Value) (w : World) (h : ChgsAt w v C) (hl : C.length ≤ 1000000) :
    Calls Try.prog 15 #[v] w fun e w' => ∃ r, e = .returned r ∧ w'.ownsRow w.heap.size 34 4 r C.length (chgsV C) ∧ Below w.heap.size w w' := by
  obtain ⟨⟨a, c, rfl, -, -, hc⟩, -⟩ := h
  obtain ⟨i0, hi, hz0, hz1, hz2⟩ := info_parts rchgInfo
  generalize hn : C.length = n at *
  have HN := Lib.hid hn.symm
  have HC := Lib.hid hc
  clear hc hn
  go_enter Try.func15, Try.ntmps15
  go_wp2
  go_loopg [3, 4] n (fun q v i wr => ∃ k : Nat, k + q = n ∧ i = .int .i64 k ∧ wr.ownsRow w.heap.size 34 4 v k (chgsV (C.take k)) ∧ Below w.heap.size w wr)
  case atStart => exact ⟨0, by omega, rfl, World.ownsRow_nil _ _ _ _, Below.refl _ _⟩
  case round =>
    obtain ⟨k, hk, rfl, hown, hb⟩ := hrel
    have Hk := Lib.hid hk
    have hkn : k ≤ n := by omega
    have Hown := Lib.hid hown
    have Hb := Lib.hid hb
    have hsz := hb.size
    clear hk hown hb
    by_cases hlt : k < n
    · have hlt' : (k : Int) < (n : Int) := by omega
      have hk0 : (0 : Int) ≤ (k : Int) := Int.natCast_nonneg _
      obtain ⟨g, o, rfl, hg, hq⟩ := HC.out (by omega)
      obtain ⟨x, hx⟩ := get_lt HN.out hlt
      have HQ := Lib.hid (hq k x hx)
      obtain ⟨q0, q1, q2, q3⟩ := hq k x hx
      have m0 := cell_below Hb.out hg q0
      have m1 := cell_below Hb.out hg q1
      have m2 := cell_below Hb.out hg q2
      have m3 := cell_below Hb.out hg q3
      have HT := Lib.hid (chgsV_take hx)
      obtain ⟨x0, x1, x2, x3⟩ := x
      simp only at m0 m1 m2 m3
      clear hq hx q0 q1 q2 q3
      go_wp2_with fail
      go_region_held3 (fun w' => w'.cell? ⟨g, o + k * 4, none⟩ = some (.int .i64 x0) ∧ w'.cell? ⟨g, o + k * 4 + 1, none⟩ = some (.int .i64 x1) ∧ w'.cell? ⟨g, o + k * 4 + 2, none⟩ = some (.int .i64 x2) ∧ w'.cell? ⟨g, o + k * 4 + 3, none⟩ = some (.int .i64 x3))
        (first
          | exact ⟨m0, m1, m2, m3⟩
          | exact ⟨cell_below Hb1.out hg HQ.out.1, cell_below Hb1.out hg HQ.out.2.1, cell_below Hb1.out hg HQ.out.2.2.1, cell_below Hb1.out hg HQ.out.2.2.2⟩
          | go_keep)
        ((refine step_append_own _ (by rfl) (.tmp 11) (.tmp 33) 28 (by rfl) w.heap.size 34 i0 _ 4 32 Try.underlying28 hi hz0 hz1 hz2 rfl (by decide) _ k (chgsV (C.take k)) (by rfl) (by exact Hown.out.alloc _) ⟨wr.heap.size, 0, none⟩ 1 1 [.int .i64 x0, .int .i64 x1, .int .i64 x2, .int .i64 x3] (by rfl) (by rfl) (by exact cell_four_new _ _ _ _ _ _) (ints4_one _ _ _ _) (by unfold maxLen; omega) (by omega) (by simp; omega) ?_; intro v1 w1 hown1 hgrow1; have Hb1 : Hid (Below w.heap.size w w1) := (Hb.out.alloc hsz (.cells #[.int .i64 x0, .int .i64 x1, .int .i64 x2, .int .i64 x3] 34)).grown ⟨hgrow1.os, hgrow1.tape, hgrow1.output, hgrow1.size, hgrow1.block⟩ (by simp; omega) (fun j hj => (Hown.out.lt j hj).1); have Hown1 := Lib.hid hown1; clear hown1 hgrow1))
      clear Hown
      go_wp2
      have hk := Hk.out
      go_roundg (n - (k + 1))
      case measure => omega
      case rel =>
        refine ⟨k + 1, by omega, by go_num, ?_, Hb1.out⟩
        rw [HT.out]
        exact Hown1.out
    · have hge : ¬ (k : Int) < (n : Int) := by omega
      have hkn2 : k = n := by omega
      subst hkn2
      have hown := Hown.out
      rw [List.take_of_length_le (by rw [← HN.out]; exact Nat.le_refl _)] at hown
      have HO := Lib.hid hown
      clear hown Hown
      go_wp2
      go_ret
      exact ⟨_, rfl, HO.out, Hb.out⟩

set_option maxRecDepth 100000 in
set_option maxHeartbeats 8000000 in
theorem diffslaw_any (a b : St) (va vb : Value) (w : World) (h1 : StAt w va a) (h2 : StAt w vb b) :
    Calls Try.prog 3 #[va, vb] w fun e w' => e = .returned (.bool true) ∧ Below w.heap.size w w' := by
  obtain ⟨c1, i1, o1, rfl, -, -, -⟩ := id h1
  obtain ⟨c2, i2, o2, rfl, -, -, -⟩ := id h2
  obtain ⟨W, hW⟩ : ∃ W, W = (w.alloc (.cells #[c1, i1, o1] 25)).alloc (.cells #[c2, i2, o2] 25) := ⟨_, rfl⟩
  have hB0 : Below w.heap.size w W := by rw [hW]; exact ((Below.refl _ _).alloc (Nat.le_refl _) _).alloc (by simp) _
  have hWs : w.heap.size + 1 < W.heap.size := by rw [hW]; simp
  obtain ⟨r0, r1, r2⟩ := three_new w c1 i1 o1 25
  have q := three_new (w.alloc (.cells #[c1, i1, o1] 25)) c2 i2 o2 25
  have hs1 : (w.alloc (.cells #[c1, i1, o1] 25)).heap.size = w.heap.size + 1 := by simp
  rw [← hW, hs1] at q
  have p0 := alloc_cell r0 (.cells #[c2, i2, o2] 25)
  have p1 := alloc_cell r1 (.cells #[c2, i2, o2] 25)
  have p2 := alloc_cell r2 (.cells #[c2, i2, o2] 25)
  rw [← hW] at p0 p1 p2
  have HCELL : Hid (∀ w', Below W.heap.size W w' → (w'.cell? ⟨w.heap.size, 0, none⟩ = some c1 ∧ w'.cell? ⟨w.heap.size, 1, none⟩ = some i1 ∧ w'.cell? ⟨w.heap.size, 2, none⟩ = some o1) ∧ w'.cell? ⟨w.heap.size + 1, 0, none⟩ = some c2 ∧ w'.cell? ⟨w.heap.size + 1, 1, none⟩ = some i2 ∧ w'.cell? ⟨w.heap.size + 1, 2, none⟩ = some o2) :=
    fun w' hb => ⟨⟨cell_below hb (by omega) p0, cell_below hb (by omega) p1, cell_below hb (by omega) p2⟩, cell_below hb hWs q.1, cell_below hb hWs q.2.1, cell_below hb hWs q.2.2⟩
  have k1 := h1.below hB0 (Nat.le_refl _)
  have k2 := h2.below hB0 (Nat.le_refl _)
  have HSA : Hid (∀ w', Below W.heap.size W w' → Calls Try.prog 14 #[.agg #[c1, i1, o1]] w' _) := fun w' hb => small_any a _ w' (k1.below hb (Nat.le_refl _))
  have HSB : Hid (∀ w', Below W.heap.size W w' → Calls Try.prog 14 #[.agg #[c2, i2, o2]] w' _) := fun w' hb => small_any b _ w' (k2.below hb (Nat.le_refl _))
  have HDI : Hid (smallB a = true → smallB b = true → (∀ w', Below W.heap.size W w' → Calls Try.prog 16 #[.agg #[c1, i1, o1], .agg #[c2, i2, o2]] w' fun e w'' => ∃ r, e = .returned r ∧ w''.ownsRow w'.heap.size 61 4 r (diffP a b).length (chgsV (diffP a b)) ∧ Below w'.heap.size w' w'') ∧
      ((diffP a b).length ≤ 5000 ∧ ∀ c ∈ diffP a b, c.Fits) ∧
      (∀ w', Below W.heap.size W w' → Calls Try.prog 17 #[.agg #[c1, i1, o1], .agg #[c2, i2, o2]] w' fun e w'' => ∃ r, e = .returned r ∧ w''.ownsRow w'.heap.size 34 4 r (diffP a b).length (chgsV (diffP a b)) ∧ Below w'.heap.size w' w'')) :=
    fun sa sb => ⟨fun w' hb => diff_any a b _ _ w' (k1.below hb (Nat.le_refl _)) (k2.below hb (Nat.le_refl _)) ((small_iff a).1 sa) ((small_iff b).1 sb),
      diffP_ok h1.inSt h2.inSt ((small_iff a).1 sa) ((small_iff b).1 sb),
      fun w' hb => rdiff_any a b _ _ w' (k1.below hb (Nat.le_refl _)) (k2.below hb (Nat.le_refl _)) ((small_iff a).1 sa) ((small_iff b).1 sb)⟩
  have HW := Lib.hid hW
  have HB0 := Lib.hid hB0
  clear k1 k2 p0 p1 p2 q r0 r1 r2 hs1 hB0 hW h1 h2 hWs
  generalize smallB a = S1 at *
  generalize smallB b = S2 at *
  generalize diffP a b = DD at *
  cases S1 with
  | false =>
    go_enter Try.func3, Try.ntmps3
    go_wp2_with fail
    rw [← HW.out]
    refine (awake_any _).mono ?_
    rintro e w1 ⟨rfl, hb1⟩
    obtain ⟨⟨m0, m1, m2⟩, n0, n1, n2⟩ := HCELL.out _ hb1
    have H1 := Lib.hid hb1
    clear hb1
    go_wp2_with fail
    refine (HSA.out _ H1.out).mono ?_
    rintro e w2 ⟨rfl, hb2⟩
    have HF2 := Lib.hid (below_next HB0.out (Nat.le_refl _) (below_next H1.out (Nat.le_refl _) hb2))
    clear hb2 m0 m1 m2 n0 n1 n2
    go_wp2
    go_ret
    exact ⟨rfl, HF2.out⟩
  | true =>
    go_enter Try.func3, Try.ntmps3
    go_wp2_with fail
    rw [← HW.out]
    refine (awake_any _).mono ?_
    rintro e w1 ⟨rfl, hb1⟩
    obtain ⟨⟨m0, m1, m2⟩, n0, n1, n2⟩ := HCELL.out _ hb1
    have H1 := Lib.hid hb1
    clear hb1
    go_wp2_with fail
    refine (HSA.out _ H1.out).mono ?_
    rintro e w2 ⟨rfl, hb2⟩
    have hb2' := below_next H1.out (Nat.le_refl _) hb2
    clear m0 m1 m2 n0 n1 n2 hb2
    obtain ⟨⟨m0, m1, m2⟩, n0, n1, n2⟩ := HCELL.out _ hb2'
    have H2 := Lib.hid hb2'
    clear hb2'
    go_wp2_with fail
    refine (HSB.out _ H2.out).mono ?_
    rintro e w3 ⟨rfl, hb3⟩
    have hb3' := below_next H2.out (Nat.le_refl _) hb3
    clear m0 m1 m2 n0 n1 n2 hb3
    obtain ⟨⟨m0, m1, m2⟩, n0, n1, n2⟩ := HCELL.out _ hb3'
    have H3 := Lib.hid hb3'
    clear hb3'
    cases S2 with
    | false =>
      have HF3 := Lib.hid (below_next HB0.out (Nat.le_refl _) H3.out)
      go_wp2
      go_ret
      exact ⟨rfl, HF3.out⟩
    | true =>
      have HX := H3
      have HDF := Lib.hid (HDI.out (by simp) (by simp)).1
      have HOK := Lib.hid (HDI.out (by simp) (by simp)).2.1
      have HRF := Lib.hid (HDI.out (by simp) (by simp)).2.2
      have hlen := HOK.out.1
      go_wp2_with fail
      go_region_held3 (fun w' => w'.cell? ⟨w.heap.size, 0, none⟩ = some c1 ∧ w'.cell? ⟨w.heap.size, 1, none⟩ = some i1 ∧ w'.cell? ⟨w.heap.size, 2, none⟩ = some o1 ∧ w'.cell? ⟨w.heap.size + 1, 0, none⟩ = some c2 ∧ w'.cell? ⟨w.heap.size + 1, 1, none⟩ = some i2 ∧ w'.cell? ⟨w.heap.size + 1, 2, none⟩ = some o2)
        (first | exact ⟨(HCELL.out _ HX.out).1.1, (HCELL.out _ HX.out).1.2.1, (HCELL.out _ HX.out).1.2.2, (HCELL.out _ HX.out).2.1, (HCELL.out _ HX.out).2.2.1, (HCELL.out _ HX.out).2.2.2⟩ | exact ⟨m0, m1, m2, n0, n1, n2⟩)
        (first
          | (go_at_call 16; refine (HDF.out _ (by first | exact HX.out | exact below_drew HX.out)).mono ?_; rintro e wa ⟨r1, rfl, hown1, hba⟩; have HX := Lib.hid (by first | exact below_next HX.out (Nat.le_refl _) hba | exact below_next' HX.out (Nat.le_refl _) hba : Below W.heap.size W wa); have HO1 := Lib.hid (ChgsAt.of_own hown1 HOK.out.2); clear hba hown1)
          | (go_at_call 15; refine (plain_any DD _ _ (by exact HO1.out) (by omega)).mono ?_; rintro e wb ⟨r2, rfl, hown2, hbb⟩; obtain ⟨a2, k2, rfl⟩ := own_form hown2; have HX := Lib.hid (by first | exact below_next HX.out (Nat.le_refl _) hbb | exact below_next' HX.out (Nat.le_refl _) hbb : Below W.heap.size W wb); have HO2 := Lib.hid (ChgsAt.of_own hown2 HOK.out.2); clear hbb hown2)
          | (go_at_call 17; refine (HRF.out _ (by first | exact HX.out | exact below_drew HX.out)).mono ?_; rintro e wc ⟨r3, rfl, hown3, hbc⟩; obtain ⟨a3, k3, rfl⟩ := own_form hown3; have HX := Lib.hid (by first | exact below_next HX.out (Nat.le_refl _) hbc | exact below_next' HX.out (Nat.le_refl _) hbc : Below W.heap.size W wc); have HO2' := Lib.hid (HO2.out.below hbc (Nat.le_refl _)); have HO3 := Lib.hid (ChgsAt.of_own hown3 HOK.out.2); clear hbc hown3 HO2))
      have HF3 := Lib.hid (below_next HB0.out (Nat.le_refl _) HX.out)
      generalize hn : DD.length = n at *
      have HN := Lib.hid hn.symm
      clear hn
      have he1 : ((n : Int) != (n : Int)) = false := by simp
      go_wp2
      go_loopg [7] n (fun q i wr => ∃ k : Nat, k + q = n ∧ i = .int .i64 k ∧ ∃ d, wr = wc.drewN d)
      case atStart => exact ⟨0, by omega, rfl, 0, rfl⟩
      case round =>
        obtain ⟨k, hk, rfl, d, rfl⟩ := hrel
        have Hk := Lib.hid hk
        have hkn : k ≤ n := by omega
        clear hk
        by_cases hlt : k < n
        · have hlt' : (k : Int) < (n : Int) := by omega
          have hk0 : (0 : Int) ≤ (k : Int) := Int.natCast_nonneg _
          obtain ⟨g2, f2, rfl, hg2, hq2⟩ := HO2'.out.1.get (by omega)
          obtain ⟨g3, f3, rfl, hg3, hq3⟩ := HO3.out.1.get (by omega)
          obtain ⟨x, hx⟩ := get_lt HN.out hlt
          obtain ⟨m0, m1, m2, m3⟩ := hq2 k x hx
          obtain ⟨n0, n1, n2, n3⟩ := hq3 k x hx
          obtain ⟨x0, x1, x2, x3⟩ := x
          simp only at m0 m1 m2 m3 n0 n1 n2 n3
          have z0 : (x0 == x0) = true := by simp
          have z1 : (x1 == x1) = true := by simp
          have z2 : (x2 == x2) = true := by simp
          have z3 : (x3 == x3) = true := by simp
          clear hq2 hq3 hx
          go_wp2_with fail
          go_quiet (fail)
          go_wp2
          have hk := Hk.out
          go_roundg (n - (k + 1))
          case measure => omega
          case rel => exact ⟨k + 1, by omega, by go_num, _, by first | rfl | exact World.drewN_drewN _ _ _⟩
        · have hge : ¬ (k : Int) < (n : Int) := by omega
          have HF4 := Lib.hid (drewN_below HF3.out d)
          go_wp2
          go_ret
          exact ⟨rfl, HF4.out⟩

open Go.ChangeShapes Go.WideShapes in
theorem diffslaw_top {H : Type} {enc : TypeId × Value → H} {r : Reach} {b0 : Nat} {w : World} {base : Nat} {sp : Nat → Bool} {held : Bool}
    (va : Value) (da : DataW H) (pa : List MemPlace) (ha : Value.okWide Try.prog w r b0 25 va) (ta : DataW.Trod enc Try.prog w base sp held 25 va da pa)
    (vb : Value) (db : DataW H) (pb : List MemPlace) (hb : Value.okWide Try.prog w r b0 25 vb) (tb : DataW.Trod enc Try.prog w base sp held 25 vb db pb) (w' : World) (hw : w' = w := by rfl) :
    Calls Try.prog 3 #[va, vb] w' fun e w'' => e = .returned (.bool true) ∧ Below w'.heap.size w' w'' := by
  subst hw
  obtain ⟨a, h1⟩ := st_open ha ta
  obtain ⟨b, h2⟩ := st_open hb tb
  exact diffslaw_any a b va vb _ h1 h2
end Go.Proofs.Ytpbbiidfahaamaa
