/- The walk of the law StateClones. -/
import Derived.Test.YtpbbiidfahaamaaStK1
namespace Go.Proofs.Ytpbbiidfahaamaa
open Go.RowKit

/-- a number stored into a block of numbers -/
theorem ints_poke {w : World} {B g : Nat} {u : Value} {l : List Int} (h : IntsNew B w u l) (j : Nat) (x : Int) : ∃ l', l'.length = l.length ∧ IntsNew B (w.setCell ⟨g, j, none⟩ (.int .i64 x)) u l' := by
  rcases h.2 with ⟨rfl, h0⟩ | ⟨g', cap, cur', rfl, hB, hg, r⟩
  · exact ⟨l, rfl, h.1, .inl ⟨rfl, h0⟩⟩
  · by_cases e : g = g'
    · subst e
      refine ⟨l.set j x, by simp, ?_⟩
      have := (h.stored j (.int .i64 x)).1
      unfold IntsNew
      rw [List.length_set]
      have hs : intsV (l.set j x) = (intsV l).set j (.int .i64 x) := by simp [intsV, List.map_set]
      rw [hs]
      exact this
    · exact ⟨l, rfl, h.kept (gr_set (gr_refl w g) j _) (.inr (by simp [Value.ownBlock]; omega))⟩

/-- a state in new memory, its numbers whatever they are -/
def Cl (B : Nat) (W0 w : World) (bc : Nat) (cv iv ov : Value) (vs : List Value) (N : List Nat) (ni no : Nat) : Prop :=
  Blk w bc 25 #[cv, iv, ov] ∧ (∃ L, L.map List.length = N ∧ RowsNew B w cv vs L) ∧ (∃ l, l.length = ni ∧ IntsNew B w iv l) ∧ (∃ l, l.length = no ∧ IntsNew B w ov l) ∧ Below B W0 w

theorem Cl.poke {B : Nat} {W0 w : World} {bc : Nat} {cv iv ov : Value} {vs : List Value} {N : List Nat} {ni no : Nat} (h : Cl B W0 w bc cv iv ov vs N ni no) {g : Nat} {cur : Array Value} (hb : Blk w g 3 cur) (hg : B ≤ g) (j : Nat) (x : Int) :
    Cl B W0 (w.setCell ⟨g, j, none⟩ (.int .i64 x)) bc cv iv ov vs N ni no := by
  obtain ⟨h1, ⟨L, hL, h2⟩, ⟨li, hli, h3⟩, ⟨lo, hlo, h4⟩, h5⟩ := h
  refine ⟨?_, ?_, ?_, ?_, h5.setCell (p := ⟨g, j, none⟩) hg _⟩
  · have hne : bc ≠ g := fun e => by
      subst e
      unfold Blk at h1 hb
      rw [h1] at hb
      injection hb with hb
      injection hb with _ hb
      exact absurd hb (by decide)
    exact (Below.heap_setCell w ⟨g, j, none⟩ _ bc hne).trans h1
  · -- rows, one by one
    have key : ∀ i : Nat, ∃ l' : List Int, (∀ l : List Int, L[i]? = some l → l'.length = l.length ∧ ∃ u, vs[i]? = some u ∧ IntsNew B (w.setCell ⟨g, j, none⟩ (.int .i64 x)) u l') := fun i => by
      cases hi : L[i]? with
      | none => exact ⟨[], fun l hl => by cases hl⟩
      | some l =>
        obtain ⟨u, hu, hn⟩ := h2.2 i l hi
        obtain ⟨l', hl', hn'⟩ := ints_poke hn (g := g) j x
        exact ⟨l', fun l2 e => by cases e; exact ⟨hl', u, hu, hn'⟩⟩
    obtain ⟨L', hL', hp⟩ := list_of L.length (fun (i : Nat) (l' : List Int) => ∀ l : List Int, L[i]? = some l → l'.length = l.length ∧ ∃ u, vs[i]? = some u ∧ IntsNew B (w.setCell ⟨g, j, none⟩ (.int .i64 x)) u l') (fun i _ => key i)
    refine ⟨L', ?_, ?_, ?_⟩
    · rw [← hL]
      apply List.ext_getElem?
      intro i
      rw [List.getElem?_map, List.getElem?_map]
      cases hi : L'[i]? with
      | none =>
        have : L.length ≤ i := by rw [← hL']; exact List.getElem?_eq_none_iff.1 hi
        rw [List.getElem?_eq_none this]
      | some l' =>
        have hlt : i < L.length := by rw [← hL']; exact (List.getElem?_eq_some_iff.1 hi).1
        rw [List.getElem?_eq_getElem hlt]
        simp only [Option.map_some, Option.some.injEq]
        exact (hp i l' hi _ (List.getElem?_eq_getElem hlt)).1
    · rw [hL']; exact own_set h2.1 hb (by decide) j _
    · intro i l' hi
      have hlt : i < L.length := by rw [← hL']; exact (List.getElem?_eq_some_iff.1 hi).1
      exact (hp i l' hi _ (List.getElem?_eq_getElem hlt)).2
  · obtain ⟨l', hl', hn⟩ := ints_poke h3 (g := g) j x
    exact ⟨l', hl'.trans hli, hn⟩
  · obtain ⟨l', hl', hn⟩ := ints_poke h4 (g := g) j x
    exact ⟨l', hl'.trans hlo, hn⟩

/-- a row that is read and written at j -/
theorem ints_cell {B : Nat} {w : World} {u : Value} {l : List Int} (h : IntsNew B w u l) {j : Nat} (hj : j < l.length) : ∃ g c x cur, u = .slice (some ⟨g, 0, none⟩) l.length c ∧ l.length ≤ c ∧ B ≤ g ∧ Blk w g 3 cur ∧ w.cell? ⟨g, j, none⟩ = some (.int .i64 x) ∧ w.frozen? ⟨g, j, none⟩ = false := by
  rcases h.2 with ⟨rfl, h0⟩ | ⟨g', cap, cur', rfl, hB, hg, hn, hm, hc, ht⟩
  · omega
  · refine ⟨g', cap, l[j], cur', rfl, hn, hB, hg, ?_, h.frozenAt j⟩
    rw [h.cellAt j (by omega)]
    simp [intsV, List.getElem?_map, List.getElem?_eq_getElem hj]
theorem rows_cell {B : Nat} {w : World} {c : Value} {vs : List Value} {L : List (List Int)} (h : RowsNew B w c vs L) {j : Nat} (hj : j < L.length) : ∃ g cc u, c = .slice (some ⟨g, 0, none⟩) L.length cc ∧ L.length ≤ cc ∧ vs[j]? = some u ∧ w.cell? ⟨g, j, none⟩ = some u ∧ IntsNew B w u L[j] := by
  obtain ⟨u, hu, hi⟩ := h.2 j _ (List.getElem?_eq_getElem hj)
  rcases h.1.2 with ⟨rfl, h0⟩ | ⟨g', cap, cur', rfl, hB, hg, hn, hm, hc, ht⟩
  · omega
  · exact ⟨g', cap, u, rfl, hn, hu, by rw [h.1.cellAt j (by omega)]; exact hu, hi⟩

theorem sized_of_small {s : St} (h : Small s) : Sized s ∧ s.cells.length ≤ 40 := by
  obtain ⟨h1, h2, h3, h4⟩ := h
  exact ⟨⟨by omega, by omega, fun l hl => by have := h4 l hl; omega⟩, h1⟩

set_option maxRecDepth 100000 in
set_option maxHeartbeats 8000000 in
theorem cloneslaw_any (s : St) (y : Int) (v : Value) (w : World) (h : StAt w v s) :
    Calls Try.prog 7 #[v, .int .i64 y] w fun e w' => e = .returned (.bool true) ∧ Below w.heap.size w w' := by
  obtain ⟨c1, i1, o1, rfl, h1, h2, h3⟩ := id h
  obtain ⟨a1, k1, rfl, -, -, -⟩ := id h1
  obtain ⟨⟨a2, k2, rfl, -, -, -⟩, -⟩ := id h2
  obtain ⟨⟨a3, k3, rfl, -, -, -⟩, -⟩ := id h3
  obtain ⟨n, hn⟩ : ∃ n, n = s.cells.length := ⟨_, rfl⟩
  rw [← hn] at h ⊢
  obtain ⟨W, hW⟩ : ∃ W, W = w.alloc (.cells #[.slice a1 n k1, .slice a2 s.inp.length k2, .slice a3 s.out.length k3] 25) := ⟨_, rfl⟩
  have hB0 : Below w.heap.size w W := by rw [hW]; exact below_alloc _ _
  have hk1 : Blk W w.heap.size 25 #[.slice a1 n k1, .slice a2 s.inp.length k2, .slice a3 s.out.length k3] := by rw [hW]; exact Blk.new _ _ _
  have hwW := hk1.lt
  have HS : Hid (∀ w', Below W.heap.size W w' → StAt w' (.agg #[.slice a1 n k1, .slice a2 s.inp.length k2, .slice a3 s.out.length k3]) s) := fun w' hb => (h.below hB0 (Nat.le_refl _)).below hb (Nat.le_refl _)
  have HCELL : Hid (∀ w', Below W.heap.size W w' → w'.cell? ⟨w.heap.size, 0, none⟩ = some (.slice a1 n k1) ∧ w'.cell? ⟨w.heap.size, 1, none⟩ = some (.slice a2 s.inp.length k2) ∧ w'.cell? ⟨w.heap.size, 2, none⟩ = some (.slice a3 s.out.length k3)) :=
    fun w' hb => ⟨cell_below hb hwW (hk1.cell 0), cell_below hb hwW (hk1.cell 1), cell_below hb hwW (hk1.cell 2)⟩
  have hin := h.inSt
  have HW := Lib.hid hW
  have HB0 := Lib.hid hB0
  have HIN := Lib.hid hin
  have HN := Lib.hid hn
  have HX : Hid (Below W.heap.size W W) := Below.refl _ _
  clear h h1 h2 h3 hW hB0 hk1 hin hn
  by_cases hS : smallB s = true
  case neg =>
    have hS' : (if smallB s = true then (1 : Int) else 0) = 0 := if_neg hS
    have HSM : Hid (∀ w', Below W.heap.size W w' → Calls Try.prog 14 #[.agg #[.slice a1 n k1, .slice a2 s.inp.length k2, .slice a3 s.out.length k3]] w' fun e w'' => e = .returned (.int .i64 0) ∧ Below w'.heap.size w' w'') := fun w' hb => by
      have := small_any s _ w' (HS.out w' hb)
      rwa [hS'] at this
    clear hS hS'
    go_enter Try.func7, Try.ntmps7
    go_wp2_with fail
    rw [← HW.out]
    refine (awake_any _).mono ?_
    rintro e w2 ⟨rfl, hb2⟩
    have HX := Lib.hid (below_next HX.out (Nat.le_refl _) hb2)
    clear hb2
    obtain ⟨c0, c1, c2⟩ := HCELL.out _ HX.out
    go_wp2_with fail
    refine (HSM.out _ HX.out).mono ?_
    rintro e w3 ⟨rfl, hb3⟩
    have HX := Lib.hid (below_next HX.out (Nat.le_refl _) hb3)
    clear hb3 c0 c1 c2
    go_wp2_with fail
    go_ret
    exact ⟨rfl, below_next HB0.out (Nat.le_refl _) HX.out⟩
  have hsm := (small_iff s).1 hS
  obtain ⟨hz, hc40⟩ := sized_of_small hsm
  have hS' : (if smallB s = true then (1 : Int) else 0) = 1 := if_pos hS
  have HSM : Hid (∀ w', Below W.heap.size W w' → Calls Try.prog 14 #[.agg #[.slice a1 n k1, .slice a2 s.inp.length k2, .slice a3 s.out.length k3]] w' fun e w'' => e = .returned (.int .i64 1) ∧ Below w'.heap.size w' w'') := fun w' hb => by
    have := small_any s _ w' (HS.out w' hb)
    rwa [hS'] at this
  have hn40 : n ≤ 40 := by rw [HN.out]; exact hc40
  have hni : s.inp.length ≤ 60 := hsm.2.1
  have hno : s.out.length ≤ 60 := hsm.2.2.1
  have HRC : Hid (∀ w', Below W.heap.size W w' → Calls Try.prog 26 #[.agg #[.slice a1 n k1, .slice a2 s.inp.length k2, .slice a3 s.out.length k3]] w' fun e w'' => ∃ r, e = .returned r ∧ StNew w'.heap.size w'' r s ∧ Below w'.heap.size w' w'') := fun w' hb => rclone_any s _ w' (HS.out w' hb) hz (by omega)
  have HSC : Hid (∀ w', Below W.heap.size W w' → Calls Try.prog 27 #[.agg #[.slice a1 n k1, .slice a2 s.inp.length k2, .slice a3 s.out.length k3]] w' fun e w'' => ∃ r, e = .returned r ∧ StNew w'.heap.size w'' r s ∧ Below w'.heap.size w' w'') := fun w' hb => sclone_any s _ w' (HS.out w' hb) hz (by omega)
  have hd : decide (s = s) = true := decide_eq_true rfl
  have HEQ : Hid (∀ (u : Value) (w' : World), Below W.heap.size W w' → StAt w' u s → Calls Try.prog 24 #[u, .agg #[.slice a1 n k1, .slice a2 s.inp.length k2, .slice a3 s.out.length k3]] w' fun e w'' => e = .returned (.bool true) ∧ Below w'.heap.size w' w'') := fun u w' hb hu => by
    have := equal_any s s _ _ w' hu (HS.out w' hb)
    rwa [hd] at this
  have HRE : Hid (∀ (u : Value) (w' : World), Below W.heap.size W w' → StAt w' u s → Calls Try.prog 20 #[.agg #[.slice a1 n k1, .slice a2 s.inp.length k2, .slice a3 s.out.length k3], u] w' fun e w'' => e = .returned (.bool true) ∧ Below w'.heap.size w' w'') := fun u w' hb hu => by
    have := requal_any s s _ _ w' (HS.out w' hb) hu
    rwa [hd] at this
  have HSM60 : Hid (∀ x ∈ s.cells.map List.length, x ≤ 60) := fun x hx => by
    obtain ⟨l, hl, rfl⟩ := List.mem_map.1 hx
    exact hsm.2.2.2 l hl
  clear hS hsm hz hS' hd hc40 HS
  go_enter Try.func7, Try.ntmps7
  go_wp2_with fail
  rw [← HW.out]
  refine (awake_any _).mono ?_
  rintro e w2 ⟨rfl, hb2⟩
  have HX := Lib.hid (below_next HX.out (Nat.le_refl _) hb2)
  clear hb2
  obtain ⟨c0, c1, c2⟩ := HCELL.out _ HX.out
  go_wp2_with fail
  refine (HSM.out _ HX.out).mono ?_
  rintro e w3 ⟨rfl, hb3⟩
  have HX := Lib.hid (below_next HX.out (Nat.le_refl _) hb3)
  clear hb3 c0 c1 c2
  obtain ⟨c0, c1, c2⟩ := HCELL.out _ HX.out
  go_wp2_with fail
  refine (HRC.out _ HX.out).mono ?_
  rintro e w4 ⟨r4, rfl, hr4, hb4⟩
  have HX := Lib.hid (below_next HX.out (Nat.le_refl _) hb4)
  have hat4 := hr4.at_ HIN.out
  obtain ⟨cw, iw, ow, vsw, rfl, hRw, hIw, hOw⟩ := hr4
  obtain ⟨acw, ccw, rfl⟩ := own_form hRw.1
  obtain ⟨aiw, ciw, rfl⟩ := own_form hIw
  obtain ⟨aow, cow, rfl⟩ := own_form hOw
  rw [← HN.out] at hat4 ⊢
  obtain ⟨W4, hW4⟩ : ∃ W4, W4 = w4.alloc (.cells #[.slice acw n ccw, .slice aiw s.inp.length ciw, .slice aow s.out.length cow] 25) := ⟨_, rfl⟩
  have hb44 : Below w4.heap.size w4 W4 := by rw [hW4]; exact below_alloc _ _
  have hbk4 : Blk W4 w4.heap.size 25 #[.slice acw n ccw, .slice aiw s.inp.length ciw, .slice aow s.out.length cow] := by rw [hW4]; exact Blk.new _ _ _
  have hlt4 := hbk4.lt
  have HX := Lib.hid (below_next HX.out (Nat.le_refl _) hb44)
  have HX4 := HX
  have HWAS : Hid (∀ w', Below W4.heap.size W4 w' → StAt w' (.agg #[.slice acw n ccw, .slice aiw s.inp.length ciw, .slice aow s.out.length cow]) s ∧ w'.cell? ⟨w4.heap.size, 0, none⟩ = some (.slice acw n ccw) ∧ w'.cell? ⟨w4.heap.size, 1, none⟩ = some (.slice aiw s.inp.length ciw) ∧ w'.cell? ⟨w4.heap.size, 2, none⟩ = some (.slice aow s.out.length cow)) :=
    fun w' hb => ⟨(hat4.below hb44 (Nat.le_refl _)).below hb (Nat.le_refl _), cell_below hb hlt4 (hbk4.cell 0), cell_below hb hlt4 (hbk4.cell 1), cell_below hb hlt4 (hbk4.cell 2)⟩
  have HW4 := Lib.hid hW4
  clear hb4 c0 c1 c2 hat4 hRw hIw hOw hW4 hb44 hbk4
  obtain ⟨c0, c1, c2⟩ := HCELL.out _ HX.out
  rw [HW4.out] at c0 c1 c2
  go_wp2_with fail
  rw [← HW4.out]
  refine (HSC.out _ HX.out).mono ?_
  rintro e w5 ⟨r5, rfl, hr5, hb5⟩
  have hat5 := hr5.at_ HIN.out
  obtain ⟨cv, iv, ov, vs, rfl, hRv, hIv, hOv⟩ := hr5
  obtain ⟨acv, ccv, rfl⟩ := own_form hRv.1
  obtain ⟨aiv, civ, rfl⟩ := own_form hIv
  obtain ⟨aov, cov, rfl⟩ := own_form hOv
  rw [← HN.out] at hat5 hRv ⊢
  obtain ⟨W5, hW5⟩ : ∃ W5, W5 = w5.alloc (.cells #[.slice acv n ccv, .slice aiv s.inp.length civ, .slice aov s.out.length cov] 25) := ⟨_, rfl⟩
  have hb55 : Below w5.heap.size w5 W5 := by rw [hW5]; exact below_alloc _ _
  have hbk5 : Blk W5 w5.heap.size 25 #[.slice acv n ccv, .slice aiv s.inp.length civ, .slice aov s.out.length cov] := by rw [hW5]; exact Blk.new _ _ _
  have hlt5 := hbk5.lt
  have HY := Lib.hid (below_next hb5 (Nat.le_refl _) hb55)
  have HX := Lib.hid (below_next HX.out (Nat.le_refl _) HY.out)
  have HCL : Hid (Cl W4.heap.size W4 W5 w5.heap.size (.slice acv n ccv) (.slice aiv s.inp.length civ) (.slice aov s.out.length cov) vs (s.cells.map List.length) s.inp.length s.out.length) :=
    ⟨hbk5, ⟨s.cells, rfl, hRv.next hb55⟩, ⟨s.inp, rfl, hIv.next hb55⟩, ⟨s.out, rfl, hOv.next hb55⟩, HY.out⟩
  have HC := Lib.hid (HEQ.out _ _ HX.out (hat5.below hb55 (Nat.le_refl _)))
  have HW5 := Lib.hid hW5
  have d0 := hbk5.cell 0
  have d1 := hbk5.cell 1
  have d2 := hbk5.cell 2
  clear hb5 c0 c1 c2 hat5 hRv hIv hOv hb55 hbk5
  obtain ⟨c0, c1, c2⟩ := HCELL.out _ HX.out
  rw [hW5] at c0 c1 c2 d0 d1 d2
  clear hW5
  go_wp2_with fail
  rw [← HW5.out]
  refine HC.out.mono ?_
  rintro e w6 ⟨rfl, hb6⟩
  have HCL : Hid (Cl W4.heap.size W4 w6 w5.heap.size (.slice acv n ccv) (.slice aiv s.inp.length civ) (.slice aov s.out.length cov) vs (s.cells.map List.length) s.inp.length s.out.length) := by
    obtain ⟨q1, ⟨L, q2, q3⟩, ⟨l1, q4, q5⟩, ⟨l2, q6, q7⟩, q8⟩ := HCL.out
    exact ⟨q1.next hb6, ⟨L, q2, q3.next hb6⟩, ⟨l1, q4, q5.next hb6⟩, ⟨l2, q6, q7.next hb6⟩, below_next q8 (Nat.le_refl _) hb6⟩
  have HX := Lib.hid (below_next HX.out (Nat.le_refl _) hb6)
  clear hb6 c0 c1 c2 d0 d1 d2 HC HSM HRC HSC HEQ
  have HNL : Hid (∀ L : List (List Int), L.map List.length = s.cells.map List.length → L.length = n) := fun L hL => by
    have := congrArg List.length hL
    rw [List.length_map, List.length_map, ← HN.out] at this
    exact this
  have HBX : Hid (∀ w', Below W4.heap.size W4 w' → Below W.heap.size W w') := fun w' hb => below_next HX4.out (Nat.le_refl _) hb
  have hn63 : n ≤ 9223372036854775807 := by omega
  go_wp2_with fail
  go_loopg [7] n (fun q i wr => ∃ k : Nat, k + q = n ∧ i = .int .i64 k ∧ Cl W4.heap.size W4 wr w5.heap.size (.slice acv n ccv) (.slice aiv s.inp.length civ) (.slice aov s.out.length cov) vs (s.cells.map List.length) s.inp.length s.out.length)
  case atStart => exact ⟨0, by omega, rfl, HCL.out⟩
  case round =>
    obtain ⟨k, hk, rfl, hcl⟩ := hrel
    have Hk := Lib.hid hk
    have hkn : k ≤ n := by omega
    clear hk
    have HCL := Lib.hid hcl
    obtain ⟨qb, ⟨L, hL, hR⟩, -, -, -⟩ := hcl
    have f0 := qb.cell 0
    have f1 := qb.cell 1
    have f2 := qb.cell 2
    clear qb
    by_cases hlt : k < n
    · have hlt' : (k : Int) < (n : Int) := by omega
      have hk0 : (0 : Int) ≤ (k : Int) := by omega
      have hLn := HNL.out L hL
      obtain ⟨g, cc, u, e1, hcc, hvs, hcell, hin⟩ := rows_cell hR (j := k) (by omega)
      obtain ⟨rfl, e2⟩ : acv = some ⟨g, 0, none⟩ ∧ ccv = cc := by rw [hLn] at e1; simp at e1; exact e1
      obtain ⟨au, cu, rfl⟩ := own_form hin
      obtain ⟨mu, hmu⟩ : ∃ mu, mu = L[k].length := ⟨_, rfl⟩
      rw [← hmu] at hvs hcell
      have hNk : (s.cells.map List.length)[k]? = some mu := by
        rw [← hL, List.getElem?_map, List.getElem?_eq_getElem (by omega), hmu]; rfl
      have hmu60 : mu ≤ 60 := HSM60.out mu (List.mem_of_getElem? hNk)
      have HVS := Lib.hid hvs
      have HNK := Lib.hid hNk
      clear hL hR hin hmu hvs hNk e1 e2 hcc hcell f1 f2
      go_wp2_with fail
      obtain ⟨wo, hwo⟩ : ∃ wo : World, wo = wr := ⟨_, rfl⟩
      subst hwo
      go_loopg [8] mu (fun q i wr => ∃ j : Nat, j + q = mu ∧ i = .int .i64 j ∧ Cl W4.heap.size W4 wr w5.heap.size (.slice (some ⟨g, 0, none⟩) n ccv) (.slice aiv s.inp.length civ) (.slice aov s.out.length cov) vs (s.cells.map List.length) s.inp.length s.out.length)
      case atStart => exact ⟨0, by omega, rfl, HCL.out⟩
      case round =>
        obtain ⟨j, hj, rfl, hcl⟩ := hrel
        have Hj := Lib.hid hj
        have hjm : j ≤ mu := by omega
        clear hj
        have HCL := Lib.hid hcl
        obtain ⟨qb, ⟨L, hL, hR⟩, -, -, -⟩ := hcl
        have f0 := qb.cell 0
        have hLn := HNL.out L hL
        obtain ⟨g', cc', u, e1, hcc, hvs, hcell, hin⟩ := rows_cell hR (j := k) (by omega)
        obtain ⟨rfl, -⟩ : g = g' ∧ True := by simp at e1; exact ⟨e1.1, trivial⟩
        obtain rfl : u = .slice au mu cu := by rw [HVS.out] at hvs; exact (Option.some.inj hvs).symm
        have hmu : L[k].length = mu := by
          have := HNK.out
          rw [← hL, List.getElem?_map, List.getElem?_eq_getElem (by omega)] at this
          exact Option.some.inj this
        clear qb hL hR hvs e1 hcc
        by_cases hltj : j < mu
        · have hltj' : (j : Int) < (mu : Int) := by omega
          have hj0 : (0 : Int) ≤ (j : Int) := by omega
          obtain ⟨gu, c', x, cur, e1, hc', hB, hblk, hcell2, hfr⟩ := ints_cell hin (j := j) (by omega)
          obtain ⟨rfl, e2⟩ : au = some ⟨gu, 0, none⟩ ∧ cu = c' := by simp at e1; exact ⟨e1.1, e1.2.2⟩
          have HCL2 := Lib.hid (HCL.out.poke hblk hB j (wrap64 (x + y)))
          clear e1 e2 hc' hin hmu hblk HCL hB
          go_wp2_with fail
          have hj := Hj.out
          go_roundg (mu - (j + 1))
          case measure => omega
          case rel => exact ⟨j + 1, by omega, by go_num, HCL2.out⟩
        · have hgej : ¬ (j : Int) < (mu : Int) := by omega
          clear hin hmu
          go_wp2_with fail
          have hk := Hk.out
          go_roundg (n - (k + 1))
          case measure => omega
          case rel => exact ⟨k + 1, by omega, by go_num, HCL.out⟩
    · have hge : ¬ (k : Int) < (n : Int) := by omega
      clear hL hR
      go_wp2_with fail
      go_loopg [9] (s.inp.length) (fun q i wr => ∃ j : Nat, j + q = s.inp.length ∧ i = .int .i64 j ∧ Cl W4.heap.size W4 wr w5.heap.size (.slice acv n ccv) (.slice aiv s.inp.length civ) (.slice aov s.out.length cov) vs (s.cells.map List.length) s.inp.length s.out.length)
      case atStart => exact ⟨0, by omega, rfl, HCL.out⟩
      case round =>
        obtain ⟨j, hj, rfl, hcl⟩ := hrel
        have Hj := Lib.hid hj
        have hjm : j ≤ s.inp.length := by omega
        clear hj
        have HCL := Lib.hid hcl
        obtain ⟨qb, qr, ⟨li, hli, hii⟩, ⟨lo, hlo, hoo⟩, q8⟩ := hcl
        have f0 := qb.cell 1
        clear qr qb
        by_cases hlt : j < s.inp.length
        · have hlt' : (j : Int) < (s.inp.length : Int) := by omega
          have hj0 : (0 : Int) ≤ (j : Int) := by omega
          obtain ⟨g, c', x, cur, e1, hc', hB, hblk, hcell, hfr⟩ := ints_cell hii (j := j) (by omega)
          obtain ⟨rfl, e2⟩ : aiv = some ⟨g, 0, none⟩ ∧ civ = c' := by simp at e1; exact ⟨e1.1, e1.2.2⟩
          have HCL2 := Lib.hid (HCL.out.poke hblk hB j (wrap64 (x + y)))
          clear e1 e2 hc' hii hoo hli hlo q8 hblk HCL hB
          go_wp2_with fail
          have hj := Hj.out
          go_roundg (s.inp.length - (j + 1))
          case measure => omega
          case rel => exact ⟨j + 1, by omega, by go_num, HCL2.out⟩
        · have hge : ¬ (j : Int) < (s.inp.length : Int) := by omega
          clear hii hoo hli hlo q8
          go_wp2_with fail
          clear f0
          go_loopg [10] (s.out.length) (fun q i wr => ∃ j : Nat, j + q = s.out.length ∧ i = .int .i64 j ∧ Cl W4.heap.size W4 wr w5.heap.size (.slice acv n ccv) (.slice aiv s.inp.length civ) (.slice aov s.out.length cov) vs (s.cells.map List.length) s.inp.length s.out.length)
          case atStart => exact ⟨0, by omega, rfl, HCL.out⟩
          case round =>
            obtain ⟨j, hj, rfl, hcl⟩ := hrel
            have Hj := Lib.hid hj
            have hjm : j ≤ s.out.length := by omega
            clear hj
            have HCL := Lib.hid hcl
            obtain ⟨qb, qr, ⟨li, hli, hii⟩, ⟨lo, hlo, hoo⟩, q8⟩ := hcl
            have f0 := qb.cell 2
            clear qr qb
            by_cases hlt : j < s.out.length
            · have hlt' : (j : Int) < (s.out.length : Int) := by omega
              have hj0 : (0 : Int) ≤ (j : Int) := by omega
              obtain ⟨g, c', x, cur, e1, hc', hB, hblk, hcell, hfr⟩ := ints_cell hoo (j := j) (by omega)
              obtain ⟨rfl, e2⟩ : aov = some ⟨g, 0, none⟩ ∧ cov = c' := by simp at e1; exact ⟨e1.1, e1.2.2⟩
              have HCL2 := Lib.hid (HCL.out.poke hblk hB j (wrap64 (x + y)))
              clear e1 e2 hc' hii hoo hli hlo q8 hblk HCL hB
              go_wp2_with fail
              have hj := Hj.out
              go_roundg (s.out.length - (j + 1))
              case measure => omega
              case rel => exact ⟨j + 1, by omega, by go_num, HCL2.out⟩
            · have hge : ¬ (j : Int) < (s.out.length : Int) := by omega
              clear hii hoo hli hlo q8
              obtain ⟨c0, c1, c2⟩ := HCELL.out _ (HBX.out _ HCL.out.2.2.2.2)
              obtain ⟨hst, d0, d1, d2⟩ := HWAS.out _ HCL.out.2.2.2.2
              have HC := Lib.hid (HRE.out _ _ (HBX.out _ HCL.out.2.2.2.2) hst)
              clear hst
              go_wp2_with fail
              refine HC.out.mono ?_
              rintro e w9 ⟨rfl, hb9⟩
              have HF := Lib.hid (below_next HB0.out (Nat.le_refl _) (below_next (HBX.out _ HCL.out.2.2.2.2) (Nat.le_refl _) hb9))
              clear hb9 HC c0 c1 c2 d0 d1 d2
              go_wp2_with fail
              go_ret
              exact ⟨rfl, HF.out⟩

open Go.ChangeShapes Go.WideShapes in
theorem cloneslaw_top {H : Type} {enc : TypeId × Value → H} {r : Reach} {b0 : Nat} {w : World} {base : Nat} {sp : Nat → Bool} {held : Bool} (va : Value) (da : DataW H) (pa : List MemPlace) (ha : Value.okWide Try.prog w r b0 25 va) (ta : DataW.Trod enc Try.prog w base sp held 25 va da pa)
    (y : Int) (_wy : (Lit.int .i64 y).wf = true) (w' : World) (hw : w' = w := by rfl) :
    Calls Try.prog 7 #[va, .int .i64 y] w' fun e w'' => e = .returned (.bool true) ∧ Below w'.heap.size w' w'' := by
  subst hw
  obtain ⟨a, h1⟩ := st_open ha ta
  exact cloneslaw_any a y va _ h1
end Go.Proofs.Ytpbbiidfahaamaa
