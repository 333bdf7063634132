/- The walk of swap; stores into the row of stacks. -/
import Derived.Test.YtichiccohmeecaaDoorWhC2
namespace Go.Proofs.YtichiccohmeecaaDoor
open Go.RowKit

theorem getD_of {l : List (List Int)} {i : Nat} {x : List Int} (h : l[i]? = some x) : l.getD i [] = x := by
  rw [List.getD_eq_getElem?_getD, h]; rfl
/-- a store into the row of stacks -/
theorem MachW.stkput {F : Nat → Prop} {w : World} {g gS n c : Nat} {m : Mach} {V : MV} (h : MachW F w g m V) (hv : V.vS = .slice (some ⟨gS, 0, none⟩) n c) (k : Nat) (u : Value) (l : List Int) (hu : IntsIn (RO F g V) w u l) :
    MachW F (w.setCell ⟨gS, k, none⟩ u) g { m with S := m.S.set k l } { V with us := V.us.set k u } := by
  have hm := h.stk
  rw [hv] at hm
  have hb : V.vS.ownBlock = some gS := by rw [hv]; rfl
  have hgM : g ≠ gS := by
    have := h.blk.own_ne h.stk (by decide)
    rw [hb] at this
    exact fun e => this (by rw [e])
  have hn : n = m.S.length := by
    rcases hm.2 with ⟨h0, _⟩ | ⟨_, _, _, he, _⟩
    · cases h0
    · injection he
  refine ⟨h.own, h.blk.far (p := ⟨gS, k, none⟩) hgM _, ?_, h.memF, ?_, h.stkF, fun i l' hl => ?_, h.acts.set_far (RO.not_stk hb) _ _, h.inp.set_far (RO.not_stk hb) _ _, h.out.set_far (RO.not_stk hb) _ _⟩
  · refine ownsRow_setCell_other h.mem (a := ⟨gS, k, none⟩) ?_ _
    rcases own_own_ne h.mem h.stk (by decide) with h0 | h0
    · rw [h0]; simp
    · rw [hb] at h0; exact h0
  · have := (World.ownsRow.stored (n := m.S.length) (by rw [hn] at hm; exact hm) k u).1
    show World.ownsRow _ 0 _ 1 V.vS (m.S.set k l).length (V.us.set k u)
    rw [hv, hn, List.length_set]
    exact this
  · show ∃ u', (V.us.set k u)[i]? = some u' ∧ IntsIn (RO F g V) _ u' l'
    by_cases hik : k = i
    · subst hik
      have hlt := (List.getElem?_eq_some_iff.1 hl).1
      have hlt' : k < m.S.length := by simpa using hlt
      have hlu : k < V.us.length := by have := h.stk.1; omega
      have hl : (m.S.set k l)[k]? = some l' := hl
      rw [List.getElem?_set_self hlt'] at hl
      obtain rfl := Option.some.inj hl
      exact ⟨u, by rw [List.getElem?_set_self hlu], hu.set_far (RO.not_stk hb) _ _⟩
    · have hl : (m.S.set k l)[i]? = some l' := hl
      rw [List.getElem?_set_ne hik] at hl
      obtain ⟨x, h1, h2⟩ := h.rows i l' hl
      exact ⟨x, by rw [List.getElem?_set_ne hik]; exact h1, h2.set_far (RO.not_stk hb) _ _⟩
theorem stk_form {F : Nat → Prop} {w : World} {g : Nat} {m : Mach} {V : MV} (h : MachW F w g m V) (hk : 0 < m.S.length) :
    ∃ gS c, V.vS = .slice (some ⟨gS, 0, none⟩) m.S.length c ∧ m.S.length ≤ c ∧ c ≤ maxLen ∧ g ≠ gS ∧ gS < w.heap.size ∧ F gS ∧ (∀ i, w.frozen? ⟨gS, i, none⟩ = false) ∧
      ∀ k, k < m.S.length → ∃ a cc, w.cell? ⟨gS, k, none⟩ = some (.slice a (m.S.getD k []).length cc) ∧ (m.S.getD k []).length ≤ cc ∧ cc ≤ maxLen ∧ IntsIn (RO F g V) w (.slice a (m.S.getD k []).length cc) (m.S.getD k []) := by
  rcases h.stk.2 with ⟨_, h0⟩ | ⟨gS, cap, cur, hv, hb, hg, hn, hm, hc, ht⟩
  · omega
  · have ho := h.stk
    rw [hv] at ho
    refine ⟨gS, cap, hv, hn, hm, ?_, (Array.getElem?_eq_some_iff.1 hg).1, h.stkF gS (by rw [hv]; rfl), fun i => ho.frozenAt i, fun k hk => ?_⟩
    · have := h.blk.own_ne h.stk (by decide)
      rw [hv] at this
      exact fun e => this (by rw [e]; rfl)
    · obtain ⟨u, h1, h2⟩ := h.rows k _ (List.getElem?_eq_getElem hk)
      have e : m.S.getD k [] = m.S[k] := getD_of (List.getElem?_eq_getElem hk)
      rw [e]
      obtain ⟨⟨a, cc, rfl, b1, b2, b3⟩, -⟩ := id h2
      exact ⟨a, cc, by rw [ho.cellAt k (by omega), h1], b1, b2, h2⟩

theorem swap_full {i j : Nat} {p q : Nat} (h : (i ≠ 0 ∧ 1000 < q) ∨ (j ≠ 0 ∧ 1000 < p)) : ((i : Int) != 0 && decide (1000 < q) || (j : Int) != 0 && decide (1000 < p)) = true := by
  simp; omega
theorem swap_not {i j : Nat} {p q : Nat} (h : (i = 0 ∨ q ≤ 1000) ∧ (j = 0 ∨ p ≤ 1000)) : ¬ ((i : Int) != 0 && decide (1000 < q) || (j : Int) != 0 && decide (1000 < p)) = true := by
  simp; omega

set_option maxRecDepth 100000 in
set_option maxHeartbeats 8000000 in
theorem swap_any (F : Nat → Prop) (g : Nat) (m : Mach) (V : MV) (w : World) (h : MachW F w g m V) (k l : Int) (hk0 : 0 ≤ k) (hk1 : k ≤ 16384) (hl0 : 0 ≤ l) (hl1 : l ≤ 16384) (hs0 : 0 ≤ m.sb) (hs1 : m.sb ≤ 16384) (hl : m.S.length ≤ 16384) :
    Calls Tryd.prog 52 #[.pointer (some ⟨g, 0, none⟩), .int .i64 k, .int .i64 l] w (ExecR F w g (swapP m k l)) := by
  have HW := Lib.hid h
  have HFK : Hid (∀ w', MachW F w' g m V → Calls Tryd.prog 57 #[.pointer (some ⟨g, 0, none⟩), .int .i64 k] w' fun e w'' => e = .returned (.tuple #[.int .i64 (find m k), .bool (decide (find m k < m.S.length))]) ∧ ∃ q, w'' = w'.drewN q) := Lib.hid (fun w' hw => find_any F g m V w' hw k hk0 hk1 hs0 hs1 hl)
  have HFL : Hid (∀ w', MachW F w' g m V → Calls Tryd.prog 57 #[.pointer (some ⟨g, 0, none⟩), .int .i64 l] w' fun e w'' => e = .returned (.tuple #[.int .i64 (find m l), .bool (decide (find m l < m.S.length))]) ∧ ∃ q, w'' = w'.drewN q) := Lib.hid (fun w' hw => find_any F g m V w' hw l hl0 hl1 hs0 hs1 hl)
  have hx0 := (find_pos hk0 hs0).1
  have hy0 := (find_pos hl0 hs0).1
  unfold swapP
  generalize find m k = x at *
  generalize find m l = y at *
  dsimp only
  by_cases h1 : (m.S.length : Int) ≤ x
  · rw [if_pos h1]
    rw [show decide (x < (m.S.length : Int)) = false from decide_eq_false (by omega)] at HFK
    clear h hx0 hy0 h1 hk0 hk1 hl0 hl1 hs0 hs1 hl
    go_enter Tryd.func52, Tryd.ntmps52
    go_wp2_with fail
    refine (HFK.out _ HW.out).mono ?_
    rintro e w1 ⟨rfl, q, rfl⟩
    go_wp2
    go_ret
    exact exec_done (HW.out.drewN _) ((Touch.refl F w).drewN _) rfl
  rw [if_neg h1]
  by_cases h2 : (m.S.length : Int) ≤ y
  · rw [if_pos h2]
    rw [show decide (x < (m.S.length : Int)) = true from decide_eq_true (by omega)] at HFK
    rw [show decide (y < (m.S.length : Int)) = false from decide_eq_false (by omega)] at HFL
    clear h hx0 hy0 h1 h2 hk0 hk1 hl0 hl1 hs0 hs1 hl
    go_enter Tryd.func52, Tryd.ntmps52
    go_wp2_with fail
    refine (HFK.out _ HW.out).mono ?_
    rintro e w1 ⟨rfl, q, rfl⟩
    go_wp2_with fail
    refine (HFL.out _ (HW.out.drewN q)).mono ?_
    rintro e w1 ⟨rfl, q2, rfl⟩
    go_wp2
    go_ret
    exact exec_done (HW.out.drewN _) ((Touch.refl F w).drewN _) rfl
  rw [if_neg h2]
  rw [show decide (x < (m.S.length : Int)) = true from decide_eq_true (by omega)] at HFK
  rw [show decide (y < (m.S.length : Int)) = true from decide_eq_true (by omega)] at HFL
  obtain ⟨i, rfl⟩ := Int.eq_ofNat_of_zero_le hx0
  obtain ⟨j, rfl⟩ := Int.eq_ofNat_of_zero_le hy0
  have hi : i < m.S.length := by omega
  have hj : j < m.S.length := by omega
  simp only [Int.toNat_natCast]
  obtain ⟨Li, hLi⟩ : ∃ Li, m.S.getD i [] = Li := ⟨_, rfl⟩
  obtain ⟨Lj, hLj⟩ : ∃ Lj, m.S.getD j [] = Lj := ⟨_, rfl⟩
  have e1 : stk m (i : Int) = Li := hLi
  have e2 : stk m (j : Int) = Lj := hLj
  rw [e1, e2]
  clear e1 e2
  obtain ⟨R, hR⟩ : ∃ R, (if ((i : Int) != 0 && decide (1000 < Lj.length) || (j : Int) != 0 && decide (1000 < Li.length)) = true then ((5 : Int), m) else (0, { m with S := (m.S.set i Lj).set j Li })) = R := ⟨_, rfl⟩
  rw [hR]
  have HR := Lib.hid hR
  have HWA : Hid (∀ q, ∃ gS c ai ci aj cj v', V.vS = .slice (some ⟨gS, 0, none⟩) m.S.length c ∧ m.S.length ≤ c ∧ c ≤ maxLen ∧ g ≠ gS ∧ (w.drewN q).cell? ⟨g, 19, none⟩ = some (.slice (some ⟨gS, 0, none⟩) m.S.length c) ∧
      (w.drewN q).cell? ⟨gS, i, none⟩ = some (.slice ai Li.length ci) ∧ (w.drewN q).cell? ⟨gS, j, none⟩ = some (.slice aj Lj.length cj) ∧ (w.drewN q).frozen? ⟨gS, i, none⟩ = false ∧ (w.drewN q).frozen? ⟨gS, j, none⟩ = false ∧
      ((w.drewN q).setCell ⟨gS, i, none⟩ (.slice aj Lj.length cj)).cell? ⟨gS, j, none⟩ = some v' ∧ Li.length ≤ maxLen ∧ Lj.length ≤ maxLen ∧
      Hid (ExecR F w g (0, { m with S := (m.S.set i Lj).set j Li }) (.returned (.int .i64 0)) (((w.drewN q).setCell ⟨gS, i, none⟩ (.slice aj Lj.length cj)).setCell ⟨gS, j, none⟩ (.slice ai Li.length ci)).drew)) := by
    refine Lib.hid (fun q => ?_)
    have hq := h.drewN q
    obtain ⟨gS, c, hv, b1, b2, b3, b4, b5, b6, cells⟩ := stk_form hq (by omega)
    obtain ⟨ai, ci, yi, i1, i2, Ii⟩ := cells i hi
    obtain ⟨aj, cj, yj, j1, j2, Ij⟩ := cells j hj
    rw [hLi] at yi i1 Ii
    rw [hLj] at yj j1 Ij
    have hs := hq.stkput hv i _ _ Ij
    have hb : V.vS.ownBlock = some gS := by rw [hv]; rfl
    have hlen : j < (V.us.set i (.slice aj Lj.length cj)).length := by rw [List.length_set]; have := h.stk.1; omega
    have ho := hs.stk
    rw [show ({ V with us := V.us.set i (.slice aj Lj.length cj) } : MV).vS = V.vS from rfl, hv] at ho
    have hlS : ({ m with S := m.S.set i Lj } : Mach).S.length = m.S.length := List.length_set
    rw [hlS] at ho
    have hcell := ho.cellAt j (by omega)
    rw [show ({ V with us := V.us.set i (.slice aj Lj.length cj) } : MV).us = V.us.set i (.slice aj Lj.length cj) from rfl, List.getElem?_eq_getElem hlen] at hcell
    have y19 : (w.drewN q).cell? ⟨g, 19, none⟩ = some V.vS := hq.cell (by decide)
    rw [hv] at y19
    refine ⟨gS, c, ai, ci, aj, cj, _, hv, b1, b2, b3, y19, yi, yj, b6 _, b6 _, hcell, Nat.le_trans i1 i2, Nat.le_trans j1 j2, ?_⟩
    refine Lib.hid (exec_done (((hs.stkput hv j _ _ (Ii.set_far (RO.not_stk hb) _ _)).drew)) (((((Touch.refl F w).drewN q).of_set (.inl b5) _ _).of_set (.inl b5) _ _).drew) rfl)
  obtain ⟨n, hn⟩ : ∃ n, m.S.length = n := ⟨_, rfl⟩
  rw [hn] at HWA hi hj
  obtain ⟨p, hp⟩ : ∃ p, Li.length = p := ⟨_, rfl⟩
  obtain ⟨r, hr⟩ : ∃ r, Lj.length = r := ⟨_, rfl⟩
  rw [hp, hr] at HWA
  have HP := Lib.hid hp
  have HQ := Lib.hid hr
  have i0 : (0 : Int) ≤ (i : Int) := Int.natCast_nonneg _
  have j0 : (0 : Int) ≤ (j : Int) := Int.natCast_nonneg _
  have i1 : (i : Int) < (n : Int) := by omega
  have j1 : (j : Int) < (n : Int) := by omega
  clear h hx0 hy0 h1 h2 hk0 hk1 hl0 hl1 hs0 hs1 hl hR hn hp hr hLi hLj
  rcases Nat.eq_zero_or_pos i with rfl | hi0
  · rcases Nat.eq_zero_or_pos j with rfl | hj0
    · skip
      go_enter Tryd.func52, Tryd.ntmps52
      go_wp2_with fail
      refine (HFK.out _ HW.out).mono ?_
      rintro e w1 ⟨rfl, q, rfl⟩
      go_wp2_with fail
      refine (HFL.out _ (HW.out.drewN q)).mono ?_
      rintro e w1 ⟨rfl, q2, rfl⟩
      obtain ⟨gS, c, ai, ci, aj, cj, v', hv, b1, b2, b3, y19, yi, yj, fi, fj, yj2, p1, r1, HE⟩ := HWA.out (q + q2)
      have hdd : (w.drewN q).drewN q2 = w.drewN (q + q2) := World.drewN_drewN _ _ _
      have HM := Lib.hid (HW.out.drewN (q + q2))
      have HT := Lib.hid ((Touch.refl F w).drewN (q + q2))
      rw [hdd]
      obtain ⟨W, hW⟩ : ∃ W, W = w.drewN (q + q2) := ⟨_, rfl⟩
      rw [← hW] at y19 yi yj fi fj yj2 HE HM HT ⊢
      have hsame := yi.symm.trans yj
      injection hsame with hsame
      injection hsame with e1 e2 e3
      subst e1 e2 e3
      clear yj
      have hn63 : n ≤ 9223372036854775807 := by unfold maxLen at b2; omega
      have hp63 : p ≤ 9223372036854775807 := by unfold maxLen at p1; omega
      have hr63 : p ≤ 9223372036854775807 := hp63
      clear hW hdd b2 hv p1 r1
      go_wp2
      all_goals first
        | (go_ret
           have hr : R = (5, m) := by rw [← HR.out, if_pos (swap_full (by rw [HP.out, HQ.out]; omega))]
           subst hr
           exact exec_done HM.out HT.out rfl)
        | (go_region
           all_goals go_wp2
           all_goals go_ret
           all_goals have hr : R = (0, { m with S := (m.S.set 0 Lj).set 0 Li }) := by rw [← HR.out, if_neg (swap_not (by rw [HP.out, HQ.out]; omega))]
           all_goals subst hr
           all_goals exact HE.out)
    · have ej : ((j : Int) != 0) = true := by simp; omega
      go_enter Tryd.func52, Tryd.ntmps52
      go_wp2_with fail
      refine (HFK.out _ HW.out).mono ?_
      rintro e w1 ⟨rfl, q, rfl⟩
      go_wp2_with fail
      refine (HFL.out _ (HW.out.drewN q)).mono ?_
      rintro e w1 ⟨rfl, q2, rfl⟩
      obtain ⟨gS, c, ai, ci, aj, cj, v', hv, b1, b2, b3, y19, yi, yj, fi, fj, yj2, p1, r1, HE⟩ := HWA.out (q + q2)
      have hdd : (w.drewN q).drewN q2 = w.drewN (q + q2) := World.drewN_drewN _ _ _
      have HM := Lib.hid (HW.out.drewN (q + q2))
      have HT := Lib.hid ((Touch.refl F w).drewN (q + q2))
      rw [hdd]
      obtain ⟨W, hW⟩ : ∃ W, W = w.drewN (q + q2) := ⟨_, rfl⟩
      rw [← hW] at y19 yi yj fi fj yj2 HE HM HT ⊢
      have hn63 : n ≤ 9223372036854775807 := by unfold maxLen at b2; omega
      have hp63 : p ≤ 9223372036854775807 := by unfold maxLen at p1; omega
      have hr63 : r ≤ 9223372036854775807 := by unfold maxLen at r1; omega
      clear hW hdd b2 hv p1 r1
      go_wp2
      all_goals first
        | (go_ret
           have hr : R = (5, m) := by rw [← HR.out, if_pos (swap_full (by rw [HP.out, HQ.out]; omega))]
           subst hr
           exact exec_done HM.out HT.out rfl)
        | (go_region
           all_goals go_wp2
           all_goals go_ret
           all_goals have hr : R = (0, { m with S := (m.S.set 0 Lj).set j Li }) := by rw [← HR.out, if_neg (swap_not (by rw [HP.out, HQ.out]; omega))]
           all_goals subst hr
           all_goals exact HE.out)
  · have ei : ((i : Int) != 0) = true := by simp; omega
    rcases Nat.eq_zero_or_pos j with rfl | hj0
    · skip
      go_enter Tryd.func52, Tryd.ntmps52
      go_wp2_with fail
      refine (HFK.out _ HW.out).mono ?_
      rintro e w1 ⟨rfl, q, rfl⟩
      go_wp2_with fail
      refine (HFL.out _ (HW.out.drewN q)).mono ?_
      rintro e w1 ⟨rfl, q2, rfl⟩
      obtain ⟨gS, c, ai, ci, aj, cj, v', hv, b1, b2, b3, y19, yi, yj, fi, fj, yj2, p1, r1, HE⟩ := HWA.out (q + q2)
      have hdd : (w.drewN q).drewN q2 = w.drewN (q + q2) := World.drewN_drewN _ _ _
      have HM := Lib.hid (HW.out.drewN (q + q2))
      have HT := Lib.hid ((Touch.refl F w).drewN (q + q2))
      rw [hdd]
      obtain ⟨W, hW⟩ : ∃ W, W = w.drewN (q + q2) := ⟨_, rfl⟩
      rw [← hW] at y19 yi yj fi fj yj2 HE HM HT ⊢
      have hn63 : n ≤ 9223372036854775807 := by unfold maxLen at b2; omega
      have hp63 : p ≤ 9223372036854775807 := by unfold maxLen at p1; omega
      have hr63 : r ≤ 9223372036854775807 := by unfold maxLen at r1; omega
      clear hW hdd b2 hv p1 r1
      go_wp2
      all_goals first
        | (go_ret
           have hr : R = (5, m) := by rw [← HR.out, if_pos (swap_full (by rw [HP.out, HQ.out]; omega))]
           subst hr
           exact exec_done HM.out HT.out rfl)
        | (go_region
           all_goals go_wp2
           all_goals go_ret
           all_goals have hr : R = (0, { m with S := (m.S.set i Lj).set 0 Li }) := by rw [← HR.out, if_neg (swap_not (by rw [HP.out, HQ.out]; omega))]
           all_goals subst hr
           all_goals exact HE.out)
    · have ej : ((j : Int) != 0) = true := by simp; omega
      go_enter Tryd.func52, Tryd.ntmps52
      go_wp2_with fail
      refine (HFK.out _ HW.out).mono ?_
      rintro e w1 ⟨rfl, q, rfl⟩
      go_wp2_with fail
      refine (HFL.out _ (HW.out.drewN q)).mono ?_
      rintro e w1 ⟨rfl, q2, rfl⟩
      obtain ⟨gS, c, ai, ci, aj, cj, v', hv, b1, b2, b3, y19, yi, yj, fi, fj, yj2, p1, r1, HE⟩ := HWA.out (q + q2)
      have hdd : (w.drewN q).drewN q2 = w.drewN (q + q2) := World.drewN_drewN _ _ _
      have HM := Lib.hid (HW.out.drewN (q + q2))
      have HT := Lib.hid ((Touch.refl F w).drewN (q + q2))
      rw [hdd]
      obtain ⟨W, hW⟩ : ∃ W, W = w.drewN (q + q2) := ⟨_, rfl⟩
      rw [← hW] at y19 yi yj fi fj yj2 HE HM HT ⊢
      have hn63 : n ≤ 9223372036854775807 := by unfold maxLen at b2; omega
      have hp63 : p ≤ 9223372036854775807 := by unfold maxLen at p1; omega
      have hr63 : r ≤ 9223372036854775807 := by unfold maxLen at r1; omega
      clear hW hdd b2 hv p1 r1
      go_wp2
      all_goals first
        | (go_ret
           have hr : R = (5, m) := by rw [← HR.out, if_pos (swap_full (by rw [HP.out, HQ.out]; omega))]
           subst hr
           exact exec_done HM.out HT.out rfl)
        | (go_region
           all_goals go_wp2
           all_goals go_ret
           all_goals have hr : R = (0, { m with S := (m.S.set i Lj).set j Li }) := by rw [← HR.out, if_neg (swap_not (by rw [HP.out, HQ.out]; omega))]
           all_goals subst hr
           all_goals exact HE.out)

end Go.Proofs.YtichiccohmeecaaDoor
