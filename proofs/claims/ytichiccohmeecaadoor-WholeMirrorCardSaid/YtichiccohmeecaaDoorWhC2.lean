/- The walks of find, exchange, shift. -/
import Derived.Test.YtichiccohmeecaaDoorWhE1
import Derived.StillTailTactics
namespace Go.Proofs.YtichiccohmeecaaDoor
open Go.RowKit

theorem intsV_get {l : List Int} {k : Nat} (h : k < l.length) : (intsV l)[k]? = some (.int .i64 (l.getD k 0)) := by
  simp [intsV, List.getD_eq_getElem?_getD, List.getElem?_eq_getElem h]
/-- a store into the machine's memory -/
theorem MachW.memput {F : Nat → Prop} {w : World} {g gM n c : Nat} {m : Mach} {V : MV} (h : MachW F w g m V) (hv : V.vM = .slice (some ⟨gM, 0, none⟩) n c) (k : Nat) (x : Int) : MachW F (w.setCell ⟨gM, k, none⟩ (.int .i64 x)) g { m with M := m.M.set k x } V := by
  have hm := h.mem
  rw [hv] at hm
  have hb : V.vM.ownBlock = some gM := by rw [hv]; rfl
  have hgM : g ≠ gM := by
    have := h.blk.own_ne h.mem (by decide)
    rw [hb] at this
    exact fun e => this (by rw [e])
  have hn : n = m.M.length := by
    rcases hm.2 with ⟨h0, _⟩ | ⟨_, _, _, he, _⟩
    · cases h0
    · injection he
  refine ⟨h.own, h.blk.far (p := ⟨gM, k, none⟩) hgM _, ?_, h.memF, ?_, h.stkF, fun i l hl => ?_, h.acts.set_far (RO.not_mem hb) _ _, h.inp.set_far (RO.not_mem hb) _ _, h.out.set_far (RO.not_mem hb) _ _⟩
  · have := (World.ownsRow.stored (n := m.M.length) (by rw [hn] at hm; exact hm) k (.int .i64 x)).1
    rw [hv, hn]
    show World.ownsRow _ 0 _ 1 _ (m.M.set k x).length (intsV (m.M.set k x))
    rw [List.length_set, show intsV (m.M.set k x) = (intsV m.M).set k (.int .i64 x) by simp [intsV, List.map_set]]
    exact this
  · refine ownsRow_setCell_other h.stk (a := ⟨gM, k, none⟩) ?_ _
    rcases own_own_ne h.stk h.mem (by decide) with h0 | h0
    · rw [h0]; simp
    · rw [hb] at h0; exact h0
  · obtain ⟨u, h1, h2⟩ := h.rows i l hl
    exact ⟨u, h1, h2.set_far (RO.not_mem hb) _ _⟩
theorem mem_form {F : Nat → Prop} {w : World} {g : Nat} {m : Mach} {V : MV} (h : MachW F w g m V) {k : Nat} (hk : k < m.M.length) :
    ∃ gM c, V.vM = .slice (some ⟨gM, 0, none⟩) m.M.length c ∧ m.M.length ≤ c ∧ c ≤ maxLen ∧ w.cell? ⟨gM, k, none⟩ = some (.int .i64 (m.M.getD k 0)) ∧ w.frozen? ⟨gM, k, none⟩ = false ∧ g ≠ gM ∧ gM < w.heap.size := by
  rcases h.mem.2 with ⟨_, h0⟩ | ⟨gM, cap, cur, hv, hb, hg, hn, hm, hc, ht⟩
  · omega
  · have ho := h.mem
    rw [hv] at ho
    refine ⟨gM, cap, hv, hn, hm, ?_, ho.frozenAt k, ?_, (Array.getElem?_eq_some_iff.1 hg).1⟩
    · rw [ho.cellAt k (by omega)]
      exact intsV_get hk
    · have := h.blk.own_ne h.mem (by decide)
      rw [hv] at this
      exact fun e => this (by rw [e]; rfl)

theorem ret_ib2 {a c : Int} {b d : Bool} (h : a = c) (h' : b = d) : Ending.returned (.tuple #[.int .i64 a, .bool b]) = .returned (.tuple #[.int .i64 c, .bool d]) := by rw [h, h']

set_option maxHeartbeats 2000000 in
theorem find_any (F : Nat → Prop) (g : Nat) (m : Mach) (V : MV) (w : World) (h : MachW F w g m V) (k : Int) (hk0 : 0 ≤ k) (hk1 : k ≤ 16384) (hs0 : 0 ≤ m.sb) (hs1 : m.sb ≤ 16384) (hl : m.S.length ≤ 16384) :
    Calls Tryd.prog 57 #[.pointer (some ⟨g, 0, none⟩), .int .i64 k] w fun e w' => e = .returned (.tuple #[.int .i64 (find m k), .bool (decide (find m k < m.S.length))]) ∧ ∃ q, w' = w.drewN q := by
  have y22 : w.cell? ⟨g, 22, none⟩ = some (.int .i64 m.sb) := h.cell (by decide)
  have y19 : w.cell? ⟨g, 19, none⟩ = some V.vS := h.cell (by decide)
  obtain ⟨aS, cS, hvs⟩ := own_form h.stk
  rw [hvs] at y19
  have hg := h.blk.lt
  obtain ⟨n, hn⟩ : ∃ n, m.S.length = n := ⟨_, rfl⟩
  obtain ⟨s, hs⟩ : ∃ s, m.sb = s := ⟨_, rfl⟩
  unfold find
  rw [hn] at y19 hl ⊢
  rw [hs] at y22 hs0 hs1 ⊢
  have hw : IntKind.i64.wrap (k + s) = k + s := IntWalk.i64_in _ (by omega)
  have hn0 : (0 : Int) ≤ (n : Int) := Int.natCast_nonneg _
  have hn1 : (n : Int) ≤ 16384 := by omega
  clear h hvs hn hs
  by_cases hk : k = 0
  · subst hk
    rw [if_pos rfl]
    clear hw
    go_enter Tryd.func57, Tryd.ntmps57
    go_wp2
    go_quiet (fail)
    go_wp2
    go_ret2
    exact ⟨ret_ib2 rfl (by simp), _, rfl⟩
  · rw [if_neg hk]
    have e1 : (k != 0) = true := by simpa using hk
    clear hk hw
    go_enter Tryd.func57, Tryd.ntmps57
    go_wp2
    go_quiet (fail)
    go_wp2
    go_ret2
    exact ⟨ret_ib2 rfl (by simp), _, rfl⟩

set_option maxHeartbeats 2000000 in
theorem exchange_any (F : Nat → Prop) (g : Nat) (m : Mach) (V : MV) (w : World) (h : MachW F w g m V) (a : Nat) (ha : a < 16) (k : Int) :
    Calls Tryd.prog 50 #[.pointer (some ⟨g, 0, none⟩), .int .i64 a, .int .i64 k] w (ExecR F w g (exchange m a k)) := by
  have ya : w.cell? ⟨g, 2 + a, none⟩ = some (.int .i64 (m.R a)) := by rw [← mf_reg m V ha]; exact h.cell (by omega)
  have y18 : w.cell? ⟨g, 18, none⟩ = some V.vM := h.cell (by decide)
  have fa := h.blk.free (2 + a)
  have hg := h.blk.lt
  have ha0 : (0 : Int) ≤ (a : Int) := Int.natCast_nonneg _
  have ha1 : (a : Int) < 16 := by omega
  have HW := Lib.hid h
  have HA := Lib.hid ha
  unfold exchange
  by_cases hk : 0 ≤ k ∧ k < m.M.length
  · rw [if_pos hk]
    obtain ⟨j, rfl⟩ := Int.eq_ofNat_of_zero_le hk.1
    have hj : j < m.M.length := by omega
    obtain ⟨gM, c, hv, hc1, hc2, yM, fM, hne, hgM⟩ := mem_form h hj
    rw [hv] at y18
    have hne' := Ne.symm hne
    have HV := Lib.hid hv
    have er : m.reg (a : Int) = m.R a := rfl
    rw [er]
    simp only [Int.toNat_natCast]
    obtain ⟨x, hx⟩ : ∃ x, m.R a = x := ⟨_, rfl⟩
    obtain ⟨y, hy⟩ : ∃ y, m.M.getD j 0 = y := ⟨_, rfl⟩
    obtain ⟨n, hn⟩ : ∃ n, m.M.length = n := ⟨_, rfl⟩
    rw [hx] at ya ⊢
    rw [hy] at yM ⊢
    rw [hn] at y18 hj hc1 HV
    have hj0 : (0 : Int) ≤ (j : Int) := Int.natCast_nonneg _
    have hj1 : (j : Int) < (n : Int) := by omega
    have hn63 : n ≤ 9223372036854775807 := by unfold maxLen at hc2; omega
    clear h hk hv hx hy hn hc2 er ha
    go_enter Tryd.func50, Tryd.ntmps50
    go_wp2
    go_region
    all_goals go_wp2
    all_goals go_ret
    all_goals exact exec_done (((HW.out.reg HA.out y).memput HV.out j x).drew) ((((Touch.refl F w).of_set (.inl HW.out.own) _ _).of_set (.inl (HW.out.memF gM (by rw [HV.out]; rfl))) _ _).drew) rfl
  · rw [if_neg hk]
    obtain ⟨aM, cM, hv⟩ := own_form h.mem
    rw [hv] at y18
    obtain ⟨n, hn⟩ : ∃ n, m.M.length = n := ⟨_, rfl⟩
    rw [hn] at y18 hk
    clear h hv hn ya fa ha
    by_cases h0 : k < 0
    · clear hk
      go_enter Tryd.func50, Tryd.ntmps50
      go_wp2
      go_ret
      exact exec_done HW.out (Touch.refl _ _) rfl
    · have h1 : (n : Int) ≤ k := by omega
      have h2 : 0 ≤ k := by omega
      clear hk h0
      go_enter Tryd.func50, Tryd.ntmps50
      go_wp2
      go_ret
      exact exec_done HW.out (Touch.refl _ _) rfl

set_option maxHeartbeats 2000000 in
theorem shift_any (F : Nat → Prop) (g : Nat) (m : Mach) (V : MV) (w : World) (h : MachW F w g m V) (x y : Int) (hx0 : -16384 ≤ x) (hx1 : x ≤ 16384) (hy0 : -16384 ≤ y) (hy1 : y ≤ 16384) (hf0 : 0 ≤ m.fp) (hf1 : m.fp ≤ 16384) (hs0 : 0 ≤ m.sb) (hs1 : m.sb ≤ 16384) :
    Calls Tryd.prog 51 #[.pointer (some ⟨g, 0, none⟩), .int .i64 x, .int .i64 y] w (ExecR F w g (shift m x y)) := by
  have y21 : w.cell? ⟨g, 21, none⟩ = some (.int .i64 m.fp) := h.cell (by decide)
  have y22 : w.cell? ⟨g, 22, none⟩ = some (.int .i64 m.sb) := h.cell (by decide)
  have y18 : w.cell? ⟨g, 18, none⟩ = some V.vM := h.cell (by decide)
  have y19 : w.cell? ⟨g, 19, none⟩ = some V.vS := h.cell (by decide)
  have f21 := h.blk.free 21
  have f22 := h.blk.free 22
  have hg := h.blk.lt
  have HW := Lib.hid h
  obtain ⟨aM, cM, hvM⟩ := own_form h.mem
  obtain ⟨aS, cS, hvS⟩ := own_form h.stk
  rw [hvM] at y18
  rw [hvS] at y19
  obtain ⟨p, hp⟩ : ∃ p, m.M.length = p := ⟨_, rfl⟩
  obtain ⟨q, hq⟩ : ∃ q, m.S.length = q := ⟨_, rfl⟩
  obtain ⟨f, hf⟩ : ∃ f, m.fp = f := ⟨_, rfl⟩
  obtain ⟨s, hs⟩ : ∃ s, m.sb = s := ⟨_, rfl⟩
  unfold shift
  rw [hp] at y18 ⊢
  rw [hq] at y19 ⊢
  rw [hf] at y21 hf0 hf1 ⊢
  rw [hs] at y22 hs0 hs1 ⊢
  have w1 : IntKind.i64.wrap (f + x) = f + x := IntWalk.i64_in _ (by omega)
  have w2 : IntKind.i64.wrap (s + y) = s + y := IntWalk.i64_in _ (by omega)
  have hp0 : (0 : Int) ≤ (p : Int) := Int.natCast_nonneg _
  have hq0 : (0 : Int) ≤ (q : Int) := Int.natCast_nonneg _
  clear h hvM hvS hp hq hf hs
  have HE : ∀ W : World, MachW F W g m V → MachW F ((W.setCell ⟨g, 21, none⟩ (.int .i64 (f + x))).setCell ⟨g, 22, none⟩ (.int .i64 (s + y))) g { m with fp := f + x, sb := s + y } V := fun W hW => (hW.fp (f + x)).sb (s + y)
  have HE := Lib.hid HE
  obtain ⟨R, hR⟩ : ∃ R, (if 0 ≤ f + x ∧ f + x ≤ p ∧ 0 ≤ s + y ∧ s + y ≤ q then ((0 : Int), { m with fp := f + x, sb := s + y }) else (12, m)) = R := ⟨_, rfl⟩
  rw [hR]
  have HR := Lib.hid hR
  clear hR
  go_enter Tryd.func51, Tryd.ntmps51
  go_wp2
  go_quiet (fail)
  go_wp2
  all_goals go_ret
  all_goals first
    | (have hr : R = (12, m) := by rw [← HR.out, if_neg (by omega)]
       subst hr
       exact exec_done (HW.out.drewN _) ((Touch.refl F w).drewN _) rfl)
    | (have hr : R = (0, { m with fp := f + x, sb := s + y }) := by rw [← HR.out, if_pos (by omega)]
       subst hr
       exact exec_done (HE.out _ (HW.out.drewN _)) ((((Touch.refl F w).drewN _).of_set (.inl HW.out.own) _ _).of_set (.inl HW.out.own) _ _) rfl)

theorem ExecR.of {F : Nat → Prop} {w W : World} {g : Nat} {r : Int × Mach} {e : Ending} {w' : World} (h : ExecR F W g r e w') (ht : Touch F w W) : ExecR F w g r e w' := by
  obtain ⟨V', he, h1, h2⟩ := h
  refine ⟨V', he, ht.trans h1 (fun _ _ h => h), h2.mono (fun j hj => ?_)⟩
  rcases hj with hj | ⟨a, b⟩
  · exact .inl hj
  · exact .inr ⟨Nat.le_trans ht.size a, b⟩

end Go.Proofs.YtichiccohmeecaaDoor
