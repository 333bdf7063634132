/- The walks of the reference's Expr and variable. -/
import Derived.Test.YtlpmoklcdocmmaaEvW5
namespace Go.Proofs.Ytlpmoklcdocmmaa
open Go.RowKit

set_option maxRecDepth 100000 in
set_option maxHeartbeats 8000000 in
theorem rvar_any (env : Env) (kd nm : Int) (s : ByteArray) (ks : List T) (hkd : kd = 2 ∨ kd = 3 ∨ kd = 4 ∨ kd = 5) (hok : kd = 3 → ∃ t, ks = [t] ∧ isT t = true)
    (ih : ∀ t ∈ ks, isT t = true → ∀ (v f : Value) (w : World), NodeAt w v t → EnvAt w f env → Calls Try.prog 19 #[v, f] w (ValR (evalT env t) w))
    (v f : Value) (w : World) (h : NodeAt w v (.mk kd nm s ks)) (hf : EnvAt w f env) : Calls Try.prog 35 #[v, f] w (ValR (varV env kd s (evalL env ks)) w) := by
  obtain ⟨u, rfl, ⟨hk0, hk255⟩, hnm, hs, hkids⟩ := NodeAt.mk_iff.1 h
  obtain ⟨a, c, rfl, hn, hm, hq⟩ := id hkids
  obtain ⟨n, hnk⟩ : ∃ n, n = ks.length := ⟨_, rfl⟩
  have hb1 := below_alloc w (.cells #[.int .u8 kd, .int .i64 nm, .string s, .slice a ks.length c] 24)
  have hk1 := Blk.new w 24 #[.int .u8 kd, .int .i64 nm, .string s, .slice a ks.length c]
  have hf1 := hf.below hb1 (Nat.le_refl _)
  have HKID := Lib.hid (hkids.below hb1 (Nat.le_refl _))
  rw [← hnk] at hb1 hk1 hf1 HKID hn ⊢
  have HC := Lib.hid (find_any env s _ _ hf1)
  have HF1 := Lib.hid hf1
  obtain ⟨⟨ea, ec, rfl, hen, hem, heq⟩, -⟩ := id hf1
  have HEQ := Lib.hid heq
  obtain ⟨en, henk⟩ : ∃ en, en = env.length := ⟨_, rfl⟩
  rw [← henk] at hen HF1 HC ⊢
  have hen63 : en ≤ 9223372036854775807 := by unfold maxLen at hem; omega
  have HEN := Lib.hid henk
  clear heq hem henk hf1
  have HB1 := Lib.hid hb1
  have HK1 := Lib.hid hk1
  have HN := Lib.hid hnk
  have IH := Lib.hid ih
  have HOK := Lib.hid hok
  generalize hR : varV env kd s (evalL env ks) = R at *
  have HR := Lib.hid hR
  clear hkids hq hn hm hnk h hnm hs hb1 hk1 hf ih hok hR
  go_enter Try.func35, Try.ntmps35
  go_wp2_with fail
  refine HC.out.mono ?_
  rintro e w2 ⟨z, rfl, hz, hw2⟩
  subst hw2
  clear HC
  rcases hz.out with ⟨h1, rfl⟩ | ⟨k, l, x, rfl, h0, h1⟩
  · have H1 := Lib.hid h1
    clear h1 hz
    go_wp2_with fail
    go_ret2
    have hr : R = (0, 6) := by rw [← HR.out]; exact varV_none H1.out
    subst hr
    exact ⟨rfl, HB1.out⟩
  have hkl : k < en := by rw [HEN.out]; exact (List.getElem?_eq_some_iff.1 h0).1
  have hlt' : (k : Int) < (en : Int) := by omega
  have hk0' : (0 : Int) ≤ (k : Int) := by omega
  obtain ⟨eg, eo, rfl, heg, heq⟩ := HEQ.out (by rw [← HEN.out]; omega)
  obtain ⟨-, u, em, hi⟩ := heq k _ h0
  simp only at em hi
  have H1 := Lib.hid h1
  clear h1 h0 heq hz
  obtain ⟨⟨a2, c2, rfl, hn2, hm2, hq2⟩, -⟩ := hi
  have HQ2 := Lib.hid hq2
  obtain ⟨m, hml⟩ : ∃ m, m = l.length := ⟨_, rfl⟩
  rw [← hml] at hn2 em
  have hm63 : m ≤ 9223372036854775807 := by unfold maxLen at hm2; omega
  have HM := Lib.hid hml
  have k0 := HK1.out.cell 0
  clear hq2 hm2
  clear hml
  rcases hkd with hkd | hkd | hkd | hkd
  · subst hkd
    have HR2 : Hid (R = if l.length = 1 then (l.getD 0 0, 0) else (0, 7)) := by rw [Hid, ← HR.out]; exact varV_2 H1.out
    by_cases e1 : m = 1
    · obtain ⟨g, o, rfl, hg, hq⟩ := HQ2.out (by rw [← HM.out]; omega)
      obtain ⟨x, hx⟩ : ∃ x, l[0]? = some x := ⟨_, List.getElem?_eq_getElem (by rw [← HM.out]; omega)⟩
      have m0 := hq 0 x hx
      rw [Nat.add_zero] at m0
      have hr : R = (x, 0) := by rw [HR2.out, if_pos (by rw [← HM.out]; exact e1), List.getD_eq_getElem?_getD, hx]; rfl
      subst hr
      have e2 : ((m : Int) != 1) = false := by simp [e1]
      have e3 : ((m : Int) == 1) = true := by simp [e1]
      have e4 : (0 : Int) < (m : Int) := by omega
      have e5 : 0 < m := by omega
      clear hq hx HR2 HR e1
      go_wp2_with fail
      go_ret2
      exact ⟨rfl, HB1.out⟩
    · have hr : R = (0, 7) := by rw [HR2.out, if_neg (by rw [← HM.out]; exact e1)]
      subst hr
      have e2 : ((m : Int) != 1) = true := by simp; omega
      have e3 : ((m : Int) == 1) = false := by simp; omega
      clear HR2 HR e1
      go_wp2_with fail
      go_ret2
      exact ⟨rfl, HB1.out⟩
  · subst hkd
    obtain ⟨t, rfl, ht⟩ := HOK.out rfl
    have hn1 : n = 1 := HN.out
    subst hn1
    obtain ⟨g, o, c3, kd', nm', s', a', n', c', e1, hc3, hg, q0, q1, q2, q3, q4⟩ := one_kid HKID.out
    obtain ⟨rfl, rfl, -⟩ : a = some ⟨g, o, none⟩ ∧ c = c3 ∧ True := by simpa using e1
    have k3 := HK1.out.cell 3
    have HT := Lib.hid (IH.out t (by simp) ht _ _ _ q4 HF1.out)
    have HR2 : Hid (R = if (evalT env t).2 ≠ 0 then (0, (evalT env t).2) else if (evalT env t).1 < 0 ∨ (l.length : Int) ≤ (evalT env t).1 then (0, 12) else (l.getD (evalT env t).1.toNat 0, 0)) := by rw [Hid, ← HR.out]; exact varV_3 H1.out
    generalize evalT env t = r at *
    obtain ⟨r1, r2⟩ := r
    clear HR ht q4 e1 HKID IH HOK
    go_wp2_with fail
    refine HT.out.mono ?_
    rintro e w4 ⟨rfl, hb4⟩
    have HB4 := Lib.hid (below_next HB1.out (Nat.le_refl _) hb4)
    have HBB := Lib.hid hb4
    clear hb4 HT
    by_cases e2 : r2 = 0
    · subst e2
      by_cases e3 : r1 < 0
      · have hr : R = (0, 12) := by rw [HR2.out, if_neg (by simp), if_pos (.inl e3)]
        subst hr
        clear HR2
        go_wp2_with fail
        go_ret2
        exact ⟨rfl, HB4.out⟩
      · obtain ⟨j, rfl⟩ := Int.eq_ofNat_of_zero_le (by omega : 0 ≤ r1)
        by_cases e4 : m ≤ j
        · have hr : R = (0, 12) := by rw [HR2.out, if_neg (by simp), if_pos (.inr (by rw [← HM.out]; omega))]
          subst hr
          have e5 : (m : Int) ≤ (j : Int) := by omega
          clear HR2
          go_wp2_with fail
          go_ret2
          exact ⟨rfl, HB4.out⟩
        · obtain ⟨g2, o2, rfl, hg2, hq⟩ := HQ2.out (by rw [← HM.out]; omega)
          obtain ⟨x, hx⟩ : ∃ x, l[j]? = some x := ⟨_, List.getElem?_eq_getElem (by rw [← HM.out]; omega)⟩
          have m0 := cell_below HBB.out hg2 (hq j x hx)
          have hr : R = (x, 0) := by rw [HR2.out, if_neg (by simp), if_neg (by rw [← HM.out]; omega), Int.toNat_natCast, List.getD_eq_getElem?_getD, hx]; rfl
          subst hr
          have e5 : (j : Int) < (m : Int) := by omega
          have e6 : j < m := by omega
          have e7 : (0 : Int) ≤ (j : Int) := by omega
          clear hq hx HR2
          go_wp2_with fail
          go_ret2
          exact ⟨rfl, HB4.out⟩
    · have hr : R = (0, r2) := by rw [HR2.out, if_pos e2]
      subst hr
      have e3 : (r2 != 0) = true := by simpa using e2
      have e4 : (r2 == 0) = false := by simpa using e2
      clear HR2
      go_wp2_with fail
      go_ret2
      exact ⟨rfl, HB4.out⟩
  · subst hkd
    have HR2 : Hid (R = if l.length = 0 then (0, 13) else (l.getD (l.length - 1) 0, 0)) := by rw [Hid, ← HR.out]; exact varV_4 H1.out
    by_cases e1 : m = 0
    · have hr : R = (0, 13) := by rw [HR2.out, if_pos (by rw [← HM.out]; exact e1)]
      subst hr
      have e2 : ((m : Int) == 0) = true := by simp [e1]
      clear HR2 HR e1
      go_wp2_with fail
      go_ret2
      exact ⟨rfl, HB1.out⟩
    · obtain ⟨g, o, rfl, hg, hq⟩ := HQ2.out (by rw [← HM.out]; omega)
      obtain ⟨x, hx⟩ : ∃ x, l[m - 1]? = some x := ⟨_, List.getElem?_eq_getElem (by rw [← HM.out]; omega)⟩
      have m0 := hq (m - 1) x hx
      have hr : R = (x, 0) := by rw [HR2.out, if_neg (by rw [← HM.out]; exact e1), ← HM.out, List.getD_eq_getElem?_getD, hx]; rfl
      subst hr
      have e2 : ((m : Int) == 0) = false := by simp [e1]
      have e4 : (0 : Int) < (m : Int) := by omega
      have e5 : 0 < m := by omega
      have e6 : (0 : Int) ≤ (m : Int) - 1 := by omega
      have e7 : ((m : Int) - 1).toNat = m - 1 := by omega
      clear hq hx HR2 HR e1
      go_wp2_with fail
      go_ret2
      exact ⟨rfl, HB1.out⟩
  · subst hkd
    have hr : R = ((l.length : Int), 0) := by rw [← HR.out]; exact varV_5 H1.out
    rw [← HM.out] at hr
    subst hr
    clear HR
    go_wp2_with fail
    go_ret2
    exact ⟨rfl, HB1.out⟩

set_option maxRecDepth 100000 in
set_option maxHeartbeats 8000000 in
theorem rvalue_any (env : Env) : ∀ (t : T), isT t = true → ∀ (v f : Value) (w : World), NodeAt w v t → EnvAt w f env → Calls Try.prog 19 #[v, f] w (ValR (evalT env t) w) := by
  intro t
  induction t using T.ind with
  | h kd nm s ks ih =>
    intro hT v f w h hf
    rw [isT] at hT
    have hcs := isN_cases hT
    obtain ⟨u, rfl, ⟨hk0, hk255⟩, hnm, hs, hkids⟩ := NodeAt.mk_iff.1 h
    obtain ⟨a, c, rfl, hn, hm, hq⟩ := id hkids
    obtain ⟨n, hnk⟩ : ∃ n, n = ks.length := ⟨_, rfl⟩
    have hb1 := below_alloc w (.cells #[.int .u8 kd, .int .i64 nm, .string s, .slice a ks.length c] 24)
    have hk1 := Blk.new w 24 #[.int .u8 kd, .int .i64 nm, .string s, .slice a ks.length c]
    have hf1 := hf.below hb1 (Nat.le_refl _)
    have hh1 := h.below hb1 (Nat.le_refl _)
    have HKID := Lib.hid (hkids.below hb1 (Nat.le_refl _))
    have IH := Lib.hid ih
    rw [← hnk] at hb1 hk1 hf1 HKID hh1 hn ⊢
    have HB1 := Lib.hid hb1
    have HK1 := Lib.hid hk1
    have HF1 := Lib.hid hf1
    have HH1 := Lib.hid hh1
    have HN := Lib.hid hnk
    have k0 := hk1.cell 0
    have HE : Hid (evalT env (.mk kd nm s ks) = evalN env kd nm s (evalL env ks)) := by rw [Hid, evalT]
    generalize evalT env (.mk kd nm s ks) = R at *
    clear hkids hq hn hm hnk h hnm hs hb1 hk1 hf ih hT hf1 hh1
    rcases hcs with ⟨rfl, -, -, -⟩ | hc
    · have hr : R = (nm, 0) := HE.out.trans rfl
      subst hr
      clear HE
      go_enter Try.func19, Try.ntmps19
      go_wp2_with fail
      go_ret2
      exact ⟨rfl, HB1.out⟩
    by_cases hv : kd = 2 ∨ kd = 3 ∨ kd = 4 ∨ kd = 5
    · have hr : R = varV env kd s (evalL env ks) := by rw [HE.out]; unfold evalN; rw [if_neg (by omega), if_pos hv]
      have hok : kd = 3 → ∃ t, ks = [t] ∧ isT t = true := fun e3 => by
        rcases hc with ⟨e, _⟩ | ⟨_, _, e⟩ | ⟨e, _⟩ | ⟨e, _⟩
        · omega
        · exact isL_one e
        · omega
        · omega
      have HV := Lib.hid (rvar_any env kd nm s ks hv hok IH.out _ _ _ HH1.out HF1.out)
      rw [← hr] at HV
      clear HE hr hc hok IH HKID HH1 HF1 k0
      rcases hv with rfl | rfl | rfl | rfl
      all_goals
        go_enter Try.func19, Try.ntmps19
        go_wp2_with fail
        refine HV.out.mono ?_
        rintro e w2 ⟨rfl, hb2⟩
        have HB2 := Lib.hid (below_next HB1.out (Nat.le_refl _) hb2)
        clear hb2 HV
        go_wp2_with fail
        go_ret2
        exact ⟨rfl, HB2.out⟩
    rcases hc with ⟨e, _⟩ | ⟨e, _⟩ | ⟨hu, -, hb⟩ | ⟨hu, -, hb⟩
    · omega
    · omega
    · obtain ⟨t, rfl, ht⟩ := isL_one hb
      have hn1 : n = 1 := HN.out
      subst hn1
      obtain ⟨g, o, c3, kd', nm', s', a', n', c', e1, hc3, hg, q0, q1, q2, q3, q4⟩ := one_kid HKID.out
      obtain ⟨rfl, rfl, -⟩ : a = some ⟨g, o, none⟩ ∧ c = c3 ∧ True := by simpa using e1
      have k3 := HK1.out.cell 3
      have HT := Lib.hid (IH.out t (by simp) ht _ _ _ q4 HF1.out)
      have HR2 : Hid (R = if (evalT env t).2 ≠ 0 then (0, (evalT env t).2) else (unV kd (evalT env t).1, unE kd)) := by
        rw [Hid, HE.out]; unfold evalN; rw [if_neg (by omega), if_neg hv, evalL, evalL]
      generalize evalT env t = r at *
      obtain ⟨r1, r2⟩ := r
      clear HE ht q4 e1 HKID IH hb hv HH1
      rcases hu with rfl | rfl
      all_goals
        go_enter Try.func19, Try.ntmps19
        go_wp2_with fail
        refine HT.out.mono ?_
        rintro e w4 ⟨rfl, hb4⟩
        have HB4 := Lib.hid (below_next HB1.out (Nat.le_refl _) hb4)
        have hk4 := HK1.out.next hb4
        have l0 := hk4.cell 0
        have l3 := hk4.cell 3
        clear hb4 HT hk4
        by_cases e2 : r2 = 0
        · subst e2
          have hr := HR2.out
          rw [if_neg (by simp)] at hr
          subst hr
          clear HR2
          go_wp2_with fail
          refine (runary_any _ _ _).mono ?_
          rintro e w5 ⟨rfl, hw5⟩
          subst hw5
          go_wp2_with fail
          go_ret2
          exact ⟨rfl, HB4.out⟩
        · have hr : R = (0, r2) := by rw [HR2.out, if_pos e2]
          subst hr
          have e3 : (r2 != 0) = true := by simpa using e2
          have e4 : (r2 == 0) = false := by simpa using e2
          clear HR2
          go_wp2_with fail
          go_ret2
          exact ⟨rfl, HB4.out⟩
    · obtain ⟨t, t', rfl, ht, ht'⟩ := isL_two hb
      have hn1 : n = 2 := HN.out
      subst hn1
      obtain ⟨g, o, c3, kd', nm', s', a', n', c', kd2, nm2, s2, a2, n2, c2, e1, hc3, hg, ⟨q0, q1, q2, q3, q4⟩, p0, p1, p2, p3, p4⟩ := two_kids HKID.out
      obtain ⟨rfl, rfl, -⟩ : a = some ⟨g, o, none⟩ ∧ c = c3 ∧ True := by simpa using e1
      have k3 := HK1.out.cell 3
      have HT := Lib.hid (IH.out t (by simp) ht _ _ _ q4 HF1.out)
      have HT' := Lib.hid (fun w => IH.out t' (by simp) ht' (.agg #[.int .u8 kd2, .int .i64 nm2, .string s2, .slice a2 n2 c2]) f w)
      have HP4 := Lib.hid p4
      have HR2 : Hid (R = if (evalT env t).2 ≠ 0 then (0, (evalT env t).2) else if (evalT env t').2 ≠ 0 then (0, (evalT env t').2) else (applyV kd (evalT env t).1 (evalT env t').1, applyE kd (evalT env t').1)) := by
        rw [Hid, HE.out]; unfold evalN; rw [if_neg (by omega), if_neg hv, evalL, evalL, evalL]
      generalize evalT env t = r at *
      generalize evalT env t' = r' at *
      obtain ⟨r1, r2⟩ := r
      obtain ⟨r1', r2'⟩ := r'
      have e1b : (kd == 1) = false := by simp; omega
      have e2b : (kd == 2) = false := by simp; omega
      have e3b : (kd == 3) = false := by simp; omega
      have e4b : (kd == 4) = false := by simp; omega
      have e5b : (kd == 5) = false := by simp; omega
      have e6b : (kd == 6) = false := by simp; omega
      have e7b : (kd == 7) = false := by simp; omega
      clear HE ht ht' q4 p4 e1 HKID IH hb hv HH1
      go_enter Try.func19, Try.ntmps19
      go_wp2_with fail
      refine HT.out.mono ?_
      rintro e w4 ⟨rfl, hb4⟩
      have HB4 := Lib.hid (below_next HB1.out (Nat.le_refl _) hb4)
      have hk4 := HK1.out.next hb4
      have l0 := hk4.cell 0
      have l3 := hk4.cell 3
      have j0 := cell_below hb4 hg p0
      have j1 := cell_below hb4 hg p1
      have j2 := cell_below hb4 hg p2
      have j3 := cell_below hb4 hg p3
      have HT2 := Lib.hid (HT'.out w4 (HP4.out.below hb4 (Nat.le_refl _)) (HF1.out.below hb4 (Nat.le_refl _)))
      have HK4 := Lib.hid hk4
      clear hb4 HT hk4 HT' HP4 HF1
      by_cases e2 : r2 = 0
      · subst e2
        have hr := HR2.out
        rw [if_neg (by simp)] at hr
        have HR3 := Lib.hid hr
        clear HR2 hr
        go_wp2_with fail
        refine HT2.out.mono ?_
        rintro e w5 ⟨rfl, hb5⟩
        have HB5 := Lib.hid (below_next HB4.out (Nat.le_refl _) hb5)
        have i0 := (HK4.out.next hb5).cell 0
        clear hb5 HT2
        by_cases e2 : r2' = 0
        · subst e2
          have hr := HR3.out
          rw [if_neg (by simp)] at hr
          subst hr
          clear HR3
          go_wp2_with fail
          refine (rapply_any _ _ _ _).mono ?_
          rintro e w6 ⟨rfl, hw6⟩
          subst hw6
          go_wp2_with fail
          go_ret2
          exact ⟨rfl, HB5.out⟩
        · have hr : R = (0, r2') := by rw [HR3.out, if_pos e2]
          subst hr
          have e3 : (r2' != 0) = true := by simpa using e2
          have e4 : (r2' == 0) = false := by simpa using e2
          clear HR3
          go_wp2_with fail
          go_ret2
          exact ⟨rfl, HB5.out⟩
      · have hr : R = (0, r2) := by rw [HR2.out, if_pos e2]
        subst hr
        have e3 : (r2 != 0) = true := by simpa using e2
        have e4 : (r2 == 0) = false := by simpa using e2
        clear HR2
        go_wp2_with fail
        go_ret2
        exact ⟨rfl, HB4.out⟩
end Go.Proofs.Ytlpmoklcdocmmaa
