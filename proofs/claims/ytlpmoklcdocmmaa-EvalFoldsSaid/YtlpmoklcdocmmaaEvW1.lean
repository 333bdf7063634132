/- Walks over trees: does a tree name a variable; is it small. -/
import Derived.Test.YtlpmoklcdocmmaaEvO
import Derived.Test.YtlpmoklcdocmmaaEvName
import Derived.Test.YtlpmoklcdocmmaaMem
namespace Go.Proofs.Ytlpmoklcdocmmaa
open Go.RowKit

theorem kid_get {ks : List T} {k : Nat} (h : k < ks.length) : ∃ t, ks[k]? = some t ∧ t ∈ ks := ⟨_, List.getElem?_eq_getElem h, List.getElem_mem h⟩

theorem beqS (s x : ByteArray) : (s.toList == x.toList) = decide (s = x) := by
  rw [Lib.toList_data, Lib.toList_data, Bool.eq_iff_iff]
  simp only [beq_iff_eq, decide_eq_true_eq]
  constructor
  · intro h
    cases s; cases x
    simp only at h
    rw [Array.toList_inj.1 h]
  · rintro rfl; rfl

set_option maxRecDepth 100000 in
set_option maxHeartbeats 2000000 in
theorem mentions_any (x : ByteArray) (hx : x.size ≤ maxLen) : ∀ (t : T) (v : Value) (w : World), NodeAt w v t →
    Calls Try.prog 14 #[v, .string x] w fun e w' => e = .returned (.bool (says x t)) ∧ Below w.heap.size w w' := by
  intro t
  induction t using T.ind with
  | h kd nm s ks ih =>
    intro v w h
    obtain ⟨u, rfl, hkd, hnm, hs, a, c, rfl, hn, hm, hq⟩ := NodeAt.mk_iff.1 h
    rw [says]
    have IH := Lib.hid ih
    have HQ := Lib.hid hq
    obtain ⟨hk0, hk255⟩ := hkd
    obtain ⟨m, hmk⟩ : ∃ m, m = ks.length := ⟨_, rfl⟩
    rw [← hmk] at hn ⊢
    have hm63 : m ≤ 9223372036854775807 := by unfold maxLen at hm; omega
    have HM := Lib.hid hmk
    obtain ⟨R, hR⟩ : ∃ R, R = saysL x ks := ⟨_, rfl⟩
    rw [← hR]
    have HR := Lib.hid hR
    have hB0 := below_alloc w (.cells #[.int .u8 kd, .int .i64 nm, .string s, .slice a m c] 24)
    have HB0 := Lib.hid hB0
    by_cases hA : 2 ≤ kd ∧ kd ≤ 5 ∧ s = x
    · obtain ⟨h2, h5, rfl⟩ := hA
      have hr : (decide (2 ≤ kd) && decide (kd ≤ 5) && decide (s = s) || R) = true := by simp [h2, h5]
      rw [hr]
      clear ih hq h hnm hs hn hm hmk hR hx hr hB0
      go_enter Try.func14, Try.ntmps14
      go_wp2
      go_ret
      exact ⟨rfl, HB0.out⟩
    · have hr : (decide (2 ≤ kd) && decide (kd ≤ 5) && decide (s = x) || R) = R := by
        rw [Bool.or_eq_right_iff_imp]
        intro hh
        simp only [Bool.and_eq_true, decide_eq_true_eq] at hh
        exact absurd ⟨hh.1.1, hh.1.2, hh.2⟩ hA
      rw [hr]
      have HA := Lib.hid hA
      have HB := Lib.hid (beqS s x)
      generalize hW : w.alloc (.cells #[.int .u8 kd, .int .i64 nm, .string s, .slice a m c] 24) = W at hB0
      clear hr ih hq h hnm hs hn hm hmk hR hx hA hB0 hW W
      go_enter Try.func14, Try.ntmps14
      go_wp2
      · have e := HB.out
        rw [show (s.toList == x.toList) = true by assumption] at e
        exact absurd ⟨by assumption, by assumption, by simpa using e.symm⟩ HA.out
      all_goals
        go_loopg [24] m (fun q i wr => ∃ k : Nat, k + q = m ∧ i = .int .i64 k ∧ Hid (saysL x (ks.drop k) = R) ∧ Below w.heap.size w wr)
        case atStart => exact ⟨0, by omega, rfl, HR.out.symm, HB0.out⟩
        case round =>
          obtain ⟨k, hk, rfl, hal, hb⟩ := hrel
          have Hk := Lib.hid hk
          have hkn : k ≤ m := by omega
          have Hb := Lib.hid hb
          clear hk hb
          have hsz := Hb.out.size
          by_cases hlt : k < m
          · have hlt' : (k : Int) < (m : Int) := by omega
            obtain ⟨g, off, rfl, hg, hq⟩ := HQ.out (by rw [← HM.out]; omega)
            obtain ⟨t, ht, htm⟩ := kid_get (ks := ks) (k := k) (by rw [← HM.out]; omega)
            obtain ⟨kd', nm', s', a', n', c', q0, q1, q2, q3, q4⟩ := hq.getF k t ht
            have m0 := cell_below Hb.out hg q0
            have m1 := cell_below Hb.out hg q1
            have m2 := cell_below Hb.out hg q2
            have m3 := cell_below Hb.out hg q3
            have hb1 : Below w.heap.size w (wr.alloc (.cells #[.int .u8 kd', .int .i64 nm', .string s', .slice a' n' c'] 24)) := Hb.out.alloc hsz _
            have HB1 := Lib.hid hb1
            have HC := Lib.hid (IH.out t htm _ _ (q4.below hb1 (Nat.le_refl _)))
            have hal2 := hal.out
            rw [drop_cons ht, saysL] at hal2
            clear hq q0 q1 q2 q3 q4 ht htm hal hb1
            go_wp2_with fail
            refine HC.out.mono ?_
            generalize says x t = r at *
            rintro e w2 ⟨rfl, hb2⟩
            have HB2 := Lib.hid (below_next HB1.out (Nat.le_refl _) hb2)
            clear hb2 HC
            cases r with
            | true =>
              have hr : R = true := by rw [← hal2]; rfl
              subst hr
              clear hal2
              go_wp2
              go_ret
              exact ⟨rfl, HB2.out⟩
            | false =>
              have HAL := Lib.hid hal2
              clear hal2
              go_wp2
              have hk := Hk.out
              go_roundg (m - (k + 1))
              case measure => omega
              case rel => exact ⟨k + 1, by omega, by go_num, HAL.out, HB2.out⟩
          · have hge : ¬ (k : Int) < (m : Int) := by omega
            have hr : R = false := by
              have := hal.out
              rw [List.drop_eq_nil_of_le (by rw [← HM.out]; omega)] at this
              exact this.symm
            subst hr
            clear hal
            go_wp2
            go_ret
            exact ⟨rfl, Hb.out⟩
set_option maxRecDepth 100000 in
set_option maxHeartbeats 2000000 in
theorem variables_any : ∀ (t : T) (v : Value) (w : World), NodeAt w v t →
    Calls Try.prog 22 #[v] w fun e w' => e = .returned (.bool (hasVar t)) ∧ Below w.heap.size w w' := by
  intro t
  induction t using T.ind with
  | h kd nm s ks ih =>
    intro v w h
    obtain ⟨u, rfl, hkd, hnm, hs, a, c, rfl, hn, hm, hq⟩ := NodeAt.mk_iff.1 h
    rw [hasVar]
    have IH := Lib.hid ih
    have HQ := Lib.hid hq
    obtain ⟨hk0, hk255⟩ := hkd
    obtain ⟨m, hmk⟩ : ∃ m, m = ks.length := ⟨_, rfl⟩
    rw [← hmk] at hn ⊢
    have hm63 : m ≤ 9223372036854775807 := by unfold maxLen at hm; omega
    have HM := Lib.hid hmk
    obtain ⟨R, hR⟩ : ∃ R, R = hasVarL ks := ⟨_, rfl⟩
    rw [← hR]
    have HR := Lib.hid hR
    have hB0 := below_alloc w (.cells #[.int .u8 kd, .int .i64 nm, .string s, .slice a m c] 24)
    have HB0 := Lib.hid hB0
    by_cases hA : 2 ≤ kd ∧ kd ≤ 5
    · obtain ⟨h2, h5⟩ := hA
      have hr : (decide (2 ≤ kd) && decide (kd ≤ 5) || R) = true := by simp [h2, h5]
      rw [hr]
      clear ih hq h hnm hs hn hm hmk hR hr hB0
      go_enter Try.func22, Try.ntmps22
      go_wp2
      go_ret
      exact ⟨rfl, HB0.out⟩
    · have hr : (decide (2 ≤ kd) && decide (kd ≤ 5) || R) = R := by
        rw [Bool.or_eq_right_iff_imp]
        intro hh
        simp only [Bool.and_eq_true, decide_eq_true_eq] at hh
        exact absurd ⟨hh.1, hh.2⟩ hA
      rw [hr]
      have HA := Lib.hid hA
      generalize hW : w.alloc (.cells #[.int .u8 kd, .int .i64 nm, .string s, .slice a m c] 24) = W at hB0
      clear hr ih hq h hnm hs hn hm hmk hR hA hB0 hW W
      go_enter Try.func22, Try.ntmps22
      go_wp2
      · exact absurd ⟨by assumption, by assumption⟩ HA.out
      all_goals
        go_loopg [16] m (fun q i wr => ∃ k : Nat, k + q = m ∧ i = .int .i64 k ∧ Hid (hasVarL (ks.drop k) = R) ∧ Below w.heap.size w wr)
        case atStart => exact ⟨0, by omega, rfl, HR.out.symm, HB0.out⟩
        case round =>
          obtain ⟨k, hk, rfl, hal, hb⟩ := hrel
          have Hk := Lib.hid hk
          have hkn : k ≤ m := by omega
          have Hb := Lib.hid hb
          clear hk hb
          have hsz := Hb.out.size
          by_cases hlt : k < m
          · have hlt' : (k : Int) < (m : Int) := by omega
            obtain ⟨g, off, rfl, hg, hq⟩ := HQ.out (by rw [← HM.out]; omega)
            obtain ⟨t, ht, htm⟩ := kid_get (ks := ks) (k := k) (by rw [← HM.out]; omega)
            obtain ⟨kd', nm', s', a', n', c', q0, q1, q2, q3, q4⟩ := hq.getF k t ht
            have m0 := cell_below Hb.out hg q0
            have m1 := cell_below Hb.out hg q1
            have m2 := cell_below Hb.out hg q2
            have m3 := cell_below Hb.out hg q3
            have hb1 : Below w.heap.size w (wr.alloc (.cells #[.int .u8 kd', .int .i64 nm', .string s', .slice a' n' c'] 24)) := Hb.out.alloc hsz _
            have HB1 := Lib.hid hb1
            have HC := Lib.hid (IH.out t htm _ _ (q4.below hb1 (Nat.le_refl _)))
            have hal2 := hal.out
            rw [drop_cons ht, hasVarL] at hal2
            clear hq q0 q1 q2 q3 q4 ht htm hal hb1
            go_wp2_with fail
            refine HC.out.mono ?_
            generalize hasVar t = r at *
            rintro e w2 ⟨rfl, hb2⟩
            have HB2 := Lib.hid (below_next HB1.out (Nat.le_refl _) hb2)
            clear hb2 HC
            cases r with
            | true =>
              have hr : R = true := by rw [← hal2]; rfl
              subst hr
              clear hal2
              go_wp2
              go_ret
              exact ⟨rfl, HB2.out⟩
            | false =>
              have HAL := Lib.hid hal2
              clear hal2
              go_wp2
              have hk := Hk.out
              go_roundg (m - (k + 1))
              case measure => omega
              case rel => exact ⟨k + 1, by omega, by go_num, HAL.out, HB2.out⟩
          · have hge : ¬ (k : Int) < (m : Int) := by omega
            have hr : R = false := by
              have := hal.out
              rw [List.drop_eq_nil_of_le (by rw [← HM.out]; omega)] at this
              exact this.symm
            subst hr
            clear hal
            go_wp2
            go_ret
            exact ⟨rfl, Hb.out⟩

set_option maxRecDepth 100000 in
set_option maxHeartbeats 4000000 in
theorem small_any : ∀ (t : T) (v : Value) (W0 w : World) (b : Nat) (d L : Int), NodeAt W0 v t → Below W0.heap.size W0 w → W0.heap.size ≤ b → Blk w b 3 #[.int .i64 L] → 0 ≤ d → d ≤ 100 → 0 ≤ L → L ≤ 100000 →
    Calls Try.prog 51 #[v, .int .i64 d, .pointer (some ⟨b, 0, none⟩)] w fun e w' => e = .returned (.bool (smT t d L).1) ∧ Blk w' b 3 #[.int .i64 (smT t d L).2] ∧ w.grownBy w' (some b) := by
  intro t
  induction t using T.ind with
  | h kd nm s ks ih =>
    intro v W0 w b d L h hb0 hB hblk hd0 hd1 hL0 hL1
    obtain ⟨u, rfl, -, hnm, hs, a, c, rfl, hn, hm, hq⟩ := NodeAt.mk_iff.1 h
    rw [smT]
    have IH := Lib.hid ih
    have HQ := Lib.hid hq
    have HB := Lib.hid hb0
    have HK := Lib.hid hblk
    have hbw := hblk.lt
    obtain ⟨m, hmk⟩ : ∃ m, m = ks.length := ⟨_, rfl⟩
    rw [← hmk] at hn ⊢
    have hm63 : m ≤ 9223372036854775807 := by unfold maxLen at hm; omega
    have hs63 : s.size ≤ 9223372036854775807 := by unfold maxLen at hs; omega
    have HM := Lib.hid hmk
    clear hs hm
    obtain ⟨w1, hw1⟩ : ∃ w1, w1 = (w.setCell ⟨b, 0, none⟩ (.int .i64 (L - 1))).alloc (.cells #[.int .u8 kd, .int .i64 nm, .string s, .slice a m c] 24) := ⟨_, rfl⟩
    have hk1 : Blk w1 b 3 #[.int .i64 (L - 1)] := by rw [hw1]; exact (hblk.set 0 _).al _
    have hg1 : w.grownBy w1 (some b) := by rw [hw1]; exact gr_alloc (gr_set (gr_refl _ _) _ _) _
    have hn1 : Blk w1 w.heap.size 24 #[.int .u8 kd, .int .i64 nm, .string s, .slice a m c] := by rw [hw1]; exact Blk.new' (by simp)
    have b0 := hblk.cell 0
    have b1 := hblk.free 0
    have b2 := hk1.cell 0
    have n2 := hn1.cell 2
    have n3 := hn1.cell 3
    have HK1 := Lib.hid hk1
    have HG1 := Lib.hid hg1
    have HN1 := Lib.hid hn1
    clear ih hq hb0 hblk hn hmk hk1 hg1 hn1 h hnm
    subst hw1
    by_cases hA : L < 1
    · rw [if_pos (.inl (by omega))]
      go_enter Try.func51, Try.ntmps51
      go_wp2
      go_ret
      exact ⟨rfl, HK1.out, HG1.out⟩
    have hL1 : 1 ≤ L := by omega
    clear hA
    by_cases hA : d = 0
    · subst hA
      rw [if_pos (.inr (.inl rfl))]
      go_enter Try.func51, Try.ntmps51
      go_wp2
      go_ret
      exact ⟨rfl, HK1.out, HG1.out⟩
    have hd2 : 1 ≤ d := by omega
    have hd3 : (d == 0) = false := by simpa using hA
    clear hA
    by_cases hA : 40 < s.size
    · have hA' : (40 : Int) < (s.size : Int) := by omega
      rw [if_pos (.inr (.inr hA))]
      clear hA
      go_enter Try.func51, Try.ntmps51
      go_wp2
      go_ret
      exact ⟨rfl, HK1.out, HG1.out⟩
    have hA' : (s.size : Int) ≤ 40 := by omega
    rw [if_neg (by omega)]
    clear hA
    generalize hR : smL ks (d - 1) (L - 1) = R at *
    obtain ⟨R1, R2⟩ := R
    have HR := Lib.hid hR
    clear hR
    go_enter Try.func51, Try.ntmps51
    go_wp2
    generalize (w.setCell ⟨b, 0, none⟩ (.int .i64 (L - 1))).alloc (.cells #[.int .u8 kd, .int .i64 nm, .string s, .slice a m c] 24) = w1 at *
    go_loopg [31] m (fun q i wr => ∃ (k : Nat) (Lk : Int), k + q = m ∧ i = .int .i64 k ∧ Hid (smL (ks.drop k) (d - 1) Lk = (R1, R2)) ∧ 0 ≤ Lk ∧ Lk ≤ L ∧ Blk wr b 3 #[.int .i64 Lk] ∧ w.grownBy wr (some b))
    case atStart => exact ⟨0, L - 1, by omega, rfl, HR.out, by omega, by omega, HK1.out, HG1.out⟩
    case round =>
      obtain ⟨k, Lk, hk, rfl, hal, hk0, hk1, hblk, hgr⟩ := hrel
      have Hk := Lib.hid hk
      have hkn : k ≤ m := by omega
      have HBR := Lib.hid hblk
      have HGR := Lib.hid hgr
      have hbr := hblk.lt
      have hsz := hgr.size
      clear hk hblk hgr
      by_cases hlt : k < m
      · have hlt' : (k : Int) < (m : Int) := by omega
        obtain ⟨g, off, rfl, hg, hq⟩ := HQ.out (by rw [← HM.out]; omega)
        obtain ⟨t, ht, htm⟩ := kid_get (ks := ks) (k := k) (by rw [← HM.out]; omega)
        obtain ⟨kd', nm', s', a', n', c', q0, q1, q2, q3, q4⟩ := hq.getF k t ht
        have hbW : Below W0.heap.size W0 wr := HB.out.grown HGR.out HB.out.size (fun j hj => by cases hj; exact hB)
        have m0 := cell_below hbW hg q0
        have m1 := cell_below hbW hg q1
        have m2 := cell_below hbW hg q2
        have m3 := cell_below hbW hg q3
        have HC := Lib.hid (IH.out t htm _ W0 (wr.alloc (.cells #[.int .u8 kd', .int .i64 nm', .string s', .slice a' n' c'] 24)) b (d - 1) Lk q4 (hbW.alloc hbW.size _) hB (HBR.out.al _) (by omega) (by omega) (by omega) (by omega))
        have hal2 := hal.out
        rw [drop_cons ht, smL] at hal2
        have hbd := smT_bd t (d - 1) Lk hk0
        clear hq q0 q1 q2 q3 q4 ht htm hal hbW
        go_wp2_with fail
        refine HC.out.mono ?_
        generalize smT t (d - 1) Lk = p at *
        obtain ⟨p1, p2⟩ := p
        simp only at hal2 hbd
        rintro e w2 ⟨rfl, hk2, hg2⟩
        have HK2 := Lib.hid hk2
        have HG2 := Lib.hid (gr_grown (gr_alloc HGR.out _) hg2 (fun j hj => .inl (by cases hj; rfl)))
        clear hk2 hg2 HC
        cases p1 with
        | false =>
          rw [if_neg (by simp)] at hal2
          obtain ⟨rfl, rfl⟩ := Prod.mk.inj hal2
          clear hal2 hbd
          go_wp2
          go_ret
          exact ⟨rfl, HK2.out, HG2.out⟩
        | true =>
          rw [if_pos rfl] at hal2
          have HAL := Lib.hid hal2
          have hp2 : 0 ≤ p2 := hbd.2.2 rfl
          have hp3 : p2 ≤ L := by omega
          clear hal2 hbd
          go_wp2
          have hk := Hk.out
          go_roundg (m - (k + 1))
          case measure => omega
          case rel => exact ⟨k + 1, p2, by omega, by go_num, HAL.out, hp2, hp3, HK2.out, HG2.out⟩
      · have hge : ¬ (k : Int) < (m : Int) := by omega
        have hr := hal.out
        rw [List.drop_eq_nil_of_le (by rw [← HM.out]; omega), smL] at hr
        obtain ⟨rfl, rfl⟩ := Prod.mk.inj hr
        clear hal hr
        go_wp2
        go_ret
        exact ⟨rfl, HBR.out, HGR.out⟩
end Go.Proofs.Ytlpmoklcdocmmaa
