/- The walk of the law LexerSolid. -/
import Derived.Test.YtgnnkddneoghmaaLexS2
import Derived.Test.YtgnnkddneoghmaaLexLossless
import Derived.Lib.SmallJoins
namespace Go.Proofs.Ytgnnkddneoghmaa
open Go.RowKit

theorem TokAt.below {w w' : World} {g o k : Nat} {t : RTok} {B : Nat} (h : TokAt w g o k t) (hb : Below B w w') (hg : g < B) : TokAt w' g o k t :=
  ⟨below_old hb hg h.1, below_old hb hg h.2.1, below_old hb hg h.2.2⟩
theorem ToksAt.below {w w' : World} {v : Value} {T : List RTok} (h : ToksAt w v T) {B : Nat} (hb : Below B w w') (hB : w.heap.size ≤ B) : ToksAt w' v T := by
  rcases h with h | ⟨h0, g, o, cap, h1, h2, h3, h4⟩
  · exact Or.inl h
  · exact Or.inr ⟨h0, g, o, cap, h1, Nat.lt_of_lt_of_le h2 hb.size, h3, fun k t hk => ⟨(h4 k t hk).1.below hb (by omega), (h4 k t hk).2⟩⟩

theorem rsolid_any (T : List RTok) (v : Value) (w : World) (h : ToksAt w v T) (h32 : T.length ≤ 4398046511104) :
    Calls Try.prog 16 #[v] w fun e w' => ∃ v, e = .returned v ∧ w'.ownsRow w.heap.size 33 3 v (rsolidT T).length (rCells (rsolidT T)) ∧ Below w.heap.size w w' := by
  rcases h with ⟨h0, a, c, rfl⟩ | ⟨_, g, o, cap, rfl, hg, hm, hc⟩
  · have : T = [] := List.eq_nil_of_length_eq_zero h0
    subst this
    refine (rsolid_none a c w).mono ?_
    rintro e w' ⟨rfl, rfl⟩
    exact ⟨_, rfl, World.ownsRow_nil _ _ _ _, Below.refl _ _⟩
  · exact rsolid_some T g o cap h32 w hg hc

theorem rjoin_any (T : List RTok) (v : Value) (w : World) (h : ToksAt w v T) (hJ : (joinR T).length ≤ 140737488355328) :
    Calls Try.prog 22 #[v] w fun e w' => e = .returned (.string ⟨(joinR T).toArray⟩) ∧ Below w.heap.size w w' := by
  rcases h with ⟨h0, a, c, rfl⟩ | ⟨_, g, o, cap, rfl, hg, hm, hc⟩
  · have : T = [] := List.eq_nil_of_length_eq_zero h0
    subst this
    exact join_none a c w
  · exact rjoin_some T g o cap hm w hg hc hJ

theorem own_below' {w w' : World} {base : Nat} {e : TypeId} {size : Nat} {v : Value} {n : Nat} {xs : List Value} (h : w.ownsRow base e size v n xs) {B : Nat} (hb : Below B w w') (hB : w.heap.size ≤ B) : w'.ownsRow base e size v n xs :=
  h.kept (row := none) ⟨hb.os, hb.tape, hb.output, hb.size, fun i hi _ => hb.block i (Nat.lt_of_lt_of_le hi hB)⟩ (by cases v.ownBlock <;> simp)

theorem rtok_cells {l : List RTok} {i : Nat} {t : RTok} (h : l[i]? = some t) :
    (rCells l)[i * 3]? = some (.int .u8 t.kind) ∧ (rCells l)[i * 3 + 1]? = some (.string t.text) ∧ (rCells l)[i * 3 + 2]? = some (.int .i64 t.pos) := by
  induction l generalizing i with
  | nil => simp at h
  | cons a r ih =>
    cases i with
    | zero =>
      simp only [List.getElem?_cons_zero, Option.some.injEq] at h
      subst h
      simp [rCells, rCell]
    | succ i =>
      simp only [List.getElem?_cons_succ] at h
      have e : rCells (a :: r) = .int .u8 a.kind :: .string a.text :: .int .i64 a.pos :: rCells r := by simp [rCells, rCell]
      have h1 : (i + 1) * 3 = i * 3 + 1 + 1 + 1 := by omega
      rw [e, h1]
      simp only [List.getElem?_cons_succ]
      exact ih h

theorem drewN_below {w w' : World} {B : Nat} (h : Below B w w') (n : Nat) : Below B w (w'.drewN n) := ⟨h.os, h.tape, h.output, h.size, h.block⟩

theorem bytes_app (l : List UInt8) (s : ByteArray) : (⟨l.toArray⟩ : ByteArray) ++ s = ⟨(l ++ s.data.toList).toArray⟩ := by
  apply ByteArray.ext
  simp

set_option maxRecDepth 100000 in
set_option maxHeartbeats 4000000 in
theorem solidlaw_any (T : List RTok) (v : Value) (w : World) (h : ToksAt w v T) :
    Calls Try.prog 11 #[v] w fun e w' => e = .returned (.bool true) ∧ Below w.heap.size w w' := by
  have H := Lib.hid h
  by_cases hbig : 60 < T.length
  · rcases h with ⟨h0, a, c, rfl⟩ | ⟨_, g, o, cap, rfl, _⟩
    · omega
    · have hb' : (60 : Int) < (T.length : Int) := by omega
      generalize T.length = n at *
      go_enter Try.func11, Try.ntmps11
      go_wp2_with (go_at_call 12; refine (awake_any _).mono ?_; rintro e w1 ⟨rfl, hb1⟩)
      go_ret
      exact ⟨rfl, hb1⟩
  obtain ⟨i0, hi, hz0, hz1, hz2⟩ := info_parts tokInfo
  rcases h with ⟨h0, a, c, rfl⟩ | ⟨hpos, g, o, cap, rfl, hg, hm, hc⟩
  · have : T = [] := List.eq_nil_of_length_eq_zero h0
    subst this
    clear h0 hbig
    go_enter Try.func11, Try.ntmps11
    go_wp2_with (go_at_call 12; refine (awake_any _).mono ?_; rintro e w0 ⟨rfl, hb0⟩; have Hb0 := Lib.hid hb0; clear hb0)
    refine wp_loop_rounds 1 ?_
    rw [rounds_succ]
    go_wp2_with fail
    refine (rsolid_none a c _).mono ?_
    rintro e w1 ⟨rfl, rfl⟩
    go_wp2_with fail
    refine (rjoin_any [] _ _ (Or.inl ⟨rfl, a, c, rfl⟩) (by simp [joinR])).mono ?_
    rintro e w2 ⟨rfl, hb2⟩
    have Hb2 := Lib.hid (Hb0.out.trans (hb2.mono Hb0.out.size))
    have e0 : (⟨(joinR []).toArray⟩ : ByteArray) = ⟨#[]⟩ := rfl
    rw [e0]
    clear hb2
    go_wp2
    refine wp_loop_rounds 1 ?_
    rw [rounds_succ]
    go_wp2_with fail
    refine (rjoin_any [] _ _ (Or.inl ⟨rfl, a, c, rfl⟩) (by simp [joinR])).mono ?_
    rintro e w3 ⟨rfl, hb3⟩
    rw [e0]
    go_wp2
    go_ret
    exact ⟨rfl, Hb2.out.trans (hb3.mono Hb2.out.size)⟩
  · have HC := Lib.hid hc
    obtain ⟨n, hnn⟩ : ∃ n, n = T.length := ⟨_, rfl⟩
    rw [← hnn] at hbig hpos ⊢
    have HN := Lib.hid hnn
    have hn60 : n ≤ 60 := by omega
    have hn60' : (n : Int) ≤ 60 := by omega
    rw [← hnn] at H
    clear hc hnn hm hbig
    go_enter Try.func11, Try.ntmps11
    go_wp2_with (go_at_call 12; refine (awake_any _).mono ?_; rintro e w0 ⟨rfl, hb0⟩; have Hb0 := Lib.hid hb0; clear hb0)
    go_loopg [3, 4, 5] n (fun q sv v i wr => ∃ k : Nat, k + q = n ∧ i = .int .i64 k ∧ sv = .string ⟨(joinR (T.take k)).toArray⟩ ∧ (joinR (T.take k)).length ≤ 40 * k ∧
      wr.ownsRow w.heap.size 33 3 v (rsolidT (T.take k)).length (rCells (rsolidT (T.take k))) ∧ Below w.heap.size w wr)
    case atStart => exact ⟨0, by omega, rfl, rfl, by simp [joinR], World.ownsRow_nil _ _ _ _, Hb0.out⟩
    case round =>
      obtain ⟨k, hk, rfl, rfl, hjl, hown, hb⟩ := hrel
      have Hk := Lib.hid hk
      have hkn : k ≤ n := by omega
      have Hown := Lib.hid hown
      have Hb := Lib.hid hb
      have Hjl := Lib.hid hjl
      clear hk hown hb hjl
      by_cases hlt : k < n
      · have hlt' : (k : Int) < (n : Int) := by omega
        have htk : ∃ t, T[k]? = some t := ⟨_, List.getElem?_eq_getElem (by rw [← HN.out]; exact hlt)⟩
        obtain ⟨t, ht⟩ := htk
        obtain ⟨m0, m1, m2⟩ := (HC.out k t ht).1.below Hb.out hg
        have hsl := rsolid_len T k
        have HST := Lib.hid (rsolid_take ht)
        have hjt := joinR_take ht
        have hsz := Hb.out.size
        clear ht
        obtain ⟨kd, tx, ps⟩ := t
        simp only at m0 m1 m2 hjt
        have HJT := Lib.hid hjt
        clear hjt
        by_cases h40 : 40 < tx.size
        · have h40' : (40 : Int) < (tx.size : Int) := by omega
          go_wp2
          go_ret
          exact ⟨rfl, Hb.out⟩
        · have h40' : (tx.size : Int) ≤ 40 := by omega
          have hjl2 : (joinR (T.take (k + 1))).length ≤ 40 * (k + 1) := by
            have := Hjl.out
            rw [HJT.out, List.length_append, show tx.data.toList.length = tx.size from by simp]
            omega
          have HJL := Lib.hid hjl2
          have hsx : (⟨(joinR (T.take k)).toArray⟩ : ByteArray) ++ tx = ⟨(joinR (T.take (k + 1))).toArray⟩ := by rw [HJT.out, bytes_app]
          have HSX := Lib.hid hsx
          have hss : (⟨(joinR (T.take k)).toArray⟩ : ByteArray).size ≤ 2400 := by
            have := Hjl.out
            simp only [ByteArray.size, List.size_toArray]
            omega
          have hss' : ((⟨(joinR (T.take k)).toArray⟩ : ByteArray).size : Int) ≤ 2400 := by omega
          have h40n : tx.size ≤ 40 := by omega
          clear hjl2 hsx h40 HJT
          generalize (⟨(joinR (T.take k)).toArray⟩ : ByteArray) = S at *
          by_cases h4 : kd = 4
          · subst h4
            have hs : rsolidB ⟨4, tx, ps⟩ = false := rfl
            have HS := Lib.hid hs
            clear hs
            go_wp2
            have hk := Hk.out
            have hst := HST.out
            rw [HS.out] at hst
            simp only [Bool.false_eq_true, if_false] at hst
            go_roundg (n - (k + 1))
            case measure => omega
            case rel => exact ⟨k + 1, by omega, by go_num, by rw [HSX.out], HJL.out, by rw [hst]; exact Hown.out, Hb.out⟩
          by_cases h5 : kd = 5
          · subst h5
            have hs : rsolidB ⟨5, tx, ps⟩ = false := rfl
            have HS := Lib.hid hs
            clear hs
            go_wp2
            have hk := Hk.out
            have hst := HST.out
            rw [HS.out] at hst
            simp only [Bool.false_eq_true, if_false] at hst
            go_roundg (n - (k + 1))
            case measure => omega
            case rel => exact ⟨k + 1, by omega, by go_num, by rw [HSX.out], HJL.out, by rw [hst]; exact Hown.out, Hb.out⟩
          have hs : rsolidB ⟨kd, tx, ps⟩ = true := by simp [rsolidB, h4, h5]
          have HS := Lib.hid hs
          clear hs
          have h4' : (kd != 4) = true := by simpa using h4
          have h5' : (kd != 5) = true := by simpa using h5
          clear h4 h5
          go_wp2_with (at_builtin; refine wpList_append_own _ rfl (.tmp 47) (.tmp 52) 23 rfl w.heap.size 33 i0 (.agg #[.int .u8 0, .string ByteArray.empty, .int .i64 0]) 3 32 Try.underlying23 hi hz0 hz1 hz2 rfl (by decide) _ _ _ rfl (Hown.out.alloc _) ⟨wr.heap.size, 0, none⟩ 1 1 [.int .u8 kd, .string tx, .int .i64 ps] rfl rfl ?c1 ?c2 ?c3 ?c4 ?c5 ?_)
          case c1 => exact cell_three_new _ _ _ _ _
          case c2 => intro u hu; simp only [List.mem_cons, List.not_mem_nil, or_false] at hu; rcases hu with rfl | rfl | rfl <;> rfl
          case c3 => unfold maxLen; omega
          case c4 => omega
          case c5 => simp; omega
          intro v' w1 hown1 hgrow _
          have hb1 : Below w.heap.size w w1 := (Hb.out.alloc hsz _).grown hgrow (by simp; omega) (fun j hj => (Hown.out.lt j hj).1)
          clear hgrow Hown
          have Hown1 := Lib.hid hown1
          have Hb1 := Lib.hid hb1
          clear hown1 hb1
          go_wp2
          have hk := Hk.out
          have hst := HST.out
          rw [HS.out] at hst
          simp only [if_true] at hst
          go_roundg (n - (k + 1))
          case measure => omega
          case rel =>
            refine ⟨k + 1, by omega, by go_num, by rw [HSX.out], HJL.out, ?_, Hb1.out⟩
            rw [hst, rCells_snoc, List.length_append, List.length_singleton]
            exact Hown1.out
      · have hge : ¬ (k : Int) < (n : Int) := by omega
        have hke : k = n := by omega
        have hown := Hown.out
        have hjl := Hjl.out
        have htk : T.take k = T := List.take_of_length_le (by rw [← HN.out]; omega)
        rw [htk] at hown hjl ⊢
        have HJ : Hid ((joinR T).length ≤ 140737488355328) := by unfold Hid; omega
        have HN60 : Hid (T.length ≤ 4398046511104) := by unfold Hid; rw [← HN.out]; omega
        obtain ⟨S, hS⟩ : ∃ S : ByteArray, S = ⟨(joinR T).toArray⟩ := ⟨_, rfl⟩
        rw [← hS]
        have HS := Lib.hid hS
        obtain ⟨nm, hnm⟩ : ∃ nm, nm = (rsolidT T).length := ⟨_, rfl⟩
        have hnm60 : nm ≤ 60 := by rw [hnm]; exact Nat.le_trans (List.length_filter_le _ _) (by rw [← HN.out]; exact hn60)
        rw [← hnm] at hown
        have HNM := Lib.hid hnm
        have Hown2 := Lib.hid hown
        have HT := Lib.hid (H.out.below Hb.out (Nat.le_refl _))
        have HLT := Lib.hid Hown2.out.lt
        clear hown hjl htk hS hnm hke Hown Hjl H HC
        go_wp2_with fail
        refine (rsolid_any T _ _ HT.out HN60.out).mono ?_
        rw [← HNM.out]
        rintro e w2 ⟨v2, rfl, hown2, hb2⟩
        have hsz := Hb.out.size
        have Hb2 := Lib.hid (Hb.out.trans (hb2.mono hsz))
        have HT2 := Lib.hid (HT.out.below hb2 (Nat.le_refl _))
        have HK2 := Lib.hid (own_below' Hown2.out hb2 (Nat.le_refl _))
        have HM2 := Lib.hid hown2
        have HB2 := Lib.hid hb2
        clear hown2 hb2 Hown2
        rcases Nat.eq_zero_or_pos nm with h0 | hp
        · subst h0
          rcases Joins.ownsRow_forms HK2.out with ⟨rfl, _⟩ | ⟨bk, ck, rfl⟩
          · rcases Joins.ownsRow_forms HM2.out with ⟨rfl, _⟩ | ⟨bm, cm, rfl⟩
            · go_wp2_with fail
              refine (rjoin_any T _ _ HT2.out HJ.out).mono ?_
              rw [← HS.out]
              rintro e w3 ⟨rfl, hb3⟩
              have Hb3 := Lib.hid (Hb2.out.trans (hb3.mono Hb2.out.size))
              have HT3 := Lib.hid (HT2.out.below hb3 (Nat.le_refl _))
              clear hb3
              go_wp2
              refine wp_loop_rounds 1 ?_
              rw [rounds_succ]
              go_wp2_with fail
              refine (rjoin_any T _ _ HT3.out HJ.out).mono ?_
              rw [← HS.out]
              rintro e w4 ⟨rfl, hb4⟩
              have Hb4 := Lib.hid (Hb3.out.trans (hb4.mono Hb3.out.size))
              clear hb4
              go_wp2
              go_ret
              exact ⟨rfl, Hb4.out⟩
            · go_wp2_with fail
              refine (rjoin_any T _ _ HT2.out HJ.out).mono ?_
              rw [← HS.out]
              rintro e w3 ⟨rfl, hb3⟩
              have Hb3 := Lib.hid (Hb2.out.trans (hb3.mono Hb2.out.size))
              have HT3 := Lib.hid (HT2.out.below hb3 (Nat.le_refl _))
              clear hb3
              go_wp2
              refine wp_loop_rounds 1 ?_
              rw [rounds_succ]
              go_wp2_with fail
              refine (rjoin_any T _ _ HT3.out HJ.out).mono ?_
              rw [← HS.out]
              rintro e w4 ⟨rfl, hb4⟩
              have Hb4 := Lib.hid (Hb3.out.trans (hb4.mono Hb3.out.size))
              clear hb4
              go_wp2
              go_ret
              exact ⟨rfl, Hb4.out⟩
          · rcases Joins.ownsRow_forms HM2.out with ⟨rfl, _⟩ | ⟨bm, cm, rfl⟩
            · go_wp2_with fail
              refine (rjoin_any T _ _ HT2.out HJ.out).mono ?_
              rw [← HS.out]
              rintro e w3 ⟨rfl, hb3⟩
              have Hb3 := Lib.hid (Hb2.out.trans (hb3.mono Hb2.out.size))
              have HT3 := Lib.hid (HT2.out.below hb3 (Nat.le_refl _))
              clear hb3
              go_wp2
              refine wp_loop_rounds 1 ?_
              rw [rounds_succ]
              go_wp2_with fail
              refine (rjoin_any T _ _ HT3.out HJ.out).mono ?_
              rw [← HS.out]
              rintro e w4 ⟨rfl, hb4⟩
              have Hb4 := Lib.hid (Hb3.out.trans (hb4.mono Hb3.out.size))
              clear hb4
              go_wp2
              go_ret
              exact ⟨rfl, Hb4.out⟩
            · go_wp2_with fail
              refine (rjoin_any T _ _ HT2.out HJ.out).mono ?_
              rw [← HS.out]
              rintro e w3 ⟨rfl, hb3⟩
              have Hb3 := Lib.hid (Hb2.out.trans (hb3.mono Hb2.out.size))
              have HT3 := Lib.hid (HT2.out.below hb3 (Nat.le_refl _))
              clear hb3
              go_wp2
              refine wp_loop_rounds 1 ?_
              rw [rounds_succ]
              go_wp2_with fail
              refine (rjoin_any T _ _ HT3.out HJ.out).mono ?_
              rw [← HS.out]
              rintro e w4 ⟨rfl, hb4⟩
              have Hb4 := Lib.hid (Hb3.out.trans (hb4.mono Hb3.out.size))
              clear hb4
              go_wp2
              go_ret
              exact ⟨rfl, Hb4.out⟩
        · rcases Joins.ownsRow_forms HK2.out with ⟨_, h0⟩ | ⟨bk, ck, rfl⟩
          · omega
          rcases Joins.ownsRow_forms HM2.out with ⟨_, h0⟩ | ⟨bm, cm, rfl⟩
          · omega
          go_wp2_with fail
          refine (rjoin_any T _ _ HT2.out HJ.out).mono ?_
          rw [← HS.out]
          rintro e w3 ⟨rfl, hb3⟩
          have Hb3 := Lib.hid (Hb2.out.trans (hb3.mono Hb2.out.size))
          have HT3 := Lib.hid (HT2.out.below hb3 (Nat.le_refl _))
          have HK3 := Lib.hid (own_below' HK2.out hb3 (Nat.le_refl _))
          have HM3 := Lib.hid (own_below' HM2.out hb3 (Nat.le_refl _))
          have hbk : bk < wr.heap.size := (HLT.out bk rfl).2
          have hbm : wr.heap.size ≤ bm := (HM3.out.lt bm rfl).1
          have Hbk := Lib.hid hbk
          have Hbm := Lib.hid hbm
          have hnm63 : nm ≤ 9223372036854775807 := by omega
          have HB3 := Lib.hid (HB2.out.trans (hb3.mono HB2.out.size))
          clear hb3 HLT HK2 HM2 HT2 HT3 hbk hbm
          go_wp2
          obtain ⟨wo, hwo⟩ : ∃ wo : World, wo = wr := ⟨_, rfl⟩
          subst hwo
          go_loopg [7] nm (fun q i wx => ∃ (j : Nat) (ys : List Value), j + q = nm ∧ i = .int .i64 j ∧ wx.ownsRow wo.heap.size 33 3 (.slice (some ⟨bm, 0, none⟩) nm cm) nm ys ∧
            (∀ z, j * 3 ≤ z → ys[z]? = (rCells (rsolidT T))[z]?) ∧ Below wo.heap.size w3 wx)
          case atStart => exact ⟨0, _, by omega, rfl, HM3.out, fun _ _ => rfl, Below.refl _ _⟩
          case round =>
            obtain ⟨j, ys, hj, rfl, hown, hys, hb⟩ := hrel
            have Hj := Lib.hid hj
            have hjn : j ≤ nm := by omega
            have Hown := Lib.hid hown
            have Hys := Lib.hid hys
            have Hbx := Lib.hid hb
            clear hj hown hys hb
            by_cases hlt2 : j < nm
            · have hlt2' : (j : Int) < (nm : Int) := by omega
              have htj : ∃ t, (rsolidT T)[j]? = some t := ⟨_, List.getElem?_eq_getElem (by rw [← HNM.out]; exact hlt2)⟩
              obtain ⟨t, ht⟩ := htj
              obtain ⟨q0, q1, q2⟩ := rtok_cells ht
              have m0 := (Hown.out.cellAt (j * 3) (by omega)).trans ((Hys.out _ (by omega)).trans q0)
              have m1 := (Hown.out.cellAt (j * 3 + 1) (by omega)).trans ((Hys.out _ (by omega)).trans q1)
              have m2 := (Hown.out.cellAt (j * 3 + 2) (by omega)).trans ((Hys.out _ (by omega)).trans q2)
              have l0 := below_old Hbx.out Hbk.out ((HK3.out.cellAt (j * 3) (by omega)).trans q0)
              have l1 := below_old Hbx.out Hbk.out ((HK3.out.cellAt (j * 3 + 1) (by omega)).trans q1)
              have l2 := below_old Hbx.out Hbk.out ((HK3.out.cellAt (j * 3 + 2) (by omega)).trans q2)
              have fz := Hown.out.frozenAt (j * 3 + 1)
              clear q0 q1 q2 ht
              obtain ⟨kd, tx, ps⟩ := t
              simp only at m0 m1 m2 l0 l1 l2
              go_wp2
              go_quiet (fail)
              go_wp2
              have hj := Hj.out
              go_roundg (nm - (j + 1))
              case measure => omega
              case rel =>
                have ho : (wr.drewN nq).ownsRow wo.heap.size 33 3 (.slice (some ⟨bm, 0, none⟩) nm cm) nm ys := Hown.out
                refine ⟨j + 1, _, by omega, by go_num, (ho.stored (j * 3 + 1) _).1, fun z hz => ?_, Below.setCell (drewN_below Hbx.out nq) Hbm.out _⟩
                rw [List.getElem?_set_ne (by omega)]
                exact Hys.out z (by omega)
            · have hge : ¬ (j : Int) < (nm : Int) := by omega
              have hbw : Below wo.heap.size wo wr := HB3.out.trans Hbx.out
              have HBW := Lib.hid hbw
              have HTx := Lib.hid (HT.out.below hbw (Nat.le_refl _))
              clear hbw
              go_wp2_with fail
              refine (rjoin_any T _ _ HTx.out HJ.out).mono ?_
              rw [← HS.out]
              rintro e w4 ⟨rfl, hb4⟩
              go_wp2
              go_ret
              exact ⟨rfl, Hb.out.trans ((HBW.out.mono Hb.out.size).trans (hb4.mono (Nat.le_trans Hb.out.size HBW.out.size)))⟩

theorem solidlaw_top {H : Type} {enc : TypeId × Value → H} {w : World} {base b0 : Nat} {sp : Nat → Bool} {held : Bool} {r : Reach} (v : Value) (d : DataW H) (p : List MemPlace)
    (hv : Value.okWide Try.prog w r b0 23 v) (h : DataW.Trod enc Try.prog w base sp held 23 v d p) (w' : World) (hw : w' = w := by rfl) :
    Calls Try.prog 11 #[v] w' fun e w'' => e = .returned (.bool true) ∧ Below w'.heap.size w' w'' := by
  subst hw
  obtain ⟨T, hT⟩ := open_toks hv h
  exact solidlaw_any T v _ hT

end Go.Proofs.Ytgnnkddneoghmaa
