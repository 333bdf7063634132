/- Walk of the reference's Decode. -/
import Derived.Test.YtpbbiidfahaamaaStT2
import Derived.Test.YtpbbiidfahaamaaStB4
namespace Go.Proofs.Ytpbbiidfahaamaa
open Go.RowKit

theorem cellsP_err (A B : List Decl) : ∀ {l : List UInt8} {e : Nat}, cellsP A l = .error e → cellsP (A ++ B) l = .error e := by
  induction A with
  | nil => intro l e h; cases h
  | cons d A ih =>
    intro l e h
    rw [List.cons_append]
    simp only [cellsP] at h ⊢
    cases hc : cellP d l with
    | error k => rw [hc] at h; exact h
    | ok p =>
      obtain ⟨x, r⟩ := p
      rw [hc] at h
      simp only at h ⊢
      cases hr : cellsP A r with
      | error k =>
        rw [hr] at h
        rw [ih hr]
        exact h
      | ok p2 =>
        rw [hr] at h
        cases h

theorem dec_cell_err {D : List Decl} {l lk : List UInt8} {L : List (List Int)} {k e : Nat} {d : Decl} (hv : validB D = true) (hd : D[k]? = some d) (h : cellsP (D.take k) l = .ok (L, lk)) (h2 : cellP d lk = .error e) : decP D l = .error e := by
  have ht : D.take (k + 1) = D.take k ++ [d] := by rw [List.take_add_one, hd]; rfl
  have h3 : cellsP (D.take (k + 1)) l = .error e := by
    rw [ht, cellsP_snoc, h]
    simp only
    rw [h2]
  have h4 := cellsP_err (D.take (k + 1)) (D.drop (k + 1)) h3
  rw [List.take_append_drop] at h4
  unfold decP
  rw [if_pos hv, h4]
theorem cells_cell_ok {D : List Decl} {l lk r : List UInt8} {L : List (List Int)} {k : Nat} {d : Decl} {xs : List Int} (hd : D[k]? = some d) (h : cellsP (D.take k) l = .ok (L, lk)) (h2 : cellP d lk = .ok (xs, r)) : cellsP (D.take (k + 1)) l = .ok (L ++ [xs], r) := by
  have ht : D.take (k + 1) = D.take k ++ [d] := by rw [List.take_add_one, hd]; rfl
  rw [ht, cellsP_snoc, h]
  simp only
  rw [h2]
theorem dec_tail {D : List Decl} {l lk : List UInt8} {L : List (List Int)} (hv : validB D = true) (h : cellsP D l = .ok (L, lk)) : decP D l = tailP L lk := by
  unfold decP
  rw [if_pos hv, h]
theorem cell_count {d : Decl} {l : List UInt8} (h : d.kind = 3) : cellP d l = countedP 1000 l := by unfold cellP; rw [if_pos h]
theorem cell_take {d : Decl} {l r : List UInt8} {xs : List Int} {n e : Nat} (h : d.kind ≠ 3) (hn : (fixedZ d).toNat = n) (ho : TakeOut (takeN n l) xs r e) : CntOut (cellP d l) xs r e := by
  unfold cellP
  rw [if_neg h, hn]
  rcases ho with ⟨h1, rfl⟩ | ⟨h1, rfl⟩
  · rw [h1]; exact .inl ⟨rfl, by decide⟩
  · rw [h1]; exact .inr ⟨rfl, rfl⟩

set_option maxRecDepth 100000 in
set_option maxHeartbeats 8000000 in
theorem rdecode_any (D : List Decl) (l : List UInt8) (u v : Value) (w : World) (h1 : DeclsAt w u D) (h2 : BytesAt w v l) :
    Calls Try.prog 30 #[u, v] w fun e w' => ∃ r, e = .returned (.tuple #[r, .int .i64 (errOf (decP D l))]) ∧ StNew w.heap.size w' r (stOf (decP D l)) ∧ Below w.heap.size w w' := by
  obtain ⟨⟨ad, cd, rfl, -, -, -⟩, -⟩ := id h1
  obtain ⟨W, hW⟩ : ∃ W, W = w.alloc (.cells #[.slice none 0 0, .slice none 0 0, .slice none 0 0] 25) := ⟨_, rfl⟩
  have hB0 : Below w.heap.size w W := by rw [hW]; exact below_alloc _ _
  have hBK : Blk W w.heap.size 25 #[.slice none 0 0, .slice none 0 0, .slice none 0 0] := by rw [hW]; exact Blk.new _ _ _
  have HV := Lib.hid (rvalid_any D _ W (h1.below hB0 (Nat.le_refl _)))
  have HD := Lib.hid (h1.below hB0 (Nat.le_refl _))
  have HI := Lib.hid (h2.below hB0 (Nat.le_refl _))
  have HW := Lib.hid hW
  have HB0 := Lib.hid hB0
  have HBK := Lib.hid hBK
  generalize hn : D.length = n at *
  have HN := Lib.hid hn.symm
  clear hn h1 h2 hW hB0 hBK
  cases hR : validB D with
  | false =>
    rw [dec_bad hR]
    rw [hR] at HV
    clear hR
    go_enter Try.func30, Try.ntmps30
    go_wp2_with fail
    rw [← HW.out]
    refine HV.out.mono ?_
    rintro e w1 ⟨rfl, hb1⟩
    have hbk := HBK.out.next hb1
    have b0 := hbk.cell 0
    have b1 := hbk.cell 1
    have b2 := hbk.cell 2
    have z0 := hbk.free 0
    have z1 := hbk.free 1
    have z2 := hbk.free 2
    have HB1 := Lib.hid (below_next HB0.out (Nat.le_refl _) hb1)
    have HK := Lib.hid hbk
    clear hb1 hbk
    go_wp2
    have h3 := set3_all HK.out (.slice none 0 0) (.slice none 0 0) (.slice none 0 0)
    have hk3 := h3.1
    have hb3 := h3.2.2 HB1.out (Nat.le_refl _)
    clear h3
    generalize World.setCell _ _ _ = wf at *
    exact bodyPost_ret (results_state rfl _ _ _ _ _ _ rfl hk3) rfl ⟨_, rfl, st0_new _ _, hb3⟩
  | true =>
    have hval : n ≤ 32 ∧ ∀ d ∈ D, validD d = true := by
      unfold validB at hR
      rw [Bool.and_eq_true, decide_eq_true_eq, List.all_eq_true, ← HN.out] at hR
      exact hR
    obtain ⟨hn32, hvald⟩ := hval
    have HVAL := Lib.hid hvald
    have HR1 := Lib.hid hR
    have hn63 : (n : Int) ≤ 32 := by omega
    rw [hR] at HV
    clear hvald hR
    obtain ⟨j0, hj, hy0, hy1, hy2⟩ := info_parts rowInfo
    go_enter Try.func30, Try.ntmps30
    go_wp2_with fail
    rw [← HW.out]
    refine HV.out.mono ?_
    rintro e w1 ⟨rfl, hb1⟩
    obtain ⟨w3, hw3⟩ : ∃ w3, w3 = w1.alloc (.cells #[.slice none 0 0, .slice none 0 0, .slice none 0 0] 25) := ⟨_, rfl⟩
    have hb13 : Below w1.heap.size w1 w3 := by rw [hw3]; exact below_alloc _ _
    have hb7 : Blk w3 w1.heap.size 25 #[.slice none 0 0, .slice none 0 0, .slice none 0 0] := by rw [hw3]; exact Blk.new _ _ _
    have HBK1 := Lib.hid (HBK.out.next hb1)
    have HB1 := Lib.hid (below_next HB0.out (Nat.le_refl _) hb1)
    have HD1 := Lib.hid (HD.out.below hb1 (Nat.le_refl _))
    have HI1 := Lib.hid (HI.out.below hb1 (Nat.le_refl _))
    have H13 := Lib.hid hb13
    have H7 := Lib.hid hb7
    have HW3 := Lib.hid hw3
    have hs3 : w1.heap.size + 1 = w3.heap.size := by rw [hw3]; simp
    have hbt : w.heap.size < w1.heap.size := (HBK.out.next hb1).lt
    clear hb1 hb13 hb7 hw3 HV HI HD HBK
    go_wp2_with fail
    rw [← HW3.out]
    clear HW3
    go_loopg [1, 7] n (fun q b i wr => ∃ (k : Nat) (L : List (List Int)) (lk : List UInt8) (c : Value) (vs : List Value), k + q = n ∧ i = .int .i64 k ∧ L.length = k ∧ BytesAt w1 b lk ∧ Below w1.heap.size w1 wr ∧ w3.heap.size ≤ wr.heap.size ∧ Blk wr w1.heap.size 25 #[c, .slice none 0 0, .slice none 0 0] ∧ RowsNew w3.heap.size wr c vs L ∧ cellsP (D.take k) l = .ok (L, lk))
    case atStart => exact ⟨0, [], l, _, _, by omega, rfl, rfl, HI1.out, H13.out, Nat.le_refl _, H7.out, RowsNew.nil _ _, rfl⟩
    case round =>
      obtain ⟨k, L, lk, c, vs, hk, rfl, hL, hbl, hbw, hszr, hblk, hrow, hco⟩ := hrel
      have Hk := Lib.hid hk
      have hkn : k ≤ n := by omega
      have HLL := Lib.hid hL
      have HBL := Lib.hid hbl
      have HBW := Lib.hid hbw
      have HK := Lib.hid hblk
      have HRW := Lib.hid hrow
      have HCO := Lib.hid hco
      have hbt9 : Blk wr w.heap.size 25 #[.slice none 0 0, .slice none 0 0, .slice none 0 0] := (hbw.block _ hbt).trans HBK1.out
      have HBT := Lib.hid hbt9
      clear hk hL hbl hbw hblk hrow hco hbt9
      by_cases hlt : k < n
      · have hlt' : (k : Int) < (n : Int) := by omega
        obtain ⟨g, off, rfl, hg, hq⟩ := HD1.out.1.get (by omega)
        obtain ⟨d, hd⟩ := get_lt HN.out hlt
        obtain ⟨q0, q1, q2⟩ := hq k d hd
        have m1 := cell_below HBW.out hg q1
        have m2 := cell_below HBW.out hg q2
        have hvd := HVAL.out d (List.mem_of_getElem? hd)
        have HDK := Lib.hid hd
        have HCB : Hid (∀ w', Below wr.heap.size wr w' → RowsNew w3.heap.size w' c vs L) := fun w' hb => HRW.out.next hb
        obtain ⟨nm, kd, ln⟩ := d
        simp only at m1 m2
        clear hq hd q0 q1 q2
        by_cases k3 : kd = 3
        case' pos =>
          have e3 : ((kd : Int) == 3) = true := by rw [k3]; rfl
          have HCE : Hid (cellP ⟨nm, kd, ln⟩ lk = countedP 1000 lk) := cell_count k3
          clear k3 hvd
          go_wp2_with fail
          refine (rcounted_any w1 _ lk _ 1000 (by decide) HBW.out HBL.out).mono ?_
          rintro en w4 ⟨u4, v4, e4, xs, r4, rfl, hi4, hr4, hb4, hout4⟩
          rw [← HCE.out] at hout4
        case' neg =>
          have e3 : ((kd : Int) == 3) = false := by simp; omega
          have hmx : max ln 1 = fixedZ ⟨nm, kd, ln⟩ ∧ 0 ≤ ln ∧ ln ≤ 16 := by
            unfold validD at hvd
            unfold fixedZ
            simp at hvd ⊢
            split <;> omega
          obtain ⟨m', hm'⟩ := Int.eq_ofNat_of_zero_le (show 0 ≤ max ln 1 by omega)
          have HFT : Hid ((fixedZ ⟨nm, kd, ln⟩).toNat = m') := by unfold Hid; rw [← hmx.1, hm']; rfl
          have hm17 : m' ≤ 16 := by omega
          have hln0 := hmx.2.1
          have K3 : Hid (kd ≠ 3) := k3
          have HM' := Lib.hid hm'
          clear k3 hvd hmx hm'
          go_wp2_with fail
          rw [HM'.out]
          refine (rtake_any w1 _ lk _ m' (by omega) HBW.out HBL.out).mono ?_
          rintro en w4 ⟨u4, v4, e4, xs, r4, rfl, hi4, hr4, hb4, hout4'⟩
          have hout4 := cell_take (d := ⟨nm, kd, ln⟩) K3.out HFT.out hout4'
          clear hout4'
        all_goals
          obtain ⟨a4, c4, rfl⟩ := own_form hi4
          have HI4 : Hid (IntsNew w3.heap.size w4 (.slice a4 xs.length c4) xs) := Lib.hid (own_mono hi4 hszr)
          have HR4 := Lib.hid hr4
          have HB4 := Lib.hid (below_next HBW.out (Nat.le_refl _) hb4)
          have hk4 := HK.out.next hb4
          have HK4 := Lib.hid hk4
          have HROW4 := Lib.hid (HRW.out.next hb4)
          have ht4 := HBT.out.next hb4
          have HT4 := Lib.hid ht4
          have hs4 : w3.heap.size ≤ w4.heap.size := Nat.le_trans hszr hb4.size
          have HBF := Lib.hid (HB1.out.trans (HB4.out.mono HB1.out.size))
          rcases hout4 with ⟨hce, he4⟩ | ⟨hce, he4⟩
          · have HDD := Lib.hid (dec_cell_err HR1.out HDK.out HCO.out hce)
            have e5 : ((e4 : Int) != 0) = true := by simp; omega
            have t0 := ht4.cell 0
            have t1 := ht4.cell 1
            have t2 := ht4.cell 2
            have g0 := ht4.free 0
            have g1 := ht4.free 1
            have g2 := ht4.free 2
            clear hce he4 hi4 hr4 hb4 hk4 ht4
            go_wp2
            have h3 := set3_all HT4.out (.slice none 0 0) (.slice none 0 0) (.slice none 0 0)
            have hk3 := h3.1
            have hb3 := h3.2.2 HBF.out (Nat.le_refl _)
            clear h3
            generalize World.setCell _ _ _ = wf at *
            exact bodyPost_ret (results_state rfl _ _ _ _ _ _ rfl hk3) rfl ⟨_, by rw [HDD.out]; rfl, by rw [HDD.out]; exact st0_new _ _, hb3⟩
          · subst he4
            have HCK := Lib.hid (cells_cell_ok HDK.out HCO.out hce)
            have HC : Hid (w4.ownsRow w3.heap.size 23 1 c k vs) := by
              have h := HROW4.out.1
              rw [HLL.out] at h
              exact h
            have x0 := hk4.cell 0
            have z0 := hk4.free 0
            clear hce hi4 hr4 hb4 hk4 ht4
            go_wp2_with (at_builtin; refine wpList_append_own _ rfl (.tmp 51) (.tmp 53) 22 rfl w3.heap.size 23 j0 (.slice none 0 0) 1 24 Try.underlying22 hj hy0 hy1 hy2 rfl (by decide) _ _ _ rfl (HC.out.alloc _) ⟨w4.heap.size, 0, none⟩ 1 1 [.slice a4 xs.length c4] rfl rfl ?_ ?_ ?_ ?_ ?_ ?_; exact cell_one_new _ _ _; (intro u hu; simp only [List.mem_cons, List.not_mem_nil, or_false] at hu; rcases hu with rfl; rfl); (unfold maxLen; omega); omega; (simp; omega); intro v5 w5 hown5 hgrow5 _; obtain ⟨a5, cc5, rfl⟩ := own_form hown5; have hk5 := HK4.out.next (below_alloc w4 (.cells #[.slice a4 xs.length c4] 23)); have ho5 := HC.out.alloc (.cells #[.slice a4 xs.length c4] 23); have HK5 := Lib.hid (hk5.grown hgrow5 (hk5.own_ne ho5 (by decide))); have y0 := HK5.out.cell 0; have y1 := HK5.out.free 0; have Hown5 := Lib.hid hown5; have Hgrow5 := Lib.hid hgrow5; have HO5 := Lib.hid ho5; clear hown5 hgrow5 hk5 ho5)
            go_wp2
            have hrow5 := HROW4.out.next (below_alloc w4 (.cells #[.slice a4 xs.length c4] 23))
            have hu : IntsNew w3.heap.size (w4.alloc (.cells #[.slice a4 xs.length c4] 23)) (.slice a4 xs.length c4) xs := own_below HI4.out (below_alloc _ _)
            have hrow6 := (hrow5.snoc hu (by rw [HLL.out]; exact Hown5.out) Hgrow5.out).far (show w1.heap.size < w3.heap.size by omega) 0 (.slice a5 (k + 1) cc5)
            have hk6 := HK5.out.set 0 (.slice a5 (k + 1) cc5)
            have hb6 := ((HB4.out.alloc HB4.out.size (.cells #[.slice a4 xs.length c4] 23)).grown Hgrow5.out (by have := HB4.out.size; simp; omega) (fun j hj => by have := (HO5.out.lt j hj).1; omega)).setCell (p := ⟨w1.heap.size, 0, none⟩) (Nat.le_refl _) (.slice a5 (k + 1) cc5)
            have hsz6 : w3.heap.size ≤ (w5.setCell ⟨w1.heap.size, 0, none⟩ (.slice a5 (k + 1) cc5)).heap.size := by
              have h2 := Hgrow5.out.size
              simp [World.setCell] at h2 ⊢
              omega
            have HROW6 := Lib.hid hrow6
            have HK6 := Lib.hid hk6
            have HB6 := Lib.hid hb6
            clear hrow5 hu hrow6 hk6 hb6 HK5 Hown5 Hgrow5 HO5
            have hk := Hk.out
            go_roundg (n - (k + 1))
            case measure => omega
            case rel => exact ⟨k + 1, L ++ [xs], _, _, _, by omega, by go_num, by rw [List.length_append, HLL.out]; rfl, HR4.out, HB6.out, hsz6, HK6.out, HROW6.out, HCK.out⟩
      · have hge : ¬ (k : Int) < (n : Int) := by omega
        have hkn2 : k = n := by omega
        have hco := HCO.out
        rw [List.take_of_length_le (by rw [← HN.out]; omega)] at hco
        have HDT := Lib.hid (dec_tail HR1.out hco)
        clear hco HCO
        go_wp2_with fail
        refine (rcounted_any w1 _ lk _ 4096 (by decide) HBW.out HBL.out).mono ?_
        rintro en w4 ⟨u4, v4, e4, xi, r1, rfl, hi4, hr4, hb4, hout4⟩
        obtain ⟨ai, ci, rfl⟩ := own_form hi4
        have hk4 := HK.out.next hb4
        have y1 := hk4.cell 1
        have z1 := hk4.free 1
        have HK4 := Lib.hid hk4
        have HI4 := Lib.hid (own_mono hi4 hszr)
        have HR4 := Lib.hid hr4
        have HB4 := Lib.hid (below_next HBW.out (Nat.le_refl _) hb4)
        have HROW4 := Lib.hid (HRW.out.next hb4)
        have hs4 : w3.heap.size ≤ w4.heap.size := Nat.le_trans hszr hb4.size
        have hb5 := HB4.out.setCell (p := ⟨w1.heap.size, 1, none⟩) (Nat.le_refl _) (.slice ai xi.length ci)
        have HB5 := Lib.hid hb5
        have HT5 : Hid (Blk (w4.setCell ⟨w1.heap.size, 1, none⟩ (.slice ai xi.length ci)) w.heap.size 25 #[.slice none 0 0, .slice none 0 0, .slice none 0 0]) := (hb5.block _ hbt).trans HBK1.out
        have HK5 := Lib.hid (hk4.set 1 (.slice ai xi.length ci))
        have HI5 := Lib.hid (own_far HI4.out (show w1.heap.size < w3.heap.size by omega) 1 (.slice ai xi.length ci))
        have HROW5 := Lib.hid (HROW4.out.far (show w1.heap.size < w3.heap.size by omega) 1 (.slice ai xi.length ci))
        have HBF5 := Lib.hid (HB1.out.trans (hb5.mono HB1.out.size))
        have hs5 : w3.heap.size ≤ (w4.setCell ⟨w1.heap.size, 1, none⟩ (.slice ai xi.length ci)).heap.size := by simp [World.setCell]; exact hs4
        clear hi4 hr4 hb4 hk4 hb5
        rcases hout4 with ⟨hce, he4⟩ | ⟨hce, he4⟩
        · have HDD : Hid (decP D l = .error e4) := by
            unfold Hid
            rw [HDT.out]
            unfold tailP
            rw [hce]
          obtain ⟨w5, hw5⟩ : ∃ w5, w5 = w4.setCell ⟨w1.heap.size, 1, none⟩ (.slice ai xi.length ci) := ⟨_, rfl⟩
          rw [← hw5] at HT5 HBF5
          have HW5 := Lib.hid hw5
          clear hw5
          go_upto_region 17 with (fail)
          rw [← HW5.out]
          clear HW5 y1 z1
          have e5 : ((e4 : Int) != 0) = true := by simp; omega
          have t0 := HT5.out.cell 0
          have t1 := HT5.out.cell 1
          have t2 := HT5.out.cell 2
          have g0 := HT5.out.free 0
          have g1 := HT5.out.free 1
          have g2 := HT5.out.free 2
          clear hce he4
          go_wp2
          have h3 := set3_all HT5.out (.slice none 0 0) (.slice none 0 0) (.slice none 0 0)
          have hk3 := h3.1
          have hb3 := h3.2.2 HBF5.out (Nat.le_refl _)
          clear h3
          generalize World.setCell _ _ _ = wf at *
          exact bodyPost_ret (results_state rfl _ _ _ _ _ _ rfl hk3) rfl ⟨_, by rw [HDD.out]; rfl, by rw [HDD.out]; exact st0_new _ _, hb3⟩
        · subst he4
          have HC1 := Lib.hid hce
          clear hce
          go_wp2_with fail
          refine (rcounted_any w1 _ r1 _ 4096 (by decide) HB5.out HR4.out).mono ?_
          rintro en w6 ⟨u6, v6, e6, xo, r2, rfl, hi6, hr6, hb6, hout6⟩
          obtain ⟨ao, co, rfl⟩ := own_form hi6
          have hk6 := HK5.out.next hb6
          have y2 := hk6.cell 2
          have z2 := hk6.free 2
          have HK7 := Lib.hid (hk6.set 2 (.slice ao xo.length co))
          have hb7 := (below_next HB5.out (Nat.le_refl _) hb6).setCell (p := ⟨w1.heap.size, 2, none⟩) (Nat.le_refl _) (.slice ao xo.length co)
          have HT7 : Hid (Blk (w6.setCell ⟨w1.heap.size, 2, none⟩ (.slice ao xo.length co)) w.heap.size 25 #[.slice none 0 0, .slice none 0 0, .slice none 0 0]) := (hb7.block _ hbt).trans HBK1.out
          have HI7 := Lib.hid (own_far (own_below HI5.out hb6) (show w1.heap.size < w3.heap.size by omega) 2 (.slice ao xo.length co))
          have HO7 := Lib.hid (own_far (own_mono hi6 hs5) (show w1.heap.size < w3.heap.size by omega) 2 (.slice ao xo.length co))
          have HROW7 := Lib.hid ((HROW5.out.next hb6).far (show w1.heap.size < w3.heap.size by omega) 2 (.slice ao xo.length co))
          have HBF7 := Lib.hid (HB1.out.trans (hb7.mono HB1.out.size))
          obtain ⟨av6, cv6, rfl, -, -, -⟩ := id hr6
          obtain ⟨w7, hw7⟩ : ∃ w7, w7 = w6.setCell ⟨w1.heap.size, 2, none⟩ (.slice ao xo.length co) := ⟨_, rfl⟩
          rw [← hw7] at HK7 HT7 HI7 HO7 HROW7 HBF7
          have HW7 := Lib.hid hw7
          clear hi6 hr6 hb6 hk6 hb7 hw7
          go_upto_region 20 with (fail)
          rw [← HW7.out]
          clear HW7 y2 z2
          rcases hout6 with ⟨hce, he6⟩ | ⟨hce, he6⟩
          · have HDD : Hid (decP D l = .error e6) := by
              unfold Hid
              rw [HDT.out]
              unfold tailP
              rw [HC1.out]
              simp only
              rw [hce]
            have e5 : ((e6 : Int) != 0) = true := by simp; omega
            have t0 := HT7.out.cell 0
            have t1 := HT7.out.cell 1
            have t2 := HT7.out.cell 2
            have g0 := HT7.out.free 0
            have g1 := HT7.out.free 1
            have g2 := HT7.out.free 2
            clear hce he6
            go_wp2
            have h3 := set3_all HT7.out (.slice none 0 0) (.slice none 0 0) (.slice none 0 0)
            have hk3 := h3.1
            have hb3 := h3.2.2 HBF7.out (Nat.le_refl _)
            clear h3
            generalize World.setCell _ _ _ = wf at *
            exact bodyPost_ret (results_state rfl _ _ _ _ _ _ rfl hk3) rfl ⟨_, by rw [HDD.out]; rfl, by rw [HDD.out]; exact st0_new _ _, hb3⟩
          · subst he6
            by_cases hl2 : 0 < r2.length
            · have HDD : Hid (decP D l = .error 3) := by
                unfold Hid
                rw [HDT.out]
                unfold tailP
                rw [HC1.out]
                simp only
                rw [hce]
                simp only
                rw [if_pos hl2]
              have hl2' : (0 : Int) < (r2.length : Int) := by omega
              generalize r2.length = n2 at *
              have t0 := HT7.out.cell 0
              have t1 := HT7.out.cell 1
              have t2 := HT7.out.cell 2
              have g0 := HT7.out.free 0
              have g1 := HT7.out.free 1
              have g2 := HT7.out.free 2
              clear hce
              go_wp2
              have h3 := set3_all HT7.out (.slice none 0 0) (.slice none 0 0) (.slice none 0 0)
              have hk3 := h3.1
              have hb3 := h3.2.2 HBF7.out (Nat.le_refl _)
              clear h3
              generalize World.setCell _ _ _ = wf at *
              exact bodyPost_ret (results_state rfl _ _ _ _ _ _ rfl hk3) rfl ⟨_, by rw [HDD.out]; rfl, by rw [HDD.out]; exact st0_new _ _, hb3⟩
            · have HDD : Hid (decP D l = .ok ⟨L, xi, xo⟩) := by
                unfold Hid
                rw [HDT.out]
                unfold tailP
                rw [HC1.out]
                simp only
                rw [hce]
                simp only
                rw [if_neg hl2]
              have hl2' : ¬ (0 : Int) < (r2.length : Int) := by omega
              generalize r2.length = n2 at *
              obtain ⟨acx, ccx, rfl⟩ := own_form HROW7.out.1
              have k0 := HK7.out.cell 0
              have k1 := HK7.out.cell 1
              have k2 := HK7.out.cell 2
              have t0 := HT7.out.cell 0
              have t1 := HT7.out.cell 1
              have t2 := HT7.out.cell 2
              have g0 := HT7.out.free 0
              have g1 := HT7.out.free 1
              have g2 := HT7.out.free 2
              clear hce
              go_wp2
              have h3 := set3_all HT7.out (.slice acx L.length ccx) (.slice ai xi.length ci) (.slice ao xo.length co)
              have hk3 := h3.1
              have hb3 := h3.2.2 HBF7.out (Nat.le_refl _)
              have hr3 := ((HROW7.out.far (by omega : w.heap.size < w3.heap.size) 0 (.slice acx L.length ccx)).far (by omega : w.heap.size < w3.heap.size) 1 (.slice ai xi.length ci)).far (by omega : w.heap.size < w3.heap.size) 2 (.slice ao xo.length co)
              have hi3 := h3.2.1 HI7.out (by decide)
              have ho3 := h3.2.1 HO7.out (by decide)
              clear h3
              refine bodyPost_ret (results_state rfl _ _ _ _ _ _ rfl hk3) rfl ⟨_, by rw [HDD.out]; rfl, ?_, hb3⟩
              rw [HDD.out]
              exact StNew.mono (B := w3.heap.size) ⟨_, _, _, _, rfl, hr3, hi3, ho3⟩ (by omega)
end Go.Proofs.Ytpbbiidfahaamaa
