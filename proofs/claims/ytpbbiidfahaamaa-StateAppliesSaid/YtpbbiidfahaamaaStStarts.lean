/- The walk of the law StateStarts. -/
import Derived.Test.YtpbbiidfahaamaaStN2
import Derived.Test.YtpbbiidfahaamaaStW3
namespace Go.Proofs.Ytpbbiidfahaamaa
open Go.RowKit

theorem own_some {w : World} {base : Nat} {e : TypeId} {size : Nat} {v : Value} {n : Nat} {xs : List Value} (h : w.ownsRow base e size v n xs) (hn : 0 < n) : ∃ g cap, v = .slice (some ⟨g, 0, none⟩) n cap ∧ base ≤ g ∧ g < w.heap.size := by
  rcases h.2 with ⟨_, h0⟩ | ⟨g, cap, cur, rfl, hb, hg, _⟩
  · omega
  · exact ⟨g, cap, rfl, hb, (Array.getElem?_eq_some_iff.1 hg).1⟩

theorem StAt.parts {w : World} {c i o : Value} {s : St} (h : StAt w (.agg #[c, i, o]) s) : RowsAt w c s.cells ∧ IntsAt w i s.inp ∧ IntsAt w o s.out := by
  obtain ⟨c', i', o', he, h1, h2, h3⟩ := h
  simp only [Value.agg.injEq, Array.mk.injEq, List.cons.injEq, and_true] at he
  obtain ⟨rfl, rfl, rfl⟩ := he
  exact ⟨h1, h2, h3⟩

theorem intsV_set (ys : List Int) (k : Nat) (z : Int) : (intsV ys).set k (.int .i64 z) = intsV (ys.set k z) := by
  simp [intsV, List.map_set]

theorem intsV_get {ys : List Int} {k : Nat} (h : k < ys.length) : (intsV ys)[k]? = some (.int .i64 (ys[k])) := by
  simp [intsV, h]

set_option maxRecDepth 100000 in
set_option maxHeartbeats 8000000 in
theorem startslaw_any (D : List Decl) (l : List Int) (u v : Value) (w : World) (h0 : DeclsAt w u D) (h1 : IntsAt w v l) :
    Calls Try.prog 4 #[u, v] w fun e w' => e = .returned (.bool true) ∧ Below w.heap.size w w' := by
  obtain ⟨⟨ad, cd, rfl, -, -, -⟩, -⟩ := id h0
  obtain ⟨⟨ai, ci, rfl, -, -, -⟩, -⟩ := id h1
  have HD := Lib.hid h0
  have HI := Lib.hid h1
  generalize hn : D.length = n at *
  generalize hm : l.length = m at *
  have HN := Lib.hid hn.symm
  have HM := Lib.hid hm.symm
  clear hn hm h0 h1
  by_cases h40 : 40 < n
  · have h40' : (40 : Int) < (n : Int) := by omega
    go_enter Try.func4, Try.ntmps4
    go_wp2_with fail
    refine (awake_any _).mono ?_
    rintro e w1 ⟨rfl, hb1⟩
    have HB1 := Lib.hid hb1
    clear hb1
    go_wp2
    go_ret
    exact ⟨rfl, HB1.out⟩
  have h40' : (n : Int) ≤ 40 := by omega
  by_cases h60 : 60 < m
  · have h60' : (60 : Int) < (m : Int) := by omega
    go_enter Try.func4, Try.ntmps4
    go_wp2_with fail
    refine (awake_any _).mono ?_
    rintro e w1 ⟨rfl, hb1⟩
    have HB1 := Lib.hid hb1
    clear hb1
    go_wp2
    go_ret
    exact ⟨rfl, HB1.out⟩
  have h60' : (m : Int) ≤ 60 := by omega
  go_enter Try.func4, Try.ntmps4
  go_wp2_with fail
  refine (awake_any _).mono ?_
  rintro e w1 ⟨rfl, hb1⟩
  have HB1 := Lib.hid hb1
  have hsz1 := hb1.size
  clear hb1
  go_wp2_with (at_builtin; refine wpList_append_ints rfl (.tmp 21) (.tmp 22) rfl w1.heap.size _ 0 [] rfl (own_empty w1 _ (Nat.le_refl _)) (.slice ai m ci) l rfl ((HI.out.below HB1.out (Nat.le_refl _)).below (below_alloc _ _) (Nat.le_refl _)) (by have := HM.out; omega) (by simp) ?_; intro v5 w2 hown2 hgrow2)
  have hb2 : Below w1.heap.size w1 w2 := (below_alloc _ _).grown hgrow2 (by simp) (fun j hj => ((own_empty w1 _ (Nat.le_refl _)).lt j hj).1)
  rw [Nat.zero_add, List.nil_append] at hown2
  have hf := own_form hown2
  rw [← HM.out] at hf
  obtain ⟨a5, c5, rfl⟩ := hf
  have HO2 := Lib.hid hown2
  have HB2 := Lib.hid (below_next HB1.out (Nat.le_refl _) hb2)
  have hsz2 := hb2.size
  clear hown2 hgrow2 hb2
  go_wp2_with fail
  refine (new_any D l _ _ _ (HD.out.below HB2.out (Nat.le_refl _)) (IntsAt.of_own HO2.out HI.out.2) (by have := HM.out; omega)).mono ?_
  rintro e w3 ⟨r, rfl, hst, hb3⟩
  obtain ⟨er, her⟩ : ∃ er : Int, er = (if validB D = true then 0 else 3) := ⟨_, rfl⟩
  rw [← her]
  have HER := Lib.hid her
  clear her
  obtain ⟨S, hS⟩ : ∃ S : St, S = if validB D = true then newB D l else ⟨[], [], []⟩ := ⟨_, rfl⟩
  rw [← hS] at hst
  have HIS : Hid (InSt S) := by
    unfold Hid
    rw [hS]
    split
    · exact new_in HI.out.2
    · exact ⟨by simp, by simp, by simp⟩
  have HTR : Hid (validB D = true → S = newB D l ∧ fitsB D S = true) := fun h => by
    rw [if_pos h] at hS
    subst hS
    exact ⟨rfl, new_fits h (by have := HM.out; omega)⟩
  have HFA : Hid (validB D = false → S = ⟨[], [], []⟩) := fun h => by
    rw [hS, if_neg (by rw [h]; simp)]
  have HRV : Hid (∀ w', Below w.heap.size w w' → Calls Try.prog 19 #[.slice ad n cd] w' _) := fun w' hb => rvalid_any D _ w' (HD.out.below hb (Nat.le_refl _))
  have HB3 := Lib.hid (below_next HB2.out (Nat.le_refl _) hb3)
  have HO3 := Lib.hid (own_below HO2.out hb3)
  have hsz3 := hb3.size
  obtain ⟨c, i, o, vs, rfl, hrows, hinp, hout⟩ := hst
  obtain ⟨ac, cc, rfl⟩ := own_form hrows.1
  obtain ⟨aj, cj, rfl⟩ := own_form hinp
  obtain ⟨ao, co, rfl⟩ := own_form hout
  obtain ⟨W6, hW6⟩ : ∃ W6, W6 = w3.alloc (.cells #[.slice ac S.cells.length cc, .slice aj S.inp.length cj, .slice ao S.out.length co] 25) := ⟨_, rfl⟩
  have hb36 : Below w3.heap.size w3 W6 := by rw [hW6]; exact below_alloc _ _
  have HBX : Hid (Blk W6 w3.heap.size 25 #[.slice ac S.cells.length cc, .slice aj S.inp.length cj, .slice ao S.out.length co]) := by rw [hW6]; exact Blk.new _ _ _
  have HS6 : Hid (StNew w2.heap.size W6 (.agg #[.slice ac S.cells.length cc, .slice aj S.inp.length cj, .slice ao S.out.length co]) S) := StNew.next ⟨_, _, _, vs, rfl, hrows, hinp, hout⟩ hb36
  have HB6 := Lib.hid (below_next HB3.out (Nat.le_refl _) hb36)
  have HO6 := Lib.hid (own_below HO3.out hb36)
  have HW6 := Lib.hid hW6
  have hlt2 : ∀ j, Value.ownBlock (.slice a5 m c5) = some j → w1.heap.size ≤ j ∧ j < w2.heap.size := HO2.out.lt
  have HLT := Lib.hid hlt2
  have hsz6 := hb36.size
  clear hS hb3 hrows hinp hout hW6 hb36 HO2 HO3 HB2 HB3 hlt2
  go_wp2
  rw [← HW6.out]
  clear HW6
  go_loopg [8] m (fun q i wr => ∃ (k : Nat) (ys : List Int), k + q = m ∧ i = .int .i64 k ∧ ys.length = m ∧ wr.ownsRow w1.heap.size 3 1 (.slice a5 m c5) m (intsV ys) ∧ W6.grownBy wr (Value.ownBlock (.slice a5 m c5)))
  case atStart => exact ⟨0, l, by omega, rfl, HM.out.symm, by have h := HO6.out; rw [← HM.out] at h; exact h, World.grownBy.refl _ _⟩
  case round =>
    obtain ⟨k, ys, hk, rfl, hys, hown, hgr⟩ := hrel
    have Hk := Lib.hid hk
    have hkn : k ≤ m := by omega
    have HY := Lib.hid hys
    have HO := Lib.hid hown
    have HG := Lib.hid hgr
    clear hk hys hown hgr
    by_cases hlt : k < m
    · have hlt' : (k : Int) < (m : Int) := by omega
      obtain ⟨g, cap, hv, hg1, hg2⟩ := own_some HO.out (by omega)
      obtain ⟨rfl, -, rfl⟩ := Value.slice.inj hv
      have m0 : wr.cell? ⟨g, k, none⟩ = some (.int .i64 (ys[k]'(by rw [HY.out]; exact hlt))) := by
        rw [HO.out.cellAt k (by omega)]
        exact intsV_get _
      have z0 := HO.out.frozenAt k
      generalize ys[k]'(by rw [HY.out]; exact hlt) = y at *
      clear hv
      go_wp2
      have hs1 := (HO.out.stored k (.int .i64 (wrap64 (y + 1)))).1
      have hs2 := (HO.out.stored k (.int .i64 (wrap64 (y + 1)))).2
      rw [intsV_set] at hs1
      have hg9 : W6.grownBy (wr.setCell ⟨g, k, none⟩ (.int .i64 (wrap64 (y + 1)))) (some g) := gr_set HG.out k _
      have HS1 := Lib.hid hs1
      have HG9 := Lib.hid hg9
      clear hs1 hs2 hg9
      have hk := Hk.out
      go_roundg (m - (k + 1))
      case measure => omega
      case rel => exact ⟨k + 1, _, by omega, by go_num, by rw [List.length_set]; exact HY.out, HS1.out, HG9.out⟩
    · have hge : ¬ (k : Int) < (m : Int) := by omega
      have hab : Above w2.heap.size W6 wr := ⟨HG.out.size, fun b hb hlt => HG.out.block b hlt (fun e => by have := (HLT.out b e.symm).2; omega)⟩
      have HS := Lib.hid ((HS6.out.above hab).at_ HIS.out)
      have hbx : Blk wr w3.heap.size 25 #[.slice ac S.cells.length cc, .slice aj S.inp.length cj, .slice ao S.out.length co] := (hab.block w3.heap.size hsz3 HBX.out.lt).trans HBX.out
      have HX := Lib.hid hbx
      have HBW : Hid (Below w.heap.size w wr) := HB6.out.grown HG.out HB6.out.size (fun j hj => by have := (HLT.out j hj).1; omega)
      clear hab hbx HG HO HS6 HBX HO6 HB6 HB1 Hk
      go_wp2_with fail
      refine (HRV.out _ HBW.out).mono ?_
      rintro e w7 ⟨rfl, hb7⟩
      have HB7 := Lib.hid (below_next HBW.out (Nat.le_refl _) hb7)
      have HS7 := Lib.hid (HS.out.below hb7 (Nat.le_refl _))
      have hbx7 := HX.out.next hb7
      have HX7 := Lib.hid hbx7
      have x0 := hbx7.cell 0
      have x1 := hbx7.cell 1
      have x2 := hbx7.cell 2
      clear hb7 hbx7 HX HS HBW
      cases hR : validB D with
      | false =>
        have hS := HFA.out hR
        subst hS
        have her : er = 3 := by rw [HER.out, hR]; simp
        subst her
        clear hR
        go_wp2_with fail
        refine (requal_any _ _ _ _ _ HS7.out (⟨_, _, _, rfl, ⟨none, 0, rfl, Nat.le_refl _, by unfold maxLen; omega, fun h => absurd h (by decide)⟩, ints_nil _, ints_nil _⟩ : StAt _ _ ⟨[], [], []⟩)).mono ?_
        rintro e w8 ⟨rfl, hb8⟩
        have HB8 := Lib.hid (below_next HB7.out (Nat.le_refl _) hb8)
        clear hb8
        go_wp2
        go_ret
        exact ⟨rfl, HB8.out⟩
      | true =>
        obtain ⟨hS, hfit⟩ := HTR.out hR
        have her : er = 0 := by rw [HER.out, hR]; simp
        subst her
        have HSE := Lib.hid hS
        have HIN : Hid (S.inp = l) := by unfold Hid; rw [hS]; rfl
        have HOU : Hid (S.out.length = 0) := by unfold Hid; rw [hS]; rfl
        have HCL : Hid (S.cells.length = n) := by unfold Hid; rw [hS, HN.out]; simp [newB]
        have HFI : Hid (∀ w', Below w7.heap.size w7 w' → Calls Try.prog 21 #[.slice ad n cd, .agg #[.slice ac S.cells.length cc, .slice aj S.inp.length cj, .slice ao S.out.length co]] w' fun e w'' => e = .returned (.bool true) ∧ Below w'.heap.size w' w'') := fun w' hb => by
          have := fits_any D S _ _ w' ((HD.out.below HB7.out (Nat.le_refl _)).below hb (Nat.le_refl _)) (HS7.out.below hb (Nat.le_refl _))
          rwa [hfit] at this
        have HRFI : Hid (∀ w', Below w7.heap.size w7 w' → Calls Try.prog 22 #[.slice ad n cd, .agg #[.slice ac S.cells.length cc, .slice aj S.inp.length cj, .slice ao S.out.length co]] w' fun e w'' => e = .returned (.bool true) ∧ Below w'.heap.size w' w'') := fun w' hb => by
          have := rfits_any D S _ _ w' ((HD.out.below HB7.out (Nat.le_refl _)).below hb (Nat.le_refl _)) (HS7.out.below hb (Nat.le_refl _))
          rwa [hfit] at this
        have hR2 := Lib.hid hR
        clear hS hfit hR
        go_wp2_with fail
        refine (HFI.out _ (Below.refl _ _)).mono ?_
        rintro e w8 ⟨rfl, hb8⟩
        have hbx8 := HX7.out.next hb8
        have HB8 := Lib.hid hb8
        clear x0 x1 x2
        have x0 := hbx8.cell 0
        have x1 := hbx8.cell 1
        have x2 := hbx8.cell 2
        clear hb8 hbx8
        go_wp2_with fail
        refine (HRFI.out _ HB8.out).mono ?_
        rintro e w9 ⟨rfl, hb9⟩
        have hb9' := below_next HB8.out (Nat.le_refl _) hb9
        have hbx9 := HX7.out.next hb9'
        have HB9 := Lib.hid hb9'
        clear x0 x1 x2
        have x0 := hbx9.cell 0
        have x1 := hbx9.cell 1
        have x2 := hbx9.cell 2
        clear hb9 hb9' hbx9
        have HP := Lib.hid (StAt.parts (HS7.out.below HB9.out (Nat.le_refl _)))
        have HBF := Lib.hid (below_next HB7.out (Nat.le_refl _) HB9.out)
        have HIC := Lib.hid (ints_any S.inp l _ _ w9 HP.out.2.1 (HI.out.below HBF.out (Nat.le_refl _)))
        have e1 : decide (S.inp = l) = true := decide_eq_true HIN.out
        have E1 := Lib.hid e1
        have e2 : ((S.out.length : Int) != 0) = false := by rw [HOU.out]; rfl
        have HVA := Lib.hid (show ∀ d ∈ D, validD d = true from by
          have := hR2.out
          unfold validB at this
          rw [Bool.and_eq_true, List.all_eq_true] at this
          exact this.2)
        clear e1
        go_wp2_with fail
        refine HIC.out.mono ?_
        rw [E1.out]
        rintro e w10 ⟨rfl, q, rfl⟩
        clear HIC
        go_wp2
        go_loopg [9] n (fun q2 i wr => ∃ k : Nat, k + q2 = n ∧ i = .int .i64 k ∧ wr = w9.drewN q)
        case atStart => exact ⟨0, by omega, rfl, rfl⟩
        case round =>
          obtain ⟨k, hk, rfl, rfl⟩ := hrel
          have Hk := Lib.hid hk
          have hkn : k ≤ n := by omega
          clear hk
          by_cases hlt : k < n
          · have hlt' : (k : Int) < (n : Int) := by omega
            obtain ⟨g, off, rfl, hg, hq⟩ := HD.out.1.get (by omega)
            obtain ⟨d, hd⟩ := get_lt HN.out hlt
            obtain ⟨q0, q1, q2⟩ := hq k d hd
            have m1 := cell_below HBF.out hg q1
            have hcz : S.cells[k]? = some (zeroRow d) := by rw [HSE.out]; simp [newB, hd]
            obtain ⟨gr, offr, rfl, hgr, hqr⟩ := HP.out.1.get (by rw [HCL.out]; omega)
            obtain ⟨ur, hur, hir⟩ := hqr k _ hcz
            obtain ⟨⟨ar, cr, rfl, -, -, hir3⟩, -⟩ := hir
            have hz3 : d.kind = 3 → (zeroRow d).length = 0 := fun h3 => by
              have := HVA.out d (List.mem_of_getElem? hd)
              unfold validD at this
              simp [h3] at this
              simp [zeroRow, fixedZ, h3, this]
            have hzz : ∀ (j : Nat) (x : Int), (zeroRow d)[j]? = some x → x = 0 := fun j x hx => by
              have hmem : x ∈ zeroRow d := List.mem_of_getElem? hx
              unfold zeroRow at hmem
              exact (List.mem_replicate.1 hmem).2
            have hz16 : (zeroRow d).length ≤ 16 := by
              have := fixed_bounds (HVA.out d (List.mem_of_getElem? hd))
              simp [zeroRow]
              omega
            have HCLL := HCL.out
            have hkc : (k : Int) < (S.cells.length : Int) := by omega
            generalize hzl : (zeroRow d).length = z at *
            have HZL := Lib.hid hzl
            have HZ3 := Lib.hid hz3
            have HZZ := Lib.hid hzz
            have HIR := Lib.hid hir3
            obtain ⟨nm, kd, ln⟩ := d
            simp only at m1 hz3
            clear hq hd q0 q1 q2 hcz hqr hir3 hzz hzl HCLL
            by_cases k3 : kd = 3
            case' pos =>
              have hz0 : z = 0 := hz3 k3
              have e3 : ((z : Int) != 0) = false := by rw [hz0]; rfl
              have e4 : ((kd : Int) == 3) = true := by rw [k3]; rfl
              clear hz0 k3
            case' neg =>
              have e4 : ((kd : Int) == 3) = false := by simp; omega
              clear k3
            all_goals
              clear hz3 HZ3
              go_wp2
              go_loopg [10] z (fun q3 i wr => ∃ j : Nat, j + q3 = z ∧ i = .int .i64 j ∧ wr = w9.drewN q)
              case atStart => exact ⟨0, by omega, rfl, rfl⟩
              case round =>
                obtain ⟨j, hj, rfl, rfl⟩ := hrel
                have Hj := Lib.hid hj
                have hjz : j ≤ z := by omega
                clear hj
                by_cases hjt : j < z
                · have hjt' : (j : Int) < (z : Int) := by omega
                  obtain ⟨gz, oz, rfl, hgz, hqz⟩ := HIR.out (by omega)
                  obtain ⟨x, hx⟩ := get_lt HZL.out.symm hjt
                  have n0 := hqz j x hx
                  obtain rfl := HZZ.out j x hx
                  clear hqz hx
                  go_wp2
                  have hj := Hj.out
                  go_roundg (z - (j + 1))
                  case measure => omega
                  case rel => exact ⟨j + 1, by omega, by go_num, rfl⟩
                · have hjt' : ¬ (j : Int) < (z : Int) := by omega
                  go_wp2
                  have hk := Hk.out
                  go_roundg (n - (k + 1))
                  case measure => omega
                  case rel => exact ⟨k + 1, by omega, by go_num, rfl⟩
          · have hge : ¬ (k : Int) < (n : Int) := by omega
            have HF := Lib.hid (drewN_below HBF.out q)
            go_wp2
            go_ret
            exact ⟨rfl, HF.out⟩

open Go.ChangeShapes Go.WideShapes in
theorem startslaw_top {H : Type} {enc : TypeId × Value → H} {r : Reach} {b0 : Nat} {w : World} {base : Nat} {sp : Nat → Bool} {held : Bool} (u : Value) (du : DataW H) (pu : List MemPlace) (hu : Value.okWide Try.prog w r b0 36 u) (tu : DataW.Trod enc Try.prog w base sp held 36 u du pu)
    (v : Value) (dv : DataW H) (pv : List MemPlace) (hv : Value.okWide Try.prog w r b0 23 v) (tv : DataW.Trod enc Try.prog w base sp held 23 v dv pv) (w' : World) (hw : w' = w := by rfl) :
    Calls Try.prog 4 #[u, v] w' fun e w'' => e = .returned (.bool true) ∧ Below w'.heap.size w' w'' := by
  subst hw
  obtain ⟨D, h0⟩ := decls_top hu tu
  obtain ⟨l, h1⟩ := ints_top hv tv
  exact startslaw_any D l u v _ h0 h1
end Go.Proofs.Ytpbbiidfahaamaa
