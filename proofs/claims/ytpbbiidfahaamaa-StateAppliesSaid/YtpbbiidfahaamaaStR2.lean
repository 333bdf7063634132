/- The walk of the reference's Diff. -/
import Derived.Test.YtpbbiidfahaamaaStR1
import Derived.Deep.DeepCutAuto
import Derived.Deep.RegionHeld3
namespace Go.Proofs.Ytpbbiidfahaamaa
open Go.RowKit

theorem rchgInfo : (Try.prog.info? 34).map (fun i => (i.zero, i.size, i.bytes)) = some (some (.agg #[.int .i64 0, .int .i64 0, .int .i64 0, .int .i64 0]), 4, 32) := by kernel_rfl

theorem comps_at {n k : Nat} (h : k < n + 2) : (comps n)[k]? = some (if k < n then (k : Int) else (n : Int) - 1 - k) := by
  unfold comps compsL
  by_cases hk : k < n
  · rw [if_pos hk, List.getElem?_append_left (by simpa using hk)]
    simp [hk]
  · rw [if_neg hk, List.getElem?_append_right (by simpa using hk)]
    simp only [List.length_map, List.length_range]
    have : k - n = 0 ∨ k - n = 1 := by omega
    rcases this with e | e
    · rw [e]; simp only [List.getElem?_cons_zero, Option.some.injEq]; omega
    · rw [e]; simp only [List.getElem?_cons_succ, List.getElem?_cons_zero, Option.some.injEq]; omega

theorem PartAt.form {base : Nat} {w : World} {u : Value} {l : List Int} {n : Nat} (h : PartAt base w u l) (hn : l.length = n) : ∃ a c, u = .slice a n c := by
  obtain ⟨⟨a, c, rfl, _⟩, _⟩ := h.ints
  exact ⟨a, c, by rw [hn]⟩

set_option maxRecDepth 100000 in
set_option maxHeartbeats 8000000 in
theorem rdiff_any (a b : St) (u v : Value) (w : World) (h1 : StAt w u a) (h2 : StAt w v b) (ha : Small a) (hb : Small b) :
    Calls Try.prog 17 #[u, v] w fun e w' => ∃ r, e = .returned r ∧ w'.ownsRow w.heap.size 34 4 r (diffP a b).length (chgsV (diffP a b)) ∧ Below w.heap.size w w' := by
  obtain ⟨c1, i1, o1, rfl, hc1, hi1, ho1⟩ := id h1
  obtain ⟨c2, i2, o2, rfl, hc2, hi2, ho2⟩ := id h2
  obtain ⟨a1, k1, rfl, -, -, -⟩ := id hc1
  obtain ⟨a2, k2, rfl, -, -, -⟩ := id hc2
  by_cases hl : a.cells.length = b.cells.length
  · obtain ⟨i0, hi, hz0, hz1, hz2⟩ := info_parts rchgInfo
    have hD : diffP a b = (comps a.cells.length).flatMap (diffAt a b) := by unfold diffP; rw [if_pos hl]
    have hn40 : a.cells.length ≤ 40 := ha.1
    obtain ⟨W, hW⟩ : ∃ W, W = (w.alloc (.cells #[.slice a1 a.cells.length k1, i1, o1] 25)).alloc (.cells #[.slice a2 b.cells.length k2, i2, o2] 25) := ⟨_, rfl⟩
    have hB0 : Below w.heap.size w W := by rw [hW]; exact ((Below.refl _ _).alloc (Nat.le_refl _) _).alloc (by simp) _
    obtain ⟨r0, r1, r2⟩ := three_new w (.slice a1 a.cells.length k1) i1 o1 25
    have q := three_new (w.alloc (.cells #[.slice a1 a.cells.length k1, i1, o1] 25)) (.slice a2 b.cells.length k2) i2 o2 25
    rw [← hW] at q
    have hs1 : (w.alloc (.cells #[.slice a1 a.cells.length k1, i1, o1] 25)).heap.size = w.heap.size + 1 := by simp
    rw [hs1] at q
    obtain ⟨q0, q1, q2⟩ := q
    have p0 := alloc_cell r0 (.cells #[.slice a2 b.cells.length k2, i2, o2] 25)
    have p1 := alloc_cell r1 (.cells #[.slice a2 b.cells.length k2, i2, o2] 25)
    have p2 := alloc_cell r2 (.cells #[.slice a2 b.cells.length k2, i2, o2] 25)
    rw [← hW] at p0 p1 p2
    have hWs : w.heap.size + 1 < W.heap.size := by rw [hW]; simp
    have HA := Lib.hid (h1.below hB0 (Nat.le_refl _))
    have HB := Lib.hid (h2.below hB0 (Nat.le_refl _))
    have HB0 := Lib.hid hB0
    have HWW := Lib.hid hW
    have HSA := Lib.hid ha
    have HSB := Lib.hid hb
    have HD := Lib.hid hD
    have HLB := Lib.hid hl.symm
    rw [← hl] at q0 hW HWW HB ⊢
    generalize hnn : a.cells.length = n at *
    have HLA := Lib.hid hnn
    have HCELL : Hid (∀ w', Below W.heap.size W w' → (w'.cell? ⟨w.heap.size, 0, none⟩ = some (.slice a1 n k1) ∧ w'.cell? ⟨w.heap.size, 1, none⟩ = some i1 ∧ w'.cell? ⟨w.heap.size, 2, none⟩ = some o1) ∧ w'.cell? ⟨w.heap.size + 1, 0, none⟩ = some (.slice a2 n k2) ∧ w'.cell? ⟨w.heap.size + 1, 1, none⟩ = some i2 ∧ w'.cell? ⟨w.heap.size + 1, 2, none⟩ = some o2) :=
      fun w' hb => ⟨⟨cell_below hb (by omega) p0, cell_below hb (by omega) p1, cell_below hb (by omega) p2⟩, cell_below hb hWs q0, cell_below hb hWs q1, cell_below hb hWs q2⟩
    have he1 : ((n : Int) != (n : Int)) = false := by simp
    have f0 : IntKind.i64.wrap ((n : Int) + 2) = (n : Int) + 2 := IntWalk.i64_in _ (by omega)
    have f1 : IntKind.i64.wrap ((n : Int) - 1) = (n : Int) - 1 := IntWalk.i64_in _ (by omega)
    clear h1 h2 hc1 hi1 ho1 hc2 hi2 ho2 hs1 hB0 ha hb hD hW hl r0 r1 r2 hnn p0 p1 p2 q0 q1 q2 hWs
    go_enter Try.func17, Try.ntmps17
    go_wp2
    rw [← HWW.out]
    go_loopg [5, 6] (n + 2) (fun q v5 i wr => ∃ k : Nat, k + q = n + 2 ∧ i = .int .i64 k ∧ wr.ownsRow W.heap.size 34 4 v5 (((comps n).take k).flatMap (diffAt a b)).length (chgsV (((comps n).take k).flatMap (diffAt a b))) ∧ (((comps n).take k).flatMap (diffAt a b)).length ≤ 100 * k ∧ Below W.heap.size W wr)
    case atStart => exact ⟨0, by omega, rfl, World.ownsRow_nil _ _ _ _, Nat.le_refl _, Below.refl _ _⟩
    case round =>
      obtain ⟨k, hk, rfl, hown, hle, hb⟩ := hrel
      obtain ⟨wo, hwo⟩ : ∃ wo : World, wo = wr := ⟨_, rfl⟩
      subst hwo
      have Hk := Lib.hid hk
      have hkn : k ≤ n + 2 := by omega
      have Hown := Lib.hid hown
      have Hle := Lib.hid hle
      have Hb := Lib.hid hb
      obtain ⟨⟨m0, m1, m2⟩, n0, n1, n2⟩ := HCELL.out _ hb
      clear hk hown hle hb
      by_cases hlt : k < n + 2
      · have hlt' : (k : Int) < (n : Int) + 2 := by omega
        have hc := comps_at hlt
        obtain ⟨c, hce⟩ : ∃ c : Int, c = (if k < n then (k : Int) else (n : Int) - 1 - k) := ⟨_, rfl⟩
        rw [← hce] at hc
        have HCE := Lib.hid hce
        have HM := Lib.hid (comps_mem (List.mem_of_getElem? hc))
        have HT := Lib.hid (flat_take (diffAt a b) hc)
        clear hc hce
        have HPA : Hid (∀ w', Below wo.heap.size wo w' → True → Calls Try.prog 37 #[.agg #[.slice a1 n k1, i1, o1], .int .i64 c] w' fun e w'' => ∃ u, e = .returned u ∧ PartAt W.heap.size w'' u (part a c) ∧ Below w'.heap.size w' w'') := fun w' hb' _ =>
          rpart_any W.heap.size a _ c W w' HA.out (Nat.le_refl _) (Hb.out.trans (hb'.mono Hb.out.size)) (Nat.le_trans Hb.out.size hb'.size) (by have := HSA.out.2.1; omega) (by rw [HLA.out]; exact HM.out)
        have HPB : Hid (∀ w', Below wo.heap.size wo w' → Calls Try.prog 37 #[.agg #[.slice a2 n k2, i2, o2], .int .i64 c] w' fun e w'' => ∃ u, e = .returned u ∧ PartAt W.heap.size w'' u (part b c) ∧ Below w'.heap.size w' w'') := fun w' hb' =>
          rpart_any W.heap.size b _ c W w' HB.out (Nat.le_refl _) (Hb.out.trans (hb'.mono Hb.out.size)) (Nat.le_trans Hb.out.size hb'.size) (by have := HSB.out.2.1; omega) (by rw [HLB.out]; exact HM.out)
        have hE : diffAt a b c = dCell c (part a c) (part b c) := rfl
        rw [hE] at HT
        have hX60 := HSA.out.len c
        have hY60 := HSB.out.len c
        clear hE
        generalize part a c = X at *
        generalize part b c = Y at *
        generalize hnx : X.length = nx at *
        generalize hny : Y.length = ny at *
        have HNX := Lib.hid hnx
        have HNY := Lib.hid hny
        clear hnx hny
        obtain ⟨M, hM⟩ : ∃ M, M = max nx ny := ⟨_, rfl⟩
        have hM60 : M ≤ 60 := by omega
        have hT2 := HT.out
        unfold dCell at hT2
        rw [HNX.out, HNY.out, ← hM, ← List.append_assoc] at hT2
        have HT2 := Lib.hid hT2
        have HMX := Lib.hid hM
        clear hT2 HT hM
        generalize ((comps n).take k).flatMap (diffAt a b) = C at *
        have hC := Hle.out
        go_upto_if 31 with (fail)
        go_cut [7] (fun s7 wx => s7 = .int .i64 c ∧ wx = wo)
        case first =>
          by_cases hkk : k < n
          · have h' : ¬ (n : Int) ≤ (k : Int) := by omega
            have hce := HCE.out
            rw [if_pos hkk] at hce
            have HCE2 := Lib.hid hce
            clear hce
            go_wp2
            go_meet
            exact ⟨by rw [HCE2.out], rfl⟩
          · have h' : (n : Int) ≤ (k : Int) := by omega
            have f2 : IntKind.i64.wrap ((n : Int) - 1 - (k : Int)) = (n : Int) - 1 - (k : Int) := IntWalk.i64_in _ (by omega)
            have hce := HCE.out
            rw [if_neg hkk] at hce
            have HCE2 := Lib.hid hce
            clear hce
            go_wp2
            go_meet
            exact ⟨by rw [HCE2.out], rfl⟩
        case rest =>
          obtain ⟨hs7, hwc⟩ := hcut
          obtain rfl : wo = wc := hwc.symm
          subst hs7
          have HX0 : Hid (Below wo.heap.size wo wo) := Below.refl _ _
          go_wp2_with fail
          go_region_held3 (fun w' => w'.cell? ⟨w.heap.size, 0, none⟩ = some (.slice a1 n k1) ∧ w'.cell? ⟨w.heap.size, 1, none⟩ = some i1 ∧ w'.cell? ⟨w.heap.size, 2, none⟩ = some o1 ∧ w'.cell? ⟨w.heap.size + 1, 0, none⟩ = some (.slice a2 n k2) ∧ w'.cell? ⟨w.heap.size + 1, 1, none⟩ = some i2 ∧ w'.cell? ⟨w.heap.size + 1, 2, none⟩ = some o2)
            (first
              | exact ⟨(HCELL.out _ (Hb.out.trans (H2.out.mono Hb.out.size))).1.1, (HCELL.out _ (Hb.out.trans (H2.out.mono Hb.out.size))).1.2.1, (HCELL.out _ (Hb.out.trans (H2.out.mono Hb.out.size))).1.2.2, (HCELL.out _ (Hb.out.trans (H2.out.mono Hb.out.size))).2.1, (HCELL.out _ (Hb.out.trans (H2.out.mono Hb.out.size))).2.2.1, (HCELL.out _ (Hb.out.trans (H2.out.mono Hb.out.size))).2.2.2⟩
              | exact ⟨(HCELL.out _ (Hb.out.trans (H1.out.mono Hb.out.size))).1.1, (HCELL.out _ (Hb.out.trans (H1.out.mono Hb.out.size))).1.2.1, (HCELL.out _ (Hb.out.trans (H1.out.mono Hb.out.size))).1.2.2, (HCELL.out _ (Hb.out.trans (H1.out.mono Hb.out.size))).2.1, (HCELL.out _ (Hb.out.trans (H1.out.mono Hb.out.size))).2.2.1, (HCELL.out _ (Hb.out.trans (H1.out.mono Hb.out.size))).2.2.2⟩
              | exact ⟨m0, m1, m2, n0, n1, n2⟩)
            (first
              | (go_at_call 37; (with_reducible refine (HPA.out _ ?_ ?_).mono ?_); (first | exact HX0.out | exact below_drew HX0.out); exact trivial; rintro e wa ⟨x, rfl, hx, hba⟩; have H1 : Hid (Below wo.heap.size wo wa) := Lib.hid (by first | exact hba | exact below_undrew hba); have HX1 := Lib.hid hx; clear hba hx)
              | (go_at_call 37; (with_reducible refine (HPB.out _ ?_).mono ?_); (first | exact H1.out | exact below_drew H1.out); rintro e wb ⟨y, rfl, hy, hbb⟩; have HXB : Hid (Below wa.heap.size wa wb) := Lib.hid (by first | exact hbb | exact below_undrew hbb); have H2 : Hid (Below wo.heap.size wo wb) := Lib.hid (below_next H1.out (Nat.le_refl _) HXB.out); have HY1 := Lib.hid hy; clear hbb hy))
          obtain ⟨ax, cx, rfl⟩ := HX1.out.form HNX.out
          obtain ⟨ay, cy, rfl⟩ := HY1.out.form HNY.out
          have HX := Lib.hid (HX1.out.next (Nat.le_trans Hb.out.size H1.out.size) HXB.out)
          have HP := Lib.hid (own_below Hown.out H2.out)
          have Hb5 := Lib.hid (below_next Hb.out (Nat.le_refl _) H2.out)
          have hs5 := Hb5.out.size
          clear m0 m1 m2 n0 n1 n2 HX1 HXB H1 H2 Hown HPA HPB HX0
          go_upto_if 48 with (fail)
          have HPL : Hid ((C ++ dLen c X Y).length ≤ 100 * k + 1) := by unfold Hid; have := dLen_len c X Y; rw [List.length_append]; omega
          go_cut [5] (fun s5 wx => wx.ownsRow W.heap.size 34 4 s5 (C ++ dLen c X Y).length (chgsV (C ++ dLen c X Y)) ∧ PartAt W.heap.size wx (.slice ax nx cx) X ∧ PartAt W.heap.size wx (.slice ay ny cy) Y ∧ Below W.heap.size W wx)
          case first =>
            by_cases hxy : nx = ny
            · have he2 : ((nx : Int) != (ny : Int)) = false := by simp; omega
              have hd : dLen c X Y = [] := by unfold dLen; rw [HNX.out, HNY.out, if_pos hxy]
              have hPe : C ++ dLen c X Y = C := by rw [hd, List.append_nil]
              have HPe := Lib.hid hPe
              clear hxy hd hPe
              go_wp2
              go_meet
              rw [HPe.out]
              exact ⟨HP.out, HX.out, HY1.out, Hb5.out⟩
            · have he2 : ((nx : Int) != (ny : Int)) = true := by simp; omega
              have hd : dLen c X Y = [⟨c, -1, nx, ny⟩] := by unfold dLen; rw [HNX.out, HNY.out, if_neg hxy]
              have HD2 := Lib.hid hd
              clear hxy hd
              go_wp2_with (at_builtin; refine wpList_append_own _ rfl (.tmp 49) (.tmp 56) 28 rfl W.heap.size 34 i0 _ 4 32 Try.underlying28 hi hz0 hz1 hz2 rfl (by decide) _ _ _ rfl (HP.out.alloc _) ⟨wb.heap.size, 0, none⟩ 1 1 [.int .i64 c, .int .i64 (-1), .int .i64 nx, .int .i64 ny] rfl rfl ?c1 ?c2 ?c3 ?c4 ?c5 ?_)
              case c1 => exact cell_four_new _ _ _ _ _ _
              case c2 => exact ints4_one _ _ _ _
              case c3 => unfold maxLen; omega
              case c4 => omega
              case c5 => first | omega | (simp; omega)
              intro v6 w6 hown6 hgrow6 _
              have hb6 := (Hb5.out.alloc hs5 (.cells #[.int .i64 c, .int .i64 (-1), .int .i64 nx, .int .i64 ny] 34)).grown hgrow6 (by simp; omega) (fun j hj => (HP.out.lt j hj).1)
              have HX6 := Lib.hid ((HX.out.next hs5 (below_alloc wb (.cells #[.int .i64 c, .int .i64 (-1), .int .i64 nx, .int .i64 ny] 34))).grown (by simp; omega) (HP.out.alloc _) (by decide) hgrow6)
              have HY6 := Lib.hid ((HY1.out.next hs5 (below_alloc wb (.cells #[.int .i64 c, .int .i64 (-1), .int .i64 nx, .int .i64 ny] 34))).grown (by simp; omega) (HP.out.alloc _) (by decide) hgrow6)
              have Hb6 := Lib.hid hb6
              have e1 : (C ++ dLen c X Y).length = C.length + 1 := by rw [HD2.out]; simp
              have e2 : chgsV (C ++ dLen c X Y) = chgsV C ++ [.int .i64 c, .int .i64 (-1), .int .i64 nx, .int .i64 ny] := by rw [HD2.out, chgsV_app, chgsV_one]; rfl
              rw [← e1, ← e2] at hown6
              have HP6 := Lib.hid hown6
              clear hown6 hgrow6 hb6 e1 e2 HX HY1 Hb5 HP HD2
              go_wp2
              go_meet
              exact ⟨HP6.out, HX6.out, HY6.out, Hb6.out⟩
          case rest =>
            obtain ⟨hp, hx, hy, hb6⟩ := hcut
            have HP6 := Lib.hid hp
            have HX6 := Lib.hid hx
            have HY6 := Lib.hid hy
            have Hb6 := Lib.hid hb6
            clear hp hx hy hb6 HX HY1 HP Hb5 hs5
            generalize C ++ dLen c X Y = P at *
            go_wp2
            go_loopg [5, 10] M (fun q v i wr => ∃ j : Nat, j + q = M ∧ i = .int .i64 j ∧ wr.ownsRow W.heap.size 34 4 v (P ++ dEls c X Y j).length (chgsV (P ++ dEls c X Y j)) ∧ PartAt W.heap.size wr (.slice ax nx cx) X ∧ PartAt W.heap.size wr (.slice ay ny cy) Y ∧ Below W.heap.size W wr)
            case atStart => exact ⟨0, by omega, rfl, by simpa [dEls] using HP6.out, HX6.out, HY6.out, Hb6.out⟩
            case round =>
              obtain ⟨j, hj, rfl, hown, hx, hy, hb⟩ := hrel
              have Hj := Lib.hid hj
              have hjm : j ≤ M := by omega
              have Hown := Lib.hid hown
              have Hx := Lib.hid hx
              have Hy := Lib.hid hy
              have Hbb := Lib.hid hb
              have hsz := hb.size
              have hMX := HMX.out
              clear hj hown hx hy hb HP6 HX6 HY6 Hb6
              by_cases hjt : j < M
              · have HEX := Lib.hid (at_any X (.slice ax nx cx) j (by omega) wr Hx.out.ints)
                have HEY := Lib.hid (at_any Y (.slice ay ny cy) j (by omega) wr Hy.out.ints)
                have HTT := Lib.hid (dEls_succ c X Y j)
                have HO : dOne c X Y j = if X.getD j 0 = Y.getD j 0 then [] else [⟨c, j, X.getD j 0, Y.getD j 0⟩] := rfl
                have hlen := dEls_len c X Y j
                have hPL := HPL.out
                have hPd : (P ++ dEls c X Y j).length ≤ 100 * k + 1 + j := by rw [List.length_append]; omega
                generalize X.getD j 0 = p at *
                generalize Y.getD j 0 = q at *
                generalize dEls c X Y j = E at *
                have hor : j < nx ∨ (¬ j < nx ∧ j < ny) := by omega
                clear hMX
                by_cases hpq : p = q
                · rw [if_pos hpq] at HO
                  have he3 : (p != q) = false := by simpa using hpq
                  have HO2 := Lib.hid HO
                  clear HO hpq
                  rcases hor with hj1 | ⟨hj1, hj2⟩
                  case' inl => have hj3 : (j : Int) < (nx : Int) := by omega
                  case' inr =>
                    have hj3 : ¬ (j : Int) < (nx : Int) := by omega
                    have hj4 : (j : Int) < (ny : Int) := by omega
                  all_goals
                    go_wp2_with fail
                    refine HEX.out.mono ?_
                    rintro e w7 ⟨rfl, rfl⟩
                    go_wp2_with fail
                    refine HEY.out.mono ?_
                    rintro e w8 ⟨rfl, rfl⟩
                    go_wp2
                    have hj := Hj.out
                    go_roundg (M - (j + 1))
                    case measure => omega
                    case rel =>
                      refine ⟨j + 1, by omega, by go_num, ?_, Hx.out, Hy.out, Hbb.out⟩
                      rw [HTT.out, HO2.out, List.append_nil]
                      exact Hown.out
                · rw [if_neg hpq] at HO
                  have he3 : (p != q) = true := by simpa using hpq
                  have HO2 := Lib.hid HO
                  clear HO hpq
                  rcases hor with hj1 | ⟨hj1, hj2⟩
                  case' inl => have hj3 : (j : Int) < (nx : Int) := by omega
                  case' inr =>
                    have hj3 : ¬ (j : Int) < (nx : Int) := by omega
                    have hj4 : (j : Int) < (ny : Int) := by omega
                  all_goals
                    go_wp2_with fail
                    refine HEX.out.mono ?_
                    rintro e w7 ⟨rfl, rfl⟩
                    go_wp2_with fail
                    refine HEY.out.mono ?_
                    rintro e w8 ⟨rfl, rfl⟩
                    go_wp2_with fail
                    refine HEX.out.mono ?_
                    rintro e w7 ⟨rfl, rfl⟩
                    go_wp2_with fail
                    refine HEY.out.mono ?_
                    rintro e w8 ⟨rfl, rfl⟩
                    go_wp2_with (at_builtin; refine wpList_append_own _ rfl (.tmp 77) (.tmp 87) 28 rfl W.heap.size 34 i0 _ 4 32 Try.underlying28 hi hz0 hz1 hz2 rfl (by decide) _ _ _ rfl (Hown.out.alloc _) ⟨wr.heap.size, 0, none⟩ 1 1 [.int .i64 c, .int .i64 j, .int .i64 p, .int .i64 q] rfl rfl ?_ ?_ ?_ ?_ ?_ ?_; exact cell_four_new _ _ _ _ _ _; exact ints4_one _ _ _ _; (unfold maxLen; omega); omega; (simp; omega); intro v9 w9 hown9 hgrow9 _)
                    have hb9 := (Hbb.out.alloc hsz (.cells #[.int .i64 c, .int .i64 j, .int .i64 p, .int .i64 q] 34)).grown hgrow9 (by simp; omega) (fun j hj => (Hown.out.lt j hj).1)
                    have HX9 := Lib.hid ((Hx.out.next hsz (below_alloc wr (.cells #[.int .i64 c, .int .i64 j, .int .i64 p, .int .i64 q] 34))).grown (by simp; omega) (Hown.out.alloc _) (by decide) hgrow9)
                    have HY9 := Lib.hid ((Hy.out.next hsz (below_alloc wr (.cells #[.int .i64 c, .int .i64 j, .int .i64 p, .int .i64 q] 34))).grown (by simp; omega) (Hown.out.alloc _) (by decide) hgrow9)
                    have Hb9 := Lib.hid hb9
                    have Hown9 := Lib.hid hown9
                    clear hown9 hgrow9 hb9 Hown Hx Hy Hbb
                    go_wp2
                    have hj := Hj.out
                    go_roundg (M - (j + 1))
                    case measure => omega
                    case rel =>
                      refine ⟨j + 1, by omega, by go_num, ?_, HX9.out, HY9.out, Hb9.out⟩
                      rw [HTT.out, HO2.out, ← List.append_assoc, chgsV_app _ [_], chgsV_one]
                      have e : (P ++ E ++ [(⟨c, j, p, q⟩ : Chg)]).length = (P ++ E).length + 1 := by simp; omega
                      rw [e]
                      exact Hown9.out
              · have hj1 : ¬ (j : Int) < (nx : Int) := by omega
                have hj2 : ¬ (j : Int) < (ny : Int) := by omega
                have hjM : j = M := by omega
                subst hjM
                have hown := Hown.out
                rw [← HT2.out] at hown
                have hle : (((comps n).take (k + 1)).flatMap (diffAt a b)).length ≤ 100 * (k + 1) := by
                  rw [HT2.out, List.length_append]
                  have := dEls_len c X Y j
                  have := HPL.out
                  omega
                have HL2 := Lib.hid hle
                have HO2 := Lib.hid hown
                have Hb2 := Lib.hid Hbb.out
                clear hown hle Hown Hx Hy Hbb hMX
                go_wp2
                have hk := Hk.out
                go_roundg (n + 2 - (k + 1))
                case measure => omega
                case rel => exact ⟨k + 1, by omega, by go_num, HO2.out, HL2.out, Hb2.out⟩
      · have hge : ¬ (k : Int) < (n : Int) + 2 := by omega
        have hown := Hown.out
        rw [List.take_of_length_le (by simp [comps, compsL]; omega), ← HD.out] at hown
        have HO2 := Lib.hid hown
        have hsz := HB0.out.size
        clear hown Hown
        go_wp2
        go_ret
        exact ⟨_, rfl, World.ownsRow.mono HO2.out hsz, HB0.out.trans (Hb.out.mono hsz)⟩
  · have hD : diffP a b = [] := by unfold diffP; rw [if_neg hl]
    rw [hD]
    generalize a.cells.length = n at *
    generalize b.cells.length = n' at *
    have he1 : ((n : Int) != (n' : Int)) = true := by simp; omega
    clear h1 h2 hc1 hi1 ho1 hc2 hi2 ho2 ha hb hD
    go_enter Try.func17, Try.ntmps17
    go_wp2
    go_ret
    exact ⟨_, rfl, World.ownsRow_nil _ _ _ _, ((Below.refl _ _).alloc (Nat.le_refl _) _).alloc (by simp) _⟩

end Go.Proofs.Ytpbbiidfahaamaa
