/- The walk of the reference's Apply. -/
import Derived.Test.YtpbbiidfahaamaaStX5
import Derived.Test.YtpbbiidfahaamaaStStarts
namespace Go.Proofs.Ytpbbiidfahaamaa
open Go.RowKit

theorem make_rows (m : Nat) (hm : m ≤ 1000000) (W : World) :
    (Instr.makeSlice 22 (.int .i64 (m : Int)) (.int .i64 (m : Int))).run Try.prog W = .ok (.slice (some ⟨W.heap.size, 0, none⟩) m m) (W.alloc (.cells (arr m (fun _ => .slice none 0 0)) 23)) := by
  obtain ⟨i0, hi, hz0, hz1, hz2⟩ := info_parts rowInfo
  have h := run_make (P := Try.prog) W 22 23 i0 (.slice none 0 0) Try.underlying22 hi hz0 .i64 .i64 m m (by omega) (Int.le_refl _) (by rw [hz2]; omega) (by omega)
  simp only [Int.toNat_natCast] at h
  rw [h, hz1, Nat.mul_one]
  have e : madeCells (Value.cells (.slice none 0 0)) m = arr m (fun _ => .slice none 0 0) := by
    rw [← arr_rep]
    apply Array.toList_inj.1
    rw [Array.toList_replicate]
    exact toList_madeCells_one _ _
  rw [e]
theorem make_ints' (m : Nat) (hm : m ≤ 1000000) (W : World) :
    (Instr.makeSlice 23 (.int .i64 (m : Int)) (.int .i64 (m : Int))).run Try.prog W = .ok (.slice (some ⟨W.heap.size, 0, none⟩) m m) (W.alloc (.cells (arr m (fun _ => .int .i64 0)) 3)) := by
  rw [make_ints m hm, arr_rep]

theorem below_put3 {B g : Nat} {W w' : World} (h : Below B W w') (hg : B ≤ g) (x y z : Value) : Below B W (((w'.setCell ⟨g, 0, none⟩ x).setCell ⟨g, 1, none⟩ y).setCell ⟨g, 2, none⟩ z) :=
  ((h.setCell (p := ⟨g, 0, none⟩) hg x).setCell (p := ⟨g, 1, none⟩) hg y).setCell (p := ⟨g, 2, none⟩) hg z
theorem st0_at (w : World) : StAt w (.agg #[.slice none 0 0, .slice none 0 0, .slice none 0 0]) st0 := (st0_new 0 w).at_ ⟨by simp, by simp, by simp⟩
theorem like_len {n : Nat} {ln : Nat → Int} {P : Nat → List Int} {F : Int → Sq} (h : Like n ln P F) {c : Chg} (h1 : -2 ≤ c.cell) (h2 : c.cell < n) (h3 : c.pos = -1) (h4 : 0 ≤ c.new) (h5 : c.new ≤ 4096) :
    (c.old ≠ ln (idx n c.cell) → (stepP n F c).1 = 20) ∧ (c.old = ln (idx n c.cell) → (stepP n F c).1 = 0 ∧ Like n (fun j => if j = idx n c.cell then c.new else ln j) P (stepP n F c).2) := by
  obtain ⟨k1, k2⟩ := cellN_idx (comps_iff.2 ⟨h1, h2⟩)
  have he := (h.eqv _ k2).1
  rw [k1] at he
  simp only at he
  rw [he]
  obtain ⟨s1, s2⟩ := step_len (F := F) h1 h2 h3 h4 h5
  refine ⟨s1, fun hh => ?_⟩
  rw [s2 hh]
  exact ⟨rfl, h.len h1 h2 h4 h5⟩
theorem like_els {n : Nat} {ln : Nat → Int} {P : Nat → List Int} {F : Int → Sq} (h : Like n ln P F) {c : Chg} (h1 : -2 ≤ c.cell) (h2 : c.cell < n) (h3 : 0 ≤ c.pos) (h4 : c.pos < 4096) (hf : c.Fits) :
    (c.old ≠ (P (idx n c.cell)).getD c.pos.toNat 0 → (stepP n F c).1 = 20) ∧ (c.old = (P (idx n c.cell)).getD c.pos.toNat 0 → (stepP n F c).1 = 0 ∧ Like n ln (fun j => if j = idx n c.cell then (P (idx n c.cell)).set c.pos.toNat c.new else P j) (stepP n F c).2) := by
  obtain ⟨k1, k2⟩ := cellN_idx (comps_iff.2 ⟨h1, h2⟩)
  have he := (h.eqv _ k2).2 c.pos.toNat
  rw [k1] at he
  simp only at he
  rw [he]
  obtain ⟨s1, s2⟩ := step_els (F := F) h1 h2 h3 h4
  refine ⟨s1, fun hh => ?_⟩
  obtain ⟨g0, g⟩ := s2 hh
  exact ⟨g0, h.els h1 h2 h3 h4 hf g⟩
def cutV : Value → Nat → Value
  | .slice a _ c, m => .slice a m c
  | v, _ => v
theorem ints_get {B g np c : Nat} {w : World} {P : List Int} (h : IntsNew B w (.slice (some ⟨g, 0, none⟩) np c) P) (hn : P.length = np) {e : Nat} (he : e < P.length) : w.cell? ⟨g, e, none⟩ = some (.int .i64 (P.getD e 0)) := by
  subst hn
  have := h.cellAt e (by omega)
  rw [this, List.getD_eq_getElem?_getD, List.getElem?_eq_getElem he]
  simp [intsV, he]
theorem rev_step {P : List Int} {mt r : Nat} (hr : r < mt) (hm : mt ≤ P.length) : (P.take mt).reverse.take (r + 1) = (P.take mt).reverse.take r ++ [P.getD (mt - 1 - r) 0] := by
  have hl : (P.take mt).length = mt := by rw [List.length_take]; omega
  rw [rev_take (by rw [hl]; exact hr)]
  congr 2
  rw [List.getElem_take, List.getD_eq_getElem?_getD, List.getElem?_eq_getElem (by omega)]
  simp only [hl, Option.getD_some]
theorem out_take {q : Sq} {ln : Int} {P : List Int} (h : Eqv ⟨ln, P⟩ q) {m : Nat} (hm : ln = m) (hl : m ≤ P.length) (hs : (sqOut q).isSome = true) : (sqOut q).getD [] = P.take m := by
  obtain ⟨l, hl'⟩ := Option.isSome_iff_exists.1 hs
  have h0 : 0 ≤ q.len := by rw [← h.1]; show 0 ≤ ln; omega
  have he := sqOut_eqv hl' h0
  have e1 : (l.length : Int) = m := by
    have := he.1
    rw [← h.1] at this
    simp only at this
    omega
  rw [hl', Option.getD_some]
  apply List.ext_getElem
  · rw [List.length_take]; omega
  · intro i h1 h2
    have e2 := he.2 i
    rw [← h.2] at e2
    simp only at e2
    rw [List.getD_eq_getElem?_getD, List.getElem?_eq_getElem (by omega), List.getD_eq_getElem?_getD, List.getElem?_eq_getElem h1] at e2
    simp only [Option.getD_some] at e2
    rw [List.getElem_take]
    exact e2.symm

theorem fin_at {B4 Bo n M : Nat} {wf : World} {vs us : Nat → Value} {P : Nat → List Int} {ln : Nat → Int} {F : Int → Sq} {cv iv ov : Value} (hM : M = n + 2) (hcv : wf.ownsRow Bo 23 1 cv n ((List.range n).map us))
    (hiv : IntsNew Bo wf iv ((P n).take (ln n).toNat).reverse) (hov : ov = us (n + 1)) (hus : us = fun j => cutV (vs j) (ln j).toNat) (hpa : Parts B4 wf M vs P) (hl : Like n ln P F) (hok : ∀ j, j < M → okC F (cellN n j) = true) :
    StAt wf (.agg #[cv, iv, ov]) ⟨(compsL n).map (outC F), (outC F (-1)).reverse, outC F (-2)⟩ := by
  subst hM
  have hm : ∀ j, j < n + 2 → ln j = ((ln j).toNat : Int) ∧ (ln j).toNat ≤ (P j).length := fun j hj => by
    have h1 := hl.lo j hj
    have h2 := hl.hi j hj
    have h3 := hl.plo j hj
    omega
  have hout : ∀ j, j < n + 2 → outC F (cellN n j) = (P j).take (ln j).toNat := fun j hj => out_take (hl.eqv j hj) (hm j hj).1 (hm j hj).2 (hok j hj)
  have hin : ∀ j, j < n + 2 → IntsAt wf (us j) (outC F (cellN n j)) := fun j hj => by
    obtain ⟨g, c, ev, _, _, _, _, _, hints⟩ := hpa.get hj
    rw [hout j hj, hus]
    simp only [ev]
    exact IntsAt.sub hints (hl.i64 j hj) (hm j hj).2
  have c1 : cellN n n = -1 := by unfold cellN; rw [if_neg (by omega)]; omega
  have c2 : cellN n (n + 1) = -2 := by unfold cellN; rw [if_neg (by omega)]; omega
  refine ⟨cv, iv, ov, rfl, ?_, ?_, ?_⟩
  · have hlen : ((compsL n).map (outC F)).length = n := by simp [compsL]
    unfold RowsAt
    simp only [hlen]
    rcases hcv.2 with ⟨rfl, h0⟩ | ⟨g, cap, cur, rfl, _, hg, hn, hmx, hc, ht⟩
    · subst h0
      exact ⟨none, 0, rfl, Nat.le_refl _, by unfold maxLen; omega, fun h => absurd h (by decide)⟩
    · refine ⟨_, cap, rfl, hn, hmx, fun hp => ⟨g, 0, rfl, (Array.getElem?_eq_some_iff.1 hg).1, fun i l hil => ?_⟩⟩
      have hi : i < n := by
        rcases Nat.lt_or_ge i n with hh | hh
        · exact hh
        · rw [List.getElem?_eq_none (by rw [hlen]; exact hh)] at hil; cases hil
      have hl' : l = outC F (cellN n i) := by
        simp only [compsL, List.map_map, List.getElem?_map, List.getElem?_range hi, Option.map_some, Function.comp] at hil
        injection hil with hil
        rw [← hil]
        unfold cellN
        rw [if_pos hi]
      refine ⟨us i, ?_, by rw [hl']; exact hin i (by omega)⟩
      rw [Nat.zero_add, hcv.cellAt i (by omega)]
      simp [hi]
  · have := hout n (by omega)
    rw [c1] at this
    rw [this]
    exact IntsAt.of_own hiv (fun x hx => hl.i64 n (by omega) x (List.mem_of_mem_take (List.mem_reverse.1 hx)))
  · rw [hov, ← c2]
    exact hin (n + 1) (by omega)
theorem Parts.above {B B' m : Nat} {w w' : World} {vs : Nat → Value} {P : Nat → List Int} (h : Parts B w m vs P) (hB : B' ≤ B) (hab : Above B' w w') : Parts B' w' m vs P :=
  ⟨fun j hj => by
    obtain ⟨g, c, e, hn⟩ := h.row j hj
    exact ⟨g, c, e, hab.own (own_mono hn hB)⟩, h.apart⟩
theorem intsV_zeros (m : Nat) : intsV (List.replicate m 0) = List.replicate m (Value.int .i64 0) := by simp [intsV]

set_option maxRecDepth 100000 in
set_option maxHeartbeats 16000000 in
theorem rapply_any (s : St) (C : List Chg) (vs vc : Value) (w : World) (h : StAt w vs s) (hC : ChgsAt w vc C) (hs : Big s) (hp60 : ∀ c, (part s c).length ≤ 60) (hCl : C.length ≤ 100000) :
    Calls Try.prog 32 #[vs, vc] w fun e w' => ∃ r, e = .returned (.tuple #[r, .int .i64 ((applyP s C).1 : Nat)]) ∧ (∀ w'', Above w.heap.size w' w'' → StAt w'' r (applyP s C).2) ∧ Below w.heap.size w w' := by
  obtain ⟨c0, i0, o0, rfl, h1, h2, h3⟩ := id h
  obtain ⟨n, hn⟩ : ∃ n, n = s.cells.length := ⟨_, rfl⟩
  obtain ⟨ac, cc, rfl, -, -, -⟩ := id h1
  have hinp : s.inp.length ≤ 1000000 := by have := hp60 (-1); rw [part_in, List.length_reverse] at this; omega
  rw [← hn] at h h1 ⊢
  obtain ⟨⟨am, cm, rfl, hcm1, hcm2, hcm3⟩, hcf⟩ := id hC
  obtain ⟨K, hK⟩ : ∃ K, K = C.length := ⟨_, rfl⟩
  rw [← hK] at hcm1 hcm3 hCl hC ⊢
  obtain ⟨M, hM⟩ : ∃ M, M = n + 2 := ⟨_, rfl⟩
  obtain ⟨AP, hAP⟩ : ∃ AP, applyP s C = AP := ⟨_, rfl⟩
  rw [hAP]
  have HAP := Lib.hid hAP
  clear hAP
  have hn40 : n ≤ 40 := by rw [hn]; exact hs.1
  have e1 : (n : Int) + 2 = (M : Int) := by omega
  have f1 : IntKind.i64.wrap ((n : Int) + 2) = (M : Int) := by rw [← e1]; exact IntWalk.i64_in _ (by omega)
  have hmk1 : ∀ W, _ := make_ints' M (by omega)
  have hmk2 : ∀ W, _ := make_rows M (by omega)
  -- the world in which the walk begins: two boxes and two rows
  obtain ⟨W2, hW2⟩ : ∃ W2, W2 = (w.alloc (.cells #[.slice ac n cc, i0, o0] 25)).alloc (.cells #[.slice none 0 0, .slice none 0 0, .slice none 0 0] 25) := ⟨_, rfl⟩
  have hB0 : Below w.heap.size w W2 := by rw [hW2]; exact ((Below.refl _ _).alloc (Nat.le_refl _) _).alloc (by simp) _
  have hb0 : Blk W2 w.heap.size 25 #[.slice ac n cc, i0, o0] := by rw [hW2]; exact (Blk.new _ _ _).al _
  have hb1 : Blk W2 (w.heap.size + 1) 25 #[.slice none 0 0, .slice none 0 0, .slice none 0 0] := by rw [hW2]; exact Blk.new' (by simp)
  have hWs2 : W2.heap.size = w.heap.size + 2 := by rw [hW2]; simp
  obtain ⟨W3, hW3⟩ : ∃ W3, W3 = W2.alloc (.cells (arr M (fun _ => .int .i64 0)) 3) := ⟨_, rfl⟩
  obtain ⟨W4, hW4⟩ : ∃ W4, W4 = W3.alloc (.cells (arr M (fun _ => .slice none 0 0)) 23) := ⟨_, rfl⟩
  have hWs3 : W3.heap.size = w.heap.size + 3 := by rw [hW3]; simp [hWs2]
  have hWs4 : W4.heap.size = w.heap.size + 4 := by rw [hW4]; simp [hWs3]
  have hB4 : Below W2.heap.size W2 W4 := by rw [hW4, hW3]; exact ((Below.refl _ _).alloc (Nat.le_refl _) _).alloc (by simp) _
  have hbl : Blk W4 (w.heap.size + 2) 3 (arr M (fun _ => .int .i64 0)) := by rw [hW4]; refine Blk.al ?_ _; rw [hW3]; exact Blk.new' hWs2
  have hbp : Blk W4 (w.heap.size + 3) 23 (arr M (fun _ => .slice none 0 0)) := by rw [hW4]; exact Blk.new' hWs3
  have hst : StAt W2 (.agg #[.slice ac n cc, i0, o0]) s := h.below hB0 (Nat.le_refl _)
  have HST := Lib.hid hst
  have HC := Lib.hid (hC.below hB0 (Nat.le_refl _))
  have HK0 := Lib.hid hb0
  have HK1 := Lib.hid hb1
  have HBL := Lib.hid hbl
  have HBP := Lib.hid hbp
  have HB0 := Lib.hid hB0
  have HB4 := Lib.hid hB4
  have HW2 := Lib.hid hW2
  have HW3 := Lib.hid hW3
  have HW4 := Lib.hid hW4
  have HS := Lib.hid hs
  have HN := Lib.hid hn
  have HM := Lib.hid hM
  have HKK := Lib.hid hK
  have HP60 := Lib.hid hp60
  have HCF := Lib.hid hcf
  have HINP := Lib.hid hinp
  have HPART : Hid (∀ (cell : Int) (k : Nat) (w' : World), k < M → cell = cellN n k → Below W2.heap.size W2 w' → Calls Try.prog 37 #[.agg #[.slice ac n cc, i0, o0], .int .i64 cell] w' fun e w'' => ∃ u, e = .returned u ∧ PartAt2 W2.heap.size w'.heap.size w'' u (part s (cellN n k)) ∧ Below w'.heap.size w' w'') := by
    intro cell k w' hk hc hb
    subst hc
    have hm := comps_mem (cellN_mem (n := n) (k := k) (by omega))
    exact rpart2_any W2.heap.size s _ _ W2 w' hst (Nat.le_refl _) hb hb.size hinp (by rw [← hn]; exact hm)
  clear h h1 h2 h3 hC hcm3 hcf hst hb0 hb1 hbl hbp hB0 hB4 hW2 hW3 hW4 hs hn hM hK hp60 hinp
  have hM0 : (0 : Int) ≤ (M : Int) := Int.natCast_nonneg _
  have hM42 : (M : Int) ≤ 42 := by omega
  go_enter Try.func32, Try.ntmps32
  go_upto_region 4 with (fail)
  rw [← HW2.out, ← HW3.out, ← HW4.out]
  obtain ⟨Lb, hLb⟩ : ∃ Lb, w.heap.size + 2 = Lb := ⟨_, rfl⟩
  obtain ⟨Pb, hPb⟩ : ∃ Pb, w.heap.size + 3 = Pb := ⟨_, rfl⟩
  rw [show w.heap.size + 1 + 1 + 1 = Pb by omega, show w.heap.size + 1 + 1 = Lb by omega]
  rw [hLb] at HBL hWs2
  rw [hPb] at HBP hWs3
  obtain ⟨P0, hP0⟩ : ∃ P0 : Nat → List Int, P0 = fun k => part s (cellN n k) ++ List.replicate 4096 0 := ⟨_, rfl⟩
  obtain ⟨ln0, hln0⟩ : ∃ ln0 : Nat → Int, ln0 = fun k => (((part s (cellN n k)).length : Nat) : Int) := ⟨_, rfl⟩
  have HP0 := Lib.hid hP0
  have HLN0 := Lib.hid hln0
  have hB4b := HB4.out
  have hs42 : W2.heap.size ≤ W4.heap.size := hB4b.size
  clear hP0 hln0 hB4b HW2 HW3 HW4 hmk1 hmk2
  go_wp2
  go_loopg [9] M (fun q i wr => ∃ (k : Nat) (vs : Nat → Value), k + q = M ∧ i = .int .i64 k ∧
    Blk wr Lb 3 (arr M (fun j => if j < k then .int .i64 (ln0 j) else .int .i64 0)) ∧
    Blk wr Pb 23 (arr M (fun j => if j < k then vs j else .slice none 0 0)) ∧
    Parts W4.heap.size wr k vs P0 ∧ Below W2.heap.size W2 wr ∧ W4.heap.size ≤ wr.heap.size)
  case atStart =>
    refine ⟨0, fun _ => undef, by omega, rfl, ?_, ?_, Parts.nil _ _ _ _, HB4.out, Nat.le_refl _⟩
    · have := HBL.out; simpa using this
    · have := HBP.out; simpa using this
  case round =>
    obtain ⟨k, vs, hk, rfl, hL, hP, hparts, hbw, hszw⟩ := hrel
    have Hk := Lib.hid hk
    have hkM : k ≤ M := by omega
    have HL := Lib.hid hL
    have HP := Lib.hid hP
    have HPA := Lib.hid hparts
    have HBW := Lib.hid hbw
    clear hk hL hP hparts hbw
    by_cases hlt : k < M
    · have hlt' : (k : Int) < (M : Int) := by omega
      have hk0 : (0 : Int) ≤ (k : Int) := Int.natCast_nonneg _
      have y0 := ((HK0.out.below HBW.out (by omega : w.heap.size < W2.heap.size))).cell 0
      have y1 := ((HK0.out.below HBW.out (by omega : w.heap.size < W2.heap.size))).cell 1
      have y2 := ((HK0.out.below HBW.out (by omega : w.heap.size < W2.heap.size))).cell 2
      simp only [List.getElem?_toArray, List.getElem?_cons_succ, List.getElem?_cons_zero] at y0 y1 y2
      by_cases hkn : k < n
      case' pos =>
        have hkn' : (k : Int) < (n : Int) := by omega
        have hce : Hid ((k : Int) = cellN n k) := by unfold Hid; unfold cellN; rw [if_pos hkn]
        go_wp2_with fail
        refine (HPART.out _ k _ hlt hce.out HBW.out).mono ?_
      case' neg =>
        have hkn' : (n : Int) ≤ (k : Int) := by omega
        have f2 : IntKind.i64.wrap ((n : Int) - 1) = (n : Int) - 1 := IntWalk.i64_in _ (by omega)
        have f3 : IntKind.i64.wrap ((n : Int) - 1 - (k : Int)) = (n : Int) - 1 - (k : Int) := IntWalk.i64_in _ (by omega)
        have hce : Hid ((n : Int) - 1 - (k : Int) = cellN n k) := by unfold Hid; unfold cellN; rw [if_neg hkn]
        go_wp2_with fail
        refine (HPART.out _ k _ hlt hce.out HBW.out).mono ?_
      all_goals
        clear hce hkn hkn' y0 y1 y2
        rintro e w5 ⟨u5, rfl, hpt5, hb5⟩
        obtain ⟨pl, hpl⟩ : ∃ pl, pl = part s (cellN n k) := ⟨_, rfl⟩
        rw [← hpl] at hpt5
        have hp60' : pl.length ≤ 60 := by rw [hpl]; exact HP60.out _
        have hint5 := hpt5.ints
        obtain ⟨⟨a5, c5, rfl, -, -, -⟩, hi64⟩ := id hint5
        have HL5 := Lib.hid (HL.out.next hb5)
        have HP5 := Lib.hid (HP.out.next hb5)
        have HPA5 := Lib.hid (HPA.out.next hb5)
        have HBW5 := Lib.hid (below_next HBW.out (by have := HBW.out.size; exact Nat.le_refl _) hb5)
        have HPT5 := Lib.hid hpt5
        have HPL := Lib.hid hpl
        have hsz5 := hb5.size
        have z0 := HL5.out.free k
        have z1 : w5.cell? ⟨Lb, k, none⟩ = some (.int .i64 0) := by
          rw [HL5.out.cell k, arr_get _ hlt, if_neg (Nat.lt_irrefl k)]
        obtain ⟨ml, hml⟩ : ∃ ml, ml = pl.length := ⟨_, rfl⟩
        rw [← hml] at hp60' HPT5 ⊢
        have HML := Lib.hid hml
        obtain ⟨w6, hw6⟩ : ∃ w6, w6 = w5.setCell ⟨Lb, k, none⟩ (.int .i64 ml) := ⟨_, rfl⟩
        have hPL : Pb ≠ Lb := by omega
        have ht6 : Touch (fun j => j = Lb) w5 w6 := by rw [hw6]; exact Touch.of_set _ _ _ _
        have HL6 : Hid (Blk w6 Lb 3 (arr M (fun j => if j < k + 1 then .int .i64 (ln0 j) else .int .i64 0))) := by
          rw [hw6]
          have h := HL5.out.set k (.int .i64 ml)
          rw [arr_set] at h
          have e : (arr M fun j => if j = k then Value.int .i64 (ml : Int) else if j < k then .int .i64 (ln0 j) else .int .i64 0) = arr M (fun j => if j < k + 1 then .int .i64 (ln0 j) else .int .i64 0) := by
            apply arr_congr
            intro j _
            by_cases ej : j = k
            · rw [if_pos ej, if_pos (by omega), HLN0.out, ej, HML.out, HPL.out]
            · rw [if_neg ej]
              by_cases ek : j < k
              · rw [if_pos ek, if_pos (by omega)]
              · rw [if_neg ek, if_neg (by omega)]
          rw [e] at h
          exact h
        have HP6 := Lib.hid (ht6.blk HP5.out hPL)
        have HPA6 := Lib.hid (HPA5.out.touch ht6 (fun j h1 _ h2 => by omega))
        have HBW6 : Hid (Below W2.heap.size W2 w6) := by rw [hw6]; exact HBW5.out.setCell (p := ⟨Lb, k, none⟩) (by show W2.heap.size ≤ Lb; omega) _
        have HPT6 : Hid (PartAt2 W2.heap.size wr.heap.size w6 (.slice a5 ml c5) pl) := by rw [hw6]; exact HPT5.out.set (by omega) (by omega) _ _
        have hsz6 : w5.heap.size ≤ w6.heap.size := ht6.size
        have HW6 := Lib.hid hw6
        clear hml hpl hpt5 hint5 hb5 HL HP HPA HBW hi64 hw6 ht6 HPT5 HL5 HP5 HPA5 HBW5
        go_upto_region 12 with (fail)
        rw [← HW6.out]
        clear HW6 z0 z1
        have hb67 : Below w6.heap.size w6 (w6.alloc (.cells #[] 3)) := below_alloc _ _
        go_wp2_with (at_builtin; refine wpList_append_ints rfl (.tmp 53) (.tmp 54) rfl w6.heap.size _ 0 [] rfl (own_empty w6 _ (Nat.le_refl _)) (.slice a5 ml c5) pl rfl (HPT6.out.ints.below (below_alloc _ _) (Nat.le_refl _)) (by have := HML.out; omega) (by simp) ?_)
        intro v7 w7 hown7 hgrow7
        have hb7 : Below w6.heap.size w6 w7 := hb67.grown hgrow7 (by simp) (fun j hj => ((own_empty w6 _ (Nat.le_refl _)).lt j hj).1)
        have hsz7 := hb7.size
        refine wpList_append_zeros rfl (.tmp 55) (.const (.int .i64 4096)) rfl w6.heap.size v7 pl.length (intsV pl) rfl hown7 4096 rfl (by omega) (by omega) (by have := HML.out; omega) hsz7 ?_
        intro v8 w8 hown8 hgrow8
        have hb8 : Below w6.heap.size w6 w8 := hb7.grown hgrow8 hsz7 (fun j hj => (hown7.lt j hj).1)
        have hP0k : P0 k = pl ++ List.replicate 4096 0 := by rw [HP0.out, HPL.out]
        have hlen : pl.length + 4096 = (P0 k).length := by rw [hP0k, List.length_append, List.length_replicate]
        have hnew : IntsNew w6.heap.size w8 v8 (P0 k) := by
          unfold IntsNew
          rw [← hlen, hP0k, show intsV (pl ++ List.replicate 4096 0) = intsV pl ++ List.replicate 4096 (.int .i64 0) by simp [intsV]]
          exact hown8
        obtain ⟨g8, c8, rfl, hg8, -⟩ := own_some hnew (by rw [← hlen]; omega)
        have hPA8 := HPA6.out.add hb8 (by omega) rfl hnew
        have eP : (fun j => if j = k then P0 k else P0 j) = P0 := by
          funext j
          by_cases e : j = k
          · rw [if_pos e, e]
          · rw [if_neg e]
        rw [eP] at hPA8
        have HPA8 := Lib.hid hPA8
        have HP8 := Lib.hid (HP6.out.next hb8)
        have HL8 := Lib.hid (HL6.out.next hb8)
        have HBW8 := Lib.hid (HBW6.out.trans (hb8.mono HBW6.out.size))
        have hsz8 := hb8.size
        have x0 := HP8.out.free k
        have x1 : w8.cell? ⟨Pb, k, none⟩ = some (.slice none 0 0) := by
          rw [HP8.out.cell k, arr_get _ hlt, if_neg (Nat.lt_irrefl k)]
        obtain ⟨lk, hlk⟩ : ∃ lk, (P0 k).length = lk := ⟨_, rfl⟩
        rw [hlk] at HPA8 ⊢
        obtain ⟨w9, hw9⟩ : ∃ w9, w9 = w8.setCell ⟨Pb, k, none⟩ (.slice (some ⟨g8, 0, none⟩) lk c8) := ⟨_, rfl⟩
        have ht9 : Touch (fun j => j = Pb) w8 w9 := by rw [hw9]; exact Touch.of_set _ _ _ _
        have HP9 : Hid (Blk w9 Pb 23 (arr M (fun j => if j < k + 1 then (if j = k then .slice (some ⟨g8, 0, none⟩) lk c8 else vs j) else .slice none 0 0))) := by
          rw [hw9]
          have h := HP8.out.set k (.slice (some ⟨g8, 0, none⟩) lk c8)
          rw [arr_set] at h
          have e : (arr M fun j => if j = k then Value.slice (some ⟨g8, 0, none⟩) lk c8 else if j < k then vs j else .slice none 0 0) = arr M (fun j => if j < k + 1 then (if j = k then .slice (some ⟨g8, 0, none⟩) lk c8 else vs j) else .slice none 0 0) := by
            apply arr_congr
            intro j _
            by_cases ej : j = k
            · rw [if_pos ej, if_pos (by omega), if_pos ej]
            · rw [if_neg ej]
              by_cases ek : j < k
              · rw [if_pos ek, if_pos (by omega), if_neg ej]
              · rw [if_neg ek, if_neg (by omega)]
          rw [e] at h
          exact h
        have HL9 := Lib.hid (ht9.blk HL8.out (fun h => hPL h.symm))
        have HPA9 := Lib.hid (HPA8.out.touch ht9 (fun j h1 _ h2 => by omega))
        have HBW9 : Hid (Below W2.heap.size W2 w9) := by rw [hw9]; exact HBW8.out.setCell (p := ⟨Pb, k, none⟩) (by show W2.heap.size ≤ Pb; omega) _
        have hsz9 : w8.heap.size ≤ w9.heap.size := ht9.size
        have HW9 := Lib.hid hw9
        clear hown7 hgrow7 hown8 hgrow8 hb7 hb8 hb67 hP0k hlen hnew hPA8 eP HP8 HL8 HPA8 HBW8 HP6 HL6 HPA6 HBW6 hw9 ht9 HPT6 hlk
        go_wp2
        rw [← HW9.out]
        have hk := Hk.out
        go_roundg (M - (k + 1))
        case measure => omega
        case rel => exact ⟨k + 1, _, by omega, by go_num, HL9.out, HP9.out, HPA9.out, HBW9.out, by omega⟩
    · have hkM2 : k = M := by omega
      subst hkM2
      have HLa : Hid (Blk wr Lb 3 (arr k (fun j => .int .i64 (ln0 j)))) := by
        have h := HL.out
        rw [arr_congr (g := fun j => Value.int .i64 (ln0 j)) (fun j hj => by rw [if_pos hj])] at h
        exact h
      have HPa : Hid (Blk wr Pb 23 (arr k vs)) := by
        have h := HP.out
        rw [arr_congr (g := vs) (fun j hj => by rw [if_pos hj])] at h
        exact h
      have HLIKE : Hid (Like n ln0 P0 (seq0 s)) := by
        have := Like.start HS.out HP60.out
        rw [← HN.out, ← HLN0.out, ← HP0.out] at this
        exact this
      have hge : ¬ (k : Int) < (k : Int) := by omega
      clear HL HP
      go_wp2
      go_loopg [12] K (fun q i wb => ∃ (j : Nat) (F : Int → Sq) (ln : Nat → Int) (P : Nat → List Int), j + q = K ∧ i = .int .i64 j ∧ runL n (seq0 s) (C.take j) = (0, F) ∧ Like n ln P F ∧
        Blk wb Lb 3 (arr k (fun j => .int .i64 (ln j))) ∧ Blk wb Pb 23 (arr k vs) ∧ Parts W4.heap.size wb k vs P ∧ Below W2.heap.size W2 wb ∧ W4.heap.size ≤ wb.heap.size)
      case atStart => exact ⟨0, _, _, _, by omega, rfl, rfl, HLIKE.out, HLa.out, HPa.out, HPA.out, HBW.out, hszw⟩
      case round =>
        clear HLIKE HLa HPa HPA HBW hszw hge hkM hlt
        obtain ⟨wb, hwb⟩ : ∃ wb : World, wb = wr := ⟨_, rfl⟩
        subst hwb
        obtain ⟨j, F, ln, P, hj, rfl, hrun, hlike, hL, hP, hparts, hbw, hszw⟩ := hrel
        have Hj := Lib.hid hj
        have hjK : j ≤ K := by omega
        have HRUN := Lib.hid hrun
        have HLIKE := Lib.hid hlike
        have HL := Lib.hid hL
        have HP := Lib.hid hP
        have HPA := Lib.hid hparts
        have HBW := Lib.hid hbw
        clear hj hrun hlike hL hP hparts hbw
        by_cases hlt : j < K
        · have hlt' : (j : Int) < (K : Int) := by omega
          have hj0 : (0 : Int) ≤ (j : Int) := Int.natCast_nonneg _
          obtain ⟨g2, f2, rfl, hg2, hq2⟩ := (HC.out.below HBW.out (Nat.le_refl _)).1.get (by omega)
          obtain ⟨x, hx⟩ := get_lt HKK.out hlt
          obtain ⟨m0, m1, m2, m3⟩ := hq2 j x hx
          have HX := Lib.hid hx
          have HXF := Lib.hid (HCF.out x (List.mem_of_getElem? hx))
          obtain ⟨xc, xp, xo, xn⟩ := x
          simp only at m0 m1 m2 m3
          have hXc : I64 xc := HXF.out.1
          have hXp : I64 xp := HXF.out.2.1
          have hXo : I64 xo := HXF.out.2.2.1
          have hXn : I64 xn := HXF.out.2.2.2
          unfold I64 at hXc hXp hXo hXn
          obtain ⟨W9, hW9⟩ : ∃ W9, W9 = wb.alloc (.cells #[.int .i64 xc, .int .i64 xp, .int .i64 xo, .int .i64 xn] 34) := ⟨_, rfl⟩
          have hb9 : Below wb.heap.size wb W9 := by rw [hW9]; exact below_alloc _ _
          have hx9 : Blk W9 wb.heap.size 34 #[.int .i64 xc, .int .i64 xp, .int .i64 xo, .int .i64 xn] := by rw [hW9]; exact Blk.new _ _ _
          have HL9 := Lib.hid (HL.out.next hb9)
          have HP9 := Lib.hid (HP.out.next hb9)
          have HPA9 := Lib.hid (HPA.out.next hb9)
          have HPAB := HPA
          have HBW9 := Lib.hid (below_next HBW.out (Nat.le_trans (Nat.le_refl _) (Nat.le_refl _)) hb9)
          have HK19 := Lib.hid ((HK1.out.below HBW9.out (by omega : w.heap.size + 1 < W2.heap.size)))
          have HB9 := Lib.hid (below_next HB0.out (Nat.le_refl _) HBW9.out)
          have HXB := Lib.hid hx9
          have hszb : wb.heap.size ≤ W9.heap.size := hb9.size
          have q0 := hx9.cell 0
          have q1 := hx9.cell 1
          have q2 := hx9.cell 2
          have q3 := hx9.cell 3
          have t0 := HK19.out.cell 0
          have t1 := HK19.out.cell 1
          have t2 := HK19.out.cell 2
          have v0 := HK19.out.free 0
          have v1 := HK19.out.free 1
          have v2 := HK19.out.free 2
          simp only [List.getElem?_toArray, List.getElem?_cons_succ, List.getElem?_cons_zero] at q0 q1 q2 q3 t0 t1 t2
          have HW9 := Lib.hid hW9
          clear hW9 hb9 hx9 hx hq2 HL HP HPA HBW hg2
          have step_r : xc < -2 ∨ (n : Int) ≤ xc ∨ xp < -1 ∨ 4096 ≤ xp ∨ xp = -1 ∧ (xn < 0 ∨ 4096 < xn) → (stepP n F ⟨xc, xp, xo, xn⟩).1 = 2 := fun h => step_range h
          have HSR := Lib.hid step_r
          clear step_r
          have HKV : Hid (-2 ≤ xc → xc < n → (if xc < 0 then IntKind.i64.wrap ((n : Int) - 1 - xc) else xc) = ((idx n xc : Nat) : Int) ∧ idx n xc < k) := by
            intro h1 h2
            have hi := (cellN_idx (comps_iff.2 ⟨h1, h2⟩)).2
            have hm := HM.out
            refine ⟨?_, by omega⟩
            unfold idx
            split
            · rw [IntWalk.i64_in _ (by omega)]; omega
            · omega
          have HLEN : Hid (-2 ≤ xc → xc < n → xp = -1 → 0 ≤ xn → xn ≤ 4096 → (xo ≠ ln (idx n xc) → (stepP n F ⟨xc, xp, xo, xn⟩).1 = 20) ∧ (xo = ln (idx n xc) → (stepP n F ⟨xc, xp, xo, xn⟩).1 = 0 ∧ Like n (fun j => if j = idx n xc then xn else ln j) P (stepP n F ⟨xc, xp, xo, xn⟩).2)) :=
            fun h1 h2 h3 h4 h5 => like_len (c := ⟨xc, xp, xo, xn⟩) HLIKE.out h1 h2 h3 h4 h5
          have HELS : Hid (-2 ≤ xc → xc < n → 0 ≤ xp → xp < 4096 → (xo ≠ (P (idx n xc)).getD xp.toNat 0 → (stepP n F ⟨xc, xp, xo, xn⟩).1 = 20) ∧ (xo = (P (idx n xc)).getD xp.toNat 0 → (stepP n F ⟨xc, xp, xo, xn⟩).1 = 0 ∧ Like n ln (fun j => if j = idx n xc then (P (idx n xc)).set xp.toNat xn else P j) (stepP n F ⟨xc, xp, xo, xn⟩).2)) :=
            fun h1 h2 h3 h4 => like_els (c := ⟨xc, xp, xo, xn⟩) HLIKE.out h1 h2 h3 h4 HXF.out
          have HNX : Hid ((stepP n F ⟨xc, xp, xo, xn⟩).1 = 0 → runL n (seq0 s) (C.take (j + 1)) = (0, (stepP n F ⟨xc, xp, xo, xn⟩).2)) := fun h => run_next HRUN.out HX.out h
          obtain ⟨kv, hkv⟩ : ∃ kv : Int, (if xc < 0 then IntKind.i64.wrap ((n : Int) - 1 - xc) else xc) = kv := ⟨_, rfl⟩
          rw [hkv] at HKV
          have f2 : IntKind.i64.wrap ((n : Int) - 1) = (n : Int) - 1 := IntWalk.i64_in _ (by omega)
          by_cases sg : xc < 0
          case' pos =>
            rw [if_pos sg] at hkv
            go_upto_region 20 with (fail)
          case' neg =>
            rw [if_neg sg] at hkv
            subst hkv
            go_upto_region 20 with (fail)
          all_goals
            rw [← HW9.out]
            clear HW9 m0 m1 m2 m3
            by_cases d1 : xc < -2
            · first
                | (exfalso; omega)
                | (have hst := HSR.out (.inl d1)
                   have HAP2 : Hid (AP = (2, st0)) := by unfold Hid; rw [← HAP.out]; exact apply_fail (by rw [← HN.out]; exact HRUN.out) HX.out (by rw [← HN.out]; exact hst) (by decide)
                   go_wp2
                   have hk3 := ((HK19.out.set 0 (.slice none 0 0)).set 1 (.slice none 0 0)).set 2 (.slice none 0 0)
                   have hb3 := below_put3 HB9.out (g := w.heap.size + 1) (by omega) (.slice none 0 0) (.slice none 0 0) (.slice none 0 0)
                   generalize World.setCell _ _ _ = wf at *
                   have hap2 := HAP2.out
                   subst hap2
                   exact bodyPost_ret (results_state rfl _ _ _ _ _ _ rfl hk3) rfl ⟨_, rfl, fun _ _ => st0_at _, hb3⟩)
            by_cases d2 : (n : Int) ≤ xc
            · first
                | (exfalso; omega)
                | (have hst := HSR.out (.inr (.inl d2))
                   have HAP2 : Hid (AP = (2, st0)) := by unfold Hid; rw [← HAP.out]; exact apply_fail (by rw [← HN.out]; exact HRUN.out) HX.out (by rw [← HN.out]; exact hst) (by decide)
                   go_wp2
                   have hk3 := ((HK19.out.set 0 (.slice none 0 0)).set 1 (.slice none 0 0)).set 2 (.slice none 0 0)
                   have hb3 := below_put3 HB9.out (g := w.heap.size + 1) (by omega) (.slice none 0 0) (.slice none 0 0) (.slice none 0 0)
                   generalize World.setCell _ _ _ = wf at *
                   have hap2 := HAP2.out
                   subst hap2
                   exact bodyPost_ret (results_state rfl _ _ _ _ _ _ rfl hk3) rfl ⟨_, rfl, fun _ _ => st0_at _, hb3⟩)
            obtain ⟨hk1, hk2⟩ := HKV.out (by omega) (by omega)
            have HLE := Lib.hid (HLEN.out (by omega) (by omega))
            have HEL := Lib.hid (HELS.out (by omega) (by omega))
            obtain ⟨kn, hkn⟩ : ∃ kn, idx n xc = kn := ⟨_, rfl⟩
            rw [hkn] at hk1 hk2 HLE HEL
            clear hkn HLEN HELS HKV
            have hk3 : (kn : Int) < (k : Int) := by omega
            have hkn0 : (0 : Int) ≤ (kn : Int) := Int.natCast_nonneg _
            have d1' : ¬ xc < -2 := d1
            by_cases d3 : xp < -1
            · first
                | (exfalso; omega)
                | (have hst := HSR.out (.inr (.inr (.inl d3)))
                   have HAP2 : Hid (AP = (2, st0)) := by unfold Hid; rw [← HAP.out]; exact apply_fail (by rw [← HN.out]; exact HRUN.out) HX.out (by rw [← HN.out]; exact hst) (by decide)
                   go_wp2
                   have hk3 := ((HK19.out.set 0 (.slice none 0 0)).set 1 (.slice none 0 0)).set 2 (.slice none 0 0)
                   have hb3 := below_put3 HB9.out (g := w.heap.size + 1) (by omega) (.slice none 0 0) (.slice none 0 0) (.slice none 0 0)
                   generalize World.setCell _ _ _ = wf at *
                   have hap2 := HAP2.out
                   subst hap2
                   exact bodyPost_ret (results_state rfl _ _ _ _ _ _ rfl hk3) rfl ⟨_, rfl, fun _ _ => st0_at _, hb3⟩)
            by_cases d4 : 4096 ≤ xp
            · first
                | (exfalso; omega)
                | (have hst := HSR.out (.inr (.inr (.inr (.inl d4))))
                   have HAP2 : Hid (AP = (2, st0)) := by unfold Hid; rw [← HAP.out]; exact apply_fail (by rw [← HN.out]; exact HRUN.out) HX.out (by rw [← HN.out]; exact hst) (by decide)
                   go_wp2
                   have hk3 := ((HK19.out.set 0 (.slice none 0 0)).set 1 (.slice none 0 0)).set 2 (.slice none 0 0)
                   have hb3 := below_put3 HB9.out (g := w.heap.size + 1) (by omega) (.slice none 0 0) (.slice none 0 0) (.slice none 0 0)
                   generalize World.setCell _ _ _ = wf at *
                   have hap2 := HAP2.out
                   subst hap2
                   exact bodyPost_ret (results_state rfl _ _ _ _ _ _ rfl hk3) rfl ⟨_, rfl, fun _ _ => st0_at _, hb3⟩)
            subst hk1
            by_cases d5 : xp = -1
            · subst d5
              by_cases d6 : xn < 0
              · have hst := HSR.out (.inr (.inr (.inr (.inr ⟨rfl, .inl d6⟩))))
                have HAP2 : Hid (AP = (2, st0)) := by unfold Hid; rw [← HAP.out]; exact apply_fail (by rw [← HN.out]; exact HRUN.out) HX.out (by rw [← HN.out]; exact hst) (by decide)
                go_wp2
                have hk3 := ((HK19.out.set 0 (.slice none 0 0)).set 1 (.slice none 0 0)).set 2 (.slice none 0 0)
                have hb3 := below_put3 HB9.out (g := w.heap.size + 1) (by omega) (.slice none 0 0) (.slice none 0 0) (.slice none 0 0)
                generalize World.setCell _ _ _ = wf at *
                have hap2 := HAP2.out
                subst hap2
                exact bodyPost_ret (results_state rfl _ _ _ _ _ _ rfl hk3) rfl ⟨_, rfl, fun _ _ => st0_at _, hb3⟩
              by_cases d7 : 4096 < xn
              · have hst := HSR.out (.inr (.inr (.inr (.inr ⟨rfl, .inr d7⟩))))
                have HAP2 : Hid (AP = (2, st0)) := by unfold Hid; rw [← HAP.out]; exact apply_fail (by rw [← HN.out]; exact HRUN.out) HX.out (by rw [← HN.out]; exact hst) (by decide)
                go_wp2
                have hk3 := ((HK19.out.set 0 (.slice none 0 0)).set 1 (.slice none 0 0)).set 2 (.slice none 0 0)
                have hb3 := below_put3 HB9.out (g := w.heap.size + 1) (by omega) (.slice none 0 0) (.slice none 0 0) (.slice none 0 0)
                generalize World.setCell _ _ _ = wf at *
                have hap2 := HAP2.out
                subst hap2
                exact bodyPost_ret (results_state rfl _ _ _ _ _ _ rfl hk3) rfl ⟨_, rfl, fun _ _ => st0_at _, hb3⟩
              obtain ⟨hA, hB⟩ := HLE.out rfl (by omega) (by omega)
              have z0 : W9.cell? ⟨Lb, kn, none⟩ = some (.int .i64 (ln kn)) := by rw [HL9.out.cell kn, arr_get _ hk2]
              have zq : ∀ w', Below W9.heap.size W9 w' → w'.cell? ⟨Lb, kn, none⟩ = some (.int .i64 (ln kn)) ∧ w'.frozen? ⟨Lb, kn, none⟩ = false := fun w' hb => ⟨by rw [(HL9.out.next hb).cell kn, arr_get _ hk2], (HL9.out.next hb).free kn⟩
              have HZQ := Lib.hid zq
              clear zq
              by_cases d8 : xo = ln kn
              · obtain ⟨hB0, hB1⟩ := hB d8
                have HNR := Lib.hid (HNX.out hB0)
                have HLK := Lib.hid hB1
                have HD8 := Lib.hid d8
                have d9 : (ln kn != xo) = false := by rw [d8]; simp
                clear hA hB hB0 hB1 d8
                go_wp2
                go_quiet (fail)
                obtain ⟨wq, hwq⟩ : ∃ wq, wq = W9.drewN nq := ⟨_, rfl⟩
                have hbq : Below W9.heap.size W9 wq := by rw [hwq]; exact drewN_below (Below.refl _ _) nq
                rw [← hwq]
                have HKq := Lib.hid (HK19.out.next hbq)
                have HBq := Lib.hid (below_next HB9.out (Nat.le_refl _) (hbq.mono (by have := HB9.out.size; omega)))
                have HBWq := Lib.hid (HBW9.out.trans (hbq.mono HBW9.out.size))
                have HLq := Lib.hid (HL9.out.next hbq)
                have HPq := Lib.hid (HP9.out.next hbq)
                have HPAq := Lib.hid (HPA9.out.next hbq)
                have HXBq := Lib.hid (HXB.out.next hbq)
                have hszq := hbq.size
                obtain ⟨y0, yf⟩ := HZQ.out _ hbq
                clear hwq hbq q0 q1 q2 q3 t0 t1 t2 v0 v1 v2
                have q0 := HXBq.out.cell 0
                have q1 := HXBq.out.cell 1
                have q2 := HXBq.out.cell 2
                have q3 := HXBq.out.cell 3
                have t0 := HKq.out.cell 0
                have t1 := HKq.out.cell 1
                have t2 := HKq.out.cell 2
                have v0 := HKq.out.free 0
                have v1 := HKq.out.free 1
                have v2 := HKq.out.free 2
                simp only [List.getElem?_toArray, List.getElem?_cons_succ, List.getElem?_cons_zero] at q0 q1 q2 q3 t0 t1 t2
                have hPL : Pb ≠ Lb := by omega
                obtain ⟨w10, hw10⟩ : ∃ w10, w10 = wq.setCell ⟨Lb, kn, none⟩ (.int .i64 xn) := ⟨_, rfl⟩
                have ht10 : Touch (fun j => j = Lb) wq w10 := by rw [hw10]; exact Touch.of_set _ _ _ _
                have HL10 : Hid (Blk w10 Lb 3 (arr k (fun j => .int .i64 (if j = kn then xn else ln j)))) := by
                  rw [hw10]
                  have h := HLq.out.set kn (.int .i64 xn)
                  rw [arr_set, arr_congr (g := fun j => Value.int .i64 (if j = kn then xn else ln j)) (fun j _ => by split <;> rfl)] at h
                  exact h
                have HP10 := Lib.hid (ht10.blk HPq.out hPL)
                have HPA10 := Lib.hid (HPAq.out.touch ht10 (fun j h1 _ h2 => by omega))
                have HBW10 : Hid (Below W2.heap.size W2 w10) := by rw [hw10]; exact HBWq.out.setCell (p := ⟨Lb, kn, none⟩) (by show W2.heap.size ≤ Lb; omega) _
                have hsz10 : wq.heap.size ≤ w10.heap.size := ht10.size
                have HW10 := Lib.hid hw10
                clear hw10 ht10 HLq HPq HPAq HBWq
                go_wp2
                rw [← HW10.out]
                have hj := Hj.out
                go_roundg (K - (j + 1))
                case measure => omega
                case rel => exact ⟨j + 1, _, _, _, by omega, by go_num, HNR.out, HLK.out, HL10.out, HP10.out, HPA10.out, HBW10.out, by omega⟩
              · have hst := hA d8
                have HST := Lib.hid hst
                have d9 : (ln kn != xo) = true := by simp only [bne_iff_ne, ne_eq]; exact fun e => d8 e.symm
                clear hA hB hst d8
                go_wp2
                go_quiet (fail)
                obtain ⟨wq, hwq⟩ : ∃ wq, wq = W9.drewN nq := ⟨_, rfl⟩
                have hbq : Below W9.heap.size W9 wq := by rw [hwq]; exact drewN_below (Below.refl _ _) nq
                rw [← hwq]
                have HKq := Lib.hid (HK19.out.next hbq)
                have HBq := Lib.hid (below_next HB9.out (Nat.le_refl _) (hbq.mono (by have := HB9.out.size; omega)))
                have HBWq := Lib.hid (HBW9.out.trans (hbq.mono HBW9.out.size))
                have HLq := Lib.hid (HL9.out.next hbq)
                have HPq := Lib.hid (HP9.out.next hbq)
                have HPAq := Lib.hid (HPA9.out.next hbq)
                have HXBq := Lib.hid (HXB.out.next hbq)
                have hszq := hbq.size
                clear hwq hbq q0 q1 q2 q3 t0 t1 t2 v0 v1 v2
                have q0 := HXBq.out.cell 0
                have q1 := HXBq.out.cell 1
                have q2 := HXBq.out.cell 2
                have q3 := HXBq.out.cell 3
                have t0 := HKq.out.cell 0
                have t1 := HKq.out.cell 1
                have t2 := HKq.out.cell 2
                have v0 := HKq.out.free 0
                have v1 := HKq.out.free 1
                have v2 := HKq.out.free 2
                simp only [List.getElem?_toArray, List.getElem?_cons_succ, List.getElem?_cons_zero] at q0 q1 q2 q3 t0 t1 t2
                have HAP2 : Hid (AP = (20, st0)) := by unfold Hid; rw [← HAP.out]; exact apply_fail (by rw [← HN.out]; exact HRUN.out) HX.out (by rw [← HN.out]; exact HST.out) (by decide)
                go_wp2
                have hk3 := ((HKq.out.set 0 (.slice none 0 0)).set 1 (.slice none 0 0)).set 2 (.slice none 0 0)
                have hb3 := below_put3 HBq.out (g := w.heap.size + 1) (by omega) (.slice none 0 0) (.slice none 0 0) (.slice none 0 0)
                generalize World.setCell _ _ _ = wf at *
                have hap2 := HAP2.out
                subst hap2
                exact bodyPost_ret (results_state rfl _ _ _ _ _ _ rfl hk3) rfl ⟨_, rfl, fun _ _ => st0_at _, hb3⟩
            · have d5' : (xp == -1) = false := by simp only [beq_eq_false_iff_ne, ne_eq]; exact d5
              obtain ⟨xi, rfl⟩ := Int.eq_ofNat_of_zero_le (by omega : 0 ≤ xp)
              obtain ⟨hA, hB⟩ := HEL.out (by omega) (by omega)
              rw [Int.toNat_natCast] at hA hB
              obtain ⟨gk, ck, ev, hle, hBg, hglt, hcells, hfree, -⟩ := HPA9.out.get hk2
              obtain ⟨np, hnp⟩ : ∃ np, (P kn).length = np := ⟨_, rfl⟩
              have hnp1 := HLIKE.out.plo kn (by have := HM.out; omega)
              rw [hnp] at ev hle hcells hnp1
              have HEV := Lib.hid ev
              have HNP := Lib.hid hnp
              have hxi : xi < np := by omega
              have hxi' : (xi : Int) < (np : Int) := by omega
              have hxi0 : (0 : Int) ≤ (xi : Int) := Int.natCast_nonneg _
              obtain ⟨pv, hpv⟩ : ∃ pv, (P kn).getD xi 0 = pv := ⟨_, rfl⟩
              have z1 := hcells xi hxi
              rw [hpv] at z1 hA hB
              have z0 : W9.cell? ⟨Pb, kn, none⟩ = some (.slice (some ⟨gk, 0, none⟩) np ck) := by rw [HP9.out.cell kn, arr_get _ hk2, ev]
              have zq : ∀ w', Below W9.heap.size W9 w' → w'.cell? ⟨Pb, kn, none⟩ = some (.slice (some ⟨gk, 0, none⟩) np ck) ∧ w'.frozen? ⟨gk, xi, none⟩ = false ∧ w'.cell? ⟨gk, xi, none⟩ = some (.int .i64 pv) := fun w' hb => by
                refine ⟨by rw [(HP9.out.next hb).cell kn, arr_get _ hk2, ev], ?_⟩
                obtain ⟨gk', ck', ev', _, _, _, hcells', hfree', _⟩ := (HPA9.out.next hb).get hk2
                rw [HEV.out] at ev'
                injection ev' with e1
                injection e1 with e1
                injection e1 with e1
                rw [e1]
                exact ⟨hfree' xi, by rw [hcells' xi (by rw [HNP.out]; exact hxi), hpv]⟩
              have HZQ := Lib.hid zq
              clear zq ev hnp hcells hfree hpv
              by_cases d8 : xo = pv
              · obtain ⟨hB0, hB1⟩ := hB d8
                have HNR := Lib.hid (HNX.out hB0)
                have HLK := Lib.hid hB1
                have d9 : (pv != xo) = false := by rw [d8]; simp
                clear hA hB hB0 hB1 d8
                go_wp2
                go_quiet (fail)
                obtain ⟨wq, hwq⟩ : ∃ wq, wq = W9.drewN nq := ⟨_, rfl⟩
                have hbq : Below W9.heap.size W9 wq := by rw [hwq]; exact drewN_below (Below.refl _ _) nq
                rw [← hwq]
                have HKq := Lib.hid (HK19.out.next hbq)
                have HBq := Lib.hid (below_next HB9.out (Nat.le_refl _) (hbq.mono (by have := HB9.out.size; omega)))
                have HBWq := Lib.hid (HBW9.out.trans (hbq.mono HBW9.out.size))
                have HLq := Lib.hid (HL9.out.next hbq)
                have HPq := Lib.hid (HP9.out.next hbq)
                have HPAq := Lib.hid (HPA9.out.next hbq)
                have HXBq := Lib.hid (HXB.out.next hbq)
                have hszq := hbq.size
                obtain ⟨y0, yf, y1⟩ := HZQ.out _ hbq
                obtain ⟨y0d, yfd, y1d⟩ := HZQ.out _ (below_drew hbq)
                clear hwq hbq q0 q1 q2 q3 t0 t1 t2 v0 v1 v2
                have q0 := HXBq.out.cell 0
                have q1 := HXBq.out.cell 1
                have q2 := HXBq.out.cell 2
                have q3 := HXBq.out.cell 3
                have t0 := HKq.out.cell 0
                have t1 := HKq.out.cell 1
                have t2 := HKq.out.cell 2
                have v0 := HKq.out.free 0
                have v1 := HKq.out.free 1
                have v2 := HKq.out.free 2
                simp only [List.getElem?_toArray, List.getElem?_cons_succ, List.getElem?_cons_zero] at q0 q1 q2 q3 t0 t1 t2
                go_wp2
                have hgb : gk < wb.heap.size := by
                  obtain ⟨gk', ck', ev', _, _, h, _⟩ := HPAB.out.get hk2
                  rw [HEV.out] at ev'
                  injection ev' with e1
                  injection e1 with e1
                  injection e1 with e1
                  rw [e1]
                  exact h
                have hs1 : (wq.setCell ⟨gk, xi, none⟩ (.int .i64 xn)).drew.cell? ⟨Pb, kn, none⟩ = some (.slice (some ⟨gk, 0, none⟩) np ck) := by
                  have h := ((Touch.of_set wq gk xi (.int .i64 xn)).drew.blk HPq.out (by omega)).cell kn
                  rw [h, arr_get _ hk2, HEV.out]
                have hs2 : (wq.setCell ⟨gk, xi, none⟩ (.int .i64 xn)).drew.cell? ⟨wb.heap.size, 1, none⟩ = some (.int .i64 xi) :=
                  ((Touch.of_set wq gk xi (.int .i64 xn)).drew.blk HXBq.out (by omega)).cell 1
                have hs3 : (wq.setCell ⟨gk, xi, none⟩ (.int .i64 xn)).drew.cell? ⟨wb.heap.size, 3, none⟩ = some (.int .i64 xn) :=
                  ((Touch.of_set wq gk xi (.int .i64 xn)).drew.blk HXBq.out (by omega)).cell 3
                have hs4 : (wq.setCell ⟨gk, xi, none⟩ (.int .i64 xn)).drew.frozen? ⟨gk, xi, none⟩ = false := by
                  show (wq.setCell ⟨gk, xi, none⟩ (.int .i64 xn)).frozen? ⟨gk, xi, none⟩ = false
                  rw [World.frozen?_setCell]
                  exact yf
                go_region_held3 (fun w' => w'.cell? ⟨Pb, kn, none⟩ = some (.slice (some ⟨gk, 0, none⟩) np ck) ∧ w'.cell? ⟨wb.heap.size, 1, none⟩ = some (.int .i64 xi) ∧ w'.cell? ⟨wb.heap.size, 3, none⟩ = some (.int .i64 xn) ∧ w'.frozen? ⟨gk, xi, none⟩ = false) (first | exact ⟨y0, q1, q3, yf⟩ | exact ⟨y0d, q1, q3, yfd⟩ | exact ⟨hs1, hs2, hs3, hs4⟩ | go_keep) (fail)
                have hPL : Pb ≠ Lb := by omega
                obtain ⟨w10, hw10⟩ : ∃ w10, w10 = (wq.setCell ⟨gk, xi, none⟩ (.int .i64 xn)).drew := ⟨_, rfl⟩
                have ht10 : Touch (fun j => j = gk) wq w10 := by rw [hw10]; exact (Touch.of_set _ _ _ _).drew
                have HL10 := Lib.hid (ht10.blk HLq.out (by omega))
                have HP10 := Lib.hid (ht10.blk HPq.out (by omega))
                have HPA10 : Hid (Parts W4.heap.size w10 k vs (fun j => if j = kn then (P kn).set xi xn else P j)) := by
                  rw [hw10]
                  exact (HPAq.out.set hk2 (by rw [HEV.out, HNP.out]) xi xn).touch (Touch.drew (Touch.refl (fun _ => False) _)) (fun _ _ _ h => h)
                have HBW10 : Hid (Below W2.heap.size W2 w10) := by rw [hw10]; exact below_drew (HBWq.out.setCell (p := ⟨gk, xi, none⟩) (by show W2.heap.size ≤ gk; omega) _)
                have hsz10 : wq.heap.size ≤ w10.heap.size := ht10.size
                have HW10 := Lib.hid hw10
                clear hw10 ht10 HLq HPq HPAq HBWq
                go_wp2
                rw [← HW10.out]
                have hj := Hj.out
                go_roundg (K - (j + 1))
                case measure => omega
                case rel => exact ⟨j + 1, _, _, _, by omega, by go_num, HNR.out, HLK.out, HL10.out, HP10.out, HPA10.out, HBW10.out, by omega⟩
              · have hst := hA d8
                have HST := Lib.hid hst
                have d9 : (pv != xo) = true := by simp only [bne_iff_ne, ne_eq]; exact fun e => d8 e.symm
                clear hA hB hst d8
                go_wp2
                go_quiet (fail)
                obtain ⟨wq, hwq⟩ : ∃ wq, wq = W9.drewN nq := ⟨_, rfl⟩
                have hbq : Below W9.heap.size W9 wq := by rw [hwq]; exact drewN_below (Below.refl _ _) nq
                rw [← hwq]
                have HKq := Lib.hid (HK19.out.next hbq)
                have HBq := Lib.hid (below_next HB9.out (Nat.le_refl _) (hbq.mono (by have := HB9.out.size; omega)))
                have HBWq := Lib.hid (HBW9.out.trans (hbq.mono HBW9.out.size))
                have HLq := Lib.hid (HL9.out.next hbq)
                have HPq := Lib.hid (HP9.out.next hbq)
                have HPAq := Lib.hid (HPA9.out.next hbq)
                have HXBq := Lib.hid (HXB.out.next hbq)
                have hszq := hbq.size
                clear hwq hbq q0 q1 q2 q3 t0 t1 t2 v0 v1 v2
                have q0 := HXBq.out.cell 0
                have q1 := HXBq.out.cell 1
                have q2 := HXBq.out.cell 2
                have q3 := HXBq.out.cell 3
                have t0 := HKq.out.cell 0
                have t1 := HKq.out.cell 1
                have t2 := HKq.out.cell 2
                have v0 := HKq.out.free 0
                have v1 := HKq.out.free 1
                have v2 := HKq.out.free 2
                simp only [List.getElem?_toArray, List.getElem?_cons_succ, List.getElem?_cons_zero] at q0 q1 q2 q3 t0 t1 t2
                have HAP2 : Hid (AP = (20, st0)) := by unfold Hid; rw [← HAP.out]; exact apply_fail (by rw [← HN.out]; exact HRUN.out) HX.out (by rw [← HN.out]; exact HST.out) (by decide)
                go_wp2
                have hk3 := ((HKq.out.set 0 (.slice none 0 0)).set 1 (.slice none 0 0)).set 2 (.slice none 0 0)
                have hb3 := below_put3 HBq.out (g := w.heap.size + 1) (by omega) (.slice none 0 0) (.slice none 0 0) (.slice none 0 0)
                generalize World.setCell _ _ _ = wf at *
                have hap2 := HAP2.out
                subst hap2
                exact bodyPost_ret (results_state rfl _ _ _ _ _ _ rfl hk3) rfl ⟨_, rfl, fun _ _ => st0_at _, hb3⟩
        · have hge2 : ¬ (j : Int) < (K : Int) := by omega
          have hjK2 : K = j := by omega
          subst hjK2
          have hr := HRUN.out
          rw [List.take_of_length_le (by rw [← HKK.out]; exact Nat.le_refl _)] at hr
          have HR := Lib.hid hr
          have HKB := Lib.hid ((HK1.out.below HBW.out (by omega : w.heap.size + 1 < W2.heap.size)))
          have HBB := Lib.hid (below_next HB0.out (Nat.le_refl _) HBW.out)
          obtain ⟨us, hus⟩ : ∃ us : Nat → Value, us = fun j => cutV (vs j) (ln j).toNat := ⟨_, rfl⟩
          have HUS := Lib.hid hus
          obtain ⟨jr, hjr, hy0, hy1, hy2⟩ := info_parts rowInfo
          have HKM := HM
          clear hr hus HRUN Hj hjK
          go_wp2
          go_loopg [16] k (fun q i wr => ∃ (t : Nat) (cv iv ov : Value), t + q = k ∧ i = .int .i64 t ∧
            wr.ownsRow wb.heap.size 23 1 cv (min t n) ((List.range (min t n)).map us) ∧
            (t ≤ n → iv = .slice none 0 0) ∧ (n < t → IntsNew wb.heap.size wr iv ((P n).take (ln n).toNat).reverse) ∧
            (t ≤ n + 1 → ov = .slice none 0 0) ∧ (n + 1 < t → ov = us (n + 1)) ∧
            Blk wr wb.heap.size 25 #[cv, iv, ov] ∧ (∀ j, j < t → okC F (cellN n j) = true) ∧ Below wb.heap.size wb wr)
          case atStart =>
            exact ⟨0, .slice none 0 0, .slice none 0 0, .slice none 0 0, by omega, rfl, by rw [Nat.zero_min]; exact World.ownsRow_nil _ _ _ _, fun _ => rfl, fun h => by omega, fun _ => rfl, fun h => by omega, Blk.new _ _ _, fun j h => by omega, below_alloc _ _⟩
          case round =>
            obtain ⟨wc, hwc⟩ : ∃ wc : World, wc = wr := ⟨_, rfl⟩
            subst hwc
            obtain ⟨t, cv, iv, ov, ht, rfl, hcv, hiv0, hiv1, hov0, hov1, hbk, hok, hbw⟩ := hrel
            have Ht := Lib.hid ht
            have htk : t ≤ k := by omega
            have HCV := Lib.hid hcv
            have HI0 := Lib.hid hiv0
            have HI1 := Lib.hid hiv1
            have HO0 := Lib.hid hov0
            have HO1 := Lib.hid hov1
            have HBK := Lib.hid hbk
            have HOK := Lib.hid hok
            have HBC := Lib.hid hbw
            have hszc : wb.heap.size < wc.heap.size := hbk.lt
            clear ht hcv hiv0 hiv1 hov0 hov1 hbk hok hbw
            have HKC := Lib.hid (HKB.out.next HBC.out)
            have HB9 := Lib.hid (below_next HBB.out (Nat.le_refl _) (HBC.out.mono (Nat.le_refl _)))
            by_cases hlt : t < k
            · have hlt' : (t : Int) < (k : Int) := by omega
              have ht0 : (0 : Int) ≤ (t : Int) := Int.natCast_nonneg _
              have htn2 : t < n + 2 := by have := HM.out; omega
              obtain ⟨mt, hmt⟩ := Int.eq_ofNat_of_zero_le (HLIKE.out.lo t htn2)
              have hmt1 := HLIKE.out.hi t htn2
              have HMT := Lib.hid hmt
              have y0 : wc.cell? ⟨Lb, t, none⟩ = some (.int .i64 mt) := by rw [(HL.out.next HBC.out).cell t, arr_get _ hlt, hmt]
              obtain ⟨g, c, ev, hle, hBg, hglt, hcells, hfree, hints⟩ := (HPA.out.next HBC.out).get hlt
              have hphi := HLIKE.out.phi t htn2
              obtain ⟨np, hnp⟩ : ∃ np, (P t).length = np := ⟨_, rfl⟩
              have hplo := HLIKE.out.plo t htn2
              rw [hnp] at hphi
              rw [hnp] at ev hle hcells hints hplo
              have y1 : wc.cell? ⟨Pb, t, none⟩ = some (.slice (some ⟨g, 0, none⟩) np c) := by rw [(HP.out.next HBC.out).cell t, arr_get _ hlt, ev]
              have hgb : g < wb.heap.size := by
                obtain ⟨g', c', ev', _, _, h, _⟩ := HPA.out.get hlt
                rw [ev] at ev'
                injection ev' with e1
                injection e1 with e1
                injection e1 with e1
                rw [e1]
                exact h
              have HEV := Lib.hid ev
              have HNP := Lib.hid hnp
              have HCE := Lib.hid hcells
              have HIN := Lib.hid hints
              have hmt2 : mt ≤ 4096 := by omega
              have hmt0 : (0 : Int) ≤ (mt : Int) := Int.natCast_nonneg _
              have hmnp : mt ≤ np := by omega
              have hnp5 : np ≤ 5000 := hphi
              clear hmt ev hnp hcells hints hmt1
              go_wp2
              go_loopg [17] np (fun q i wx => ∃ i' : Nat, i' + q = np + mt ∧ i' ≤ np ∧ mt ≤ i' ∧ i = .int .i64 i' ∧ (∀ x, mt ≤ x → x < i' → (P t).getD x 0 = 0) ∧ wx = wc)
              case atStart => exact ⟨mt, by omega, hmnp, Nat.le_refl _, rfl, fun x h1 h2 => by omega, rfl⟩
              case round =>
                obtain ⟨i', hi, hinp, hmi, rfl, hz, rfl⟩ := hrel
                have Hi := Lib.hid hi
                have HZ := Lib.hid hz
                clear hi hz
                by_cases hlt2 : i' < np
                · have hlt2' : (i' : Int) < (np : Int) := by omega
                  have hi0 : (0 : Int) ≤ (i' : Int) := Int.natCast_nonneg _
                  have z1 := HCE.out i' hlt2
                  obtain ⟨pv, hpv⟩ : ∃ pv, (P t).getD i' 0 = pv := ⟨_, rfl⟩
                  rw [hpv] at z1
                  by_cases hp0 : pv = 0
                  · subst hp0
                    have HPV := Lib.hid hpv
                    clear hpv
                    go_wp2
                    have hi := Hi.out
                    go_roundg (np + mt - (i' + 1))
                    case measure => omega
                    case rel =>
                      refine ⟨i' + 1, by omega, by omega, by omega, by go_num, fun x h1 h2 => ?_, rfl⟩
                      rcases (by omega : x < i' ∨ x = i') with h | rfl
                      · exact HZ.out x h1 h
                      · exact HPV.out
                  · have hp1 : (pv != 0) = true := by simpa using hp0
                    have HAP2 : Hid (AP = (20, st0)) := by
                      unfold Hid
                      rw [← HAP.out]
                      refine apply_bad (by rw [← HN.out]; exact HR.out) (k := t) (by rw [← HN.out]; exact htn2) ?_
                      rw [← HN.out]
                      unfold okC
                      rw [ok_no (HLIKE.out.eqv t htn2) HMT.out hmi (by rw [hpv]; exact hp0)]
                      rfl
                    have t0 := HKC.out.cell 0
                    have t1 := HKC.out.cell 1
                    have t2 := HKC.out.cell 2
                    have v0 := HKC.out.free 0
                    have v1 := HKC.out.free 1
                    have v2 := HKC.out.free 2
                    simp only [List.getElem?_toArray, List.getElem?_cons_succ, List.getElem?_cons_zero] at t0 t1 t2
                    clear hp0 hpv
                    go_wp2
                    have hk3 := ((HKC.out.set 0 (.slice none 0 0)).set 1 (.slice none 0 0)).set 2 (.slice none 0 0)
                    have hb3 := below_put3 HB9.out (g := w.heap.size + 1) (by omega) (.slice none 0 0) (.slice none 0 0) (.slice none 0 0)
                    generalize World.setCell _ _ _ = wf at *
                    have hap2 := HAP2.out
                    subst hap2
                    exact bodyPost_ret (results_state rfl _ _ _ _ _ _ rfl hk3) rfl ⟨_, rfl, fun _ _ => st0_at _, hb3⟩
                · have hge3 : ¬ (i' : Int) < (np : Int) := by omega
                  have hsq : sqOut (F (cellN n t)) = some ((P t).take mt) := ok_yes (HLIKE.out.eqv t htn2) HMT.out (by rw [HNP.out]; exact hmnp) (fun x h1 h2 => HZ.out x h1 (by rw [HNP.out] at h2; omega))
                  have HSQ := Lib.hid hsq
                  have hmc : (mt : Int) ≤ (c : Int) := by omega
                  have hmc' : mt ≤ c := by omega
                  clear hsq
                  go_wp2
                  go_quiet (fail)
                  obtain ⟨wd, hwd⟩ : ∃ wd, wd = wr.drewN nq := ⟨_, rfl⟩
                  have hbd : Below wr.heap.size wr wd := by rw [hwd]; exact drewN_below (Below.refl _ _) nq
                  rw [← hwd]
                  have hszd : wr.heap.size ≤ wd.heap.size := hbd.size
                  have HBD := Lib.hid (below_next HBC.out (Nat.le_refl _) hbd)
                  have HBKD := Lib.hid (HBK.out.next hbd)
                  have HCVD := Lib.hid (own_below HCV.out hbd)
                  have HI1D : Hid (n < t → IntsNew wb.heap.size wd iv ((P n).take (ln n).toNat).reverse) := fun h => own_below (HI1.out h) hbd
                  have HIND := Lib.hid (HIN.out.next hbd)
                  have HUT : Hid (us t = .slice (some ⟨g, 0, none⟩) mt c) := by
                    unfold Hid
                    rw [HUS.out]
                    simp only [HEV.out, HMT.out, Int.toNat_natCast]
                    rfl
                  have HOKD : Hid (∀ j, j < t + 1 → okC F (cellN n j) = true) := by
                    intro j hj
                    by_cases e : j = t
                    · subst e
                      unfold okC
                      rw [HSQ.out]
                      rfl
                    · exact HOK.out j (by omega)
                  clear hwd hbd y0 y1
                  have x0 := HBKD.out.cell 0
                  have x1 := HBKD.out.cell 1
                  have x2 := HBKD.out.cell 2
                  have z0 := HBKD.out.free 0
                  have z1 := HBKD.out.free 1
                  have z2 := HBKD.out.free 2
                  simp only [List.getElem?_toArray, List.getElem?_cons_succ, List.getElem?_cons_zero] at x0 x1 x2
                  by_cases htn : t < n
                  · have htn' : (t : Int) < (n : Int) := by omega
                    have hne1 : ((t : Int) == (n : Int)) = false := by simp; omega
                    have hne2 : ((t : Int) == (n : Int) + 1) = false := by simp; omega
                    have f5 : IntKind.i64.wrap ((n : Int) + 1) = (n : Int) + 1 := IntWalk.i64_in _ (by omega)
                    have hcvd := HCVD.out
                    rw [Nat.min_eq_left (by omega)] at hcvd
                    have hvl : ((List.range t).map us).length = t := by simp
                    go_wp2_with (at_builtin; refine wpList_append_own _ rfl (.tmp 192) (.tmp 194) 22 rfl wb.heap.size 23 jr (.slice none 0 0) 1 24 Try.underlying22 hjr hy0 hy1 hy2 rfl (by decide) cv t ((List.range t).map us) rfl (hcvd.alloc _) ⟨wd.heap.size, 0, none⟩ 1 1 [.slice (some ⟨g, 0, none⟩) mt c] rfl rfl ?c1 ?c2 ?c3 ?c4 ?c5 ?_)
                    case c1 => exact cell_one_new _ _ _
                    case c2 => intro u hu; simp only [List.mem_cons, List.not_mem_nil, or_false] at hu; rcases hu with rfl; rfl
                    case c3 => unfold maxLen; omega
                    case c4 => omega
                    case c5 => simp; omega
                    intro v5 w5 hown5 hgrow5 _
                    obtain ⟨a5, c5, rfl⟩ := own_form hown5
                    have hk5 := HBKD.out.next (below_alloc wd (.cells #[.slice (some ⟨g, 0, none⟩) mt c] 23))
                    have hk5b := hk5.grown hgrow5 (hk5.own_ne (hcvd.alloc _) (by decide))
                    have HK5 := Lib.hid hk5b
                    have x0' := hk5b.cell 0
                    have z0' := hk5b.free 0
                    simp only [List.getElem?_toArray, List.getElem?_cons_zero] at x0'
                    have hb5 : Below wb.heap.size wb w5 := (HBD.out.alloc (by omega) _).grown hgrow5 (by simp; omega) (fun j hj => ((hcvd.alloc (.cells #[.slice (some ⟨g, 0, none⟩) mt c] 23)).lt j hj).1)
                    obtain ⟨w6, hw6⟩ : ∃ w6, w6 = w5.setCell ⟨wb.heap.size, 0, none⟩ (.slice a5 (t + 1) c5) := ⟨_, rfl⟩
                    have HCV6 : Hid (w6.ownsRow wb.heap.size 23 1 (.slice a5 (t + 1) c5) (min (t + 1) n) ((List.range (min (t + 1) n)).map us)) := by
                      rw [hw6, Nat.min_eq_left (by omega), List.range_succ, List.map_append]
                      have h := own_set hown5 hk5b (by decide) 0 (.slice a5 (t + 1) c5)
                      rw [← HUT.out] at h
                      exact h
                    have HBK6 : Hid (Blk w6 wb.heap.size 25 #[.slice a5 (t + 1) c5, iv, ov]) := by rw [hw6]; exact hk5b.set 0 _
                    have HB6 : Hid (Below wb.heap.size wb w6) := by rw [hw6]; exact hb5.setCell (p := ⟨wb.heap.size, 0, none⟩) (Nat.le_refl _) _
                    have HW6 := Lib.hid hw6
                    clear hown5 hgrow5 hk5 hk5b hb5 hw6 hcvd hvl HK5 HBKD HBD HCVD HI1D HIND HUT x0 x1 x2 z0 z1 z2
                    go_wp2
                    rw [← HW6.out]
                    have ht := Ht.out
                    go_roundg (k - (t + 1))
                    case measure => omega
                    case rel => exact ⟨t + 1, _, iv, ov, by omega, by go_num, HCV6.out, fun _ => HI0.out (by omega), fun h => by omega, fun _ => HO0.out (by omega), fun h => by omega, HBK6.out, HOKD.out, HB6.out⟩
                  · have hnt : (n : Int) ≤ (t : Int) := by omega
                    have hov : ov = .slice none 0 0 := HO0.out (by have := HM.out; omega)
                    subst hov
                    have f5 : IntKind.i64.wrap ((n : Int) + 1) = (n : Int) + 1 := IntWalk.i64_in _ (by omega)
                    have hcvd := HCVD.out
                    rw [Nat.min_eq_right (by omega)] at hcvd
                    have HCN := Lib.hid hcvd
                    clear hcvd
                    by_cases htn1 : t = n
                    · subst htn1
                      have hiv : iv = .slice none 0 0 := HI0.out (Nat.le_refl _)
                      subst hiv
                      have hne1 : ((t : Int) == (t : Int)) = true := by simp
                      have hne2 : ((t : Int) == (t : Int) + 1) = false := by simp; omega
                      have f6 : IntKind.i64.wrap ((mt : Int) - 1) = (mt : Int) - 1 := IntWalk.i64_in _ (by omega)
                      obtain ⟨i0', hi, hz0, hz1, hz2⟩ := info_parts intInfo
                      clear hlt2 hge3
                      go_wp2
                      go_loopg [19] mt (fun q i wx => ∃ (r : Nat) (iv' : Value), r + q = mt ∧ i = .int .i64 ((mt : Int) - 1 - r) ∧ wx.ownsRow wd.heap.size 3 1 iv' r (intsV (((P t).take mt).reverse.take r)) ∧
                        Blk wx wb.heap.size 25 #[cv, iv', .slice none 0 0] ∧ Touch (fun j => j = wb.heap.size) wd wx)
                      case atStart => exact ⟨0, .slice none 0 0, by omega, by go_num, World.ownsRow_nil _ _ _ _, HBKD.out, Touch.refl _ _⟩
                      case round =>
                        obtain ⟨wx, hwx⟩ : ∃ wx : World, wx = wr := ⟨_, rfl⟩
                        subst hwx
                        obtain ⟨r, iv', hr, rfl, hiv', hbx, htx⟩ := hrel
                        have Hr := Lib.hid hr
                        have hrm : r ≤ mt := by omega
                        have HIV := Lib.hid hiv'
                        have HBX := Lib.hid hbx
                        have HTX := Lib.hid htx
                        have hszx : wd.heap.size ≤ wx.heap.size := htx.size
                        clear hr hiv' hbx htx
                        by_cases hlt3 : r < mt
                        · obtain ⟨e, he⟩ : ∃ e, mt - 1 - r = e := ⟨_, rfl⟩
                          have e2 : (mt : Int) - 1 - (r : Int) = (e : Int) := by omega
                          rw [e2]
                          have he0 : (0 : Int) ≤ (e : Int) := Int.natCast_nonneg _
                          have hem : (e : Int) < (mt : Int) := by omega
                          have f7 : IntKind.i64.wrap ((e : Int) - 1) = (e : Int) - 1 := IntWalk.i64_in _ (by omega)
                          have HINX : Hid (IntsNew W4.heap.size wx (.slice (some ⟨g, 0, none⟩) np c) (P t)) := HTX.out.own HIND.out (fun j hj => by
                            have : g = j := by simpa [Value.ownBlock] using hj
                            omega)
                          have m0 := ints_get HINX.out HNP.out (e := e) (by rw [HNP.out]; omega)
                          have hst := rev_step (P := P t) hlt3 (by rw [HNP.out]; exact hmnp)
                          rw [he] at hst
                          obtain ⟨pv, hpv⟩ : ∃ pv, (P t).getD e 0 = pv := ⟨_, rfl⟩
                          rw [hpv] at m0 hst
                          have HST := Lib.hid hst
                          have HE := Lib.hid he
                          have c0 : wx.cell? ⟨wb.heap.size, 1, none⟩ = some iv' := HBX.out.cell 1
                          have z0 := HBX.out.free 1
                          have y2 := alloc_cell c0 (.cells #[.int .i64 pv] 3)
                          clear hst hpv he e2
                          go_wp2_with fail
                          go_region_law (first
                            | (refine step_append_own (wx.alloc (.cells #[.int .i64 pv] 3)).drew rfl (.tmp 208) (.tmp 213) 23 rfl wd.heap.size 3 i0' (.int .i64 0) 1 8 Try.underlying23 hi hz0 hz1 hz2 rfl (by decide) iv' r (intsV (((P t).take mt).reverse.take r)) ?hs ?hown ⟨wx.heap.size, 0, none⟩ 1 1 [.int .i64 pv] ?hx rfl ?hn ?c2 ?c3 ?c4 ?c5 ?_
                               case hs => simp [Act.eval]
                               case hx => simp [Act.eval]
                               case hown => exact HIV.out.alloc _
                               case hn => exact cell_one_new wx _ _
                               case c2 => intro u hu; simp only [List.mem_cons, List.not_mem_nil, or_false] at hu; rcases hu with rfl; rfl
                               case c3 => unfold maxLen; omega
                               case c4 => omega
                               case c5 => simp; omega
                               intro v5 w5 hown5 hgrow5
                               obtain ⟨a5, cc5, rfl⟩ := own_form hown5
                               have hk5 := (HBX.out.next (below_alloc wx (.cells #[.int .i64 pv] 3))).dr
                               have ho5 : (wx.alloc (.cells #[.int .i64 pv] 3)).drew.ownsRow wd.heap.size 3 1 iv' r (intsV (((P t).take mt).reverse.take r)) := HIV.out.alloc (.cells #[.int .i64 pv] 3)
                               have HK5 := Lib.hid (hk5.grown hgrow5 (hk5.own_ne ho5 (by decide)))
                               have x0 := HK5.out.cell 1
                               have z0 := HK5.out.free 1
                               have Hown5 := Lib.hid hown5
                               have Hgrow5 := Lib.hid hgrow5
                               clear hown5 hgrow5 hk5 ho5))
                          all_goals
                            go_wp2
                            obtain ⟨w6, hw6⟩ : ∃ w6, w6 = w5.setCell ⟨wb.heap.size, 1, none⟩ (.slice a5 (r + 1) cc5) := ⟨_, rfl⟩
                            have hal : Below wx.heap.size wx (wx.alloc (.cells #[.int .i64 pv] 3)).drew := below_drew (below_alloc _ _)
                            have hg5 : Touch (fun j => some j = Value.ownBlock iv') (wx.alloc (.cells #[.int .i64 pv] 3)).drew w5 := Touch.of_grown Hgrow5.out
                            have hivlt := HIV.out.lt
                            have ht6 : Touch (fun j => j = wb.heap.size) wd w6 := by
                              rw [hw6]
                              have h1 : Touch (fun j => j = wb.heap.size) wd (wx.alloc (.cells #[.int .i64 pv] 3)).drew := HTX.out.trans (T := fun _ => False) (Touch.of_below hal) (fun _ _ h => h.elim)
                              have h2 := h1.trans hg5 (fun j hj hh => by have := (hivlt j hh.symm).1; omega)
                              exact h2.trans (Touch.of_set w5 wb.heap.size 1 _) (fun j _ hj => hj)
                            have hb6 : Blk w6 wb.heap.size 25 #[cv, .slice a5 (r + 1) cc5, .slice none 0 0] := by rw [hw6]; exact HK5.out.set 1 _
                            have ho6 : w6.ownsRow wd.heap.size 3 1 (.slice a5 (r + 1) cc5) (r + 1) (intsV (((P t).take mt).reverse.take (r + 1))) := by
                              rw [hw6, HST.out]
                              have h := own_set Hown5.out HK5.out (by decide) 1 (.slice a5 (r + 1) cc5)
                              have e : intsV (((P t).take mt).reverse.take r ++ [pv]) = intsV (((P t).take mt).reverse.take r) ++ [.int .i64 pv] := by simp [intsV]
                              rw [e]
                              exact h
                            have HT6 := Lib.hid ht6
                            have HB6 := Lib.hid hb6
                            have HO6 := Lib.hid ho6
                            have HW6 := Lib.hid hw6
                            rw [← HW6.out]
                            clear hw6 hal hg5 hivlt ht6 hb6 ho6
                            have hr := Hr.out
                            have he := HE.out
                            go_roundg (mt - (r + 1))
                            case measure => omega
                            case rel =>
                              refine ⟨r + 1, _, by omega, ?_, HO6.out, HB6.out, HT6.out⟩
                              congr 1
                              omega
                        · have hrm2 : mt = r := by omega
                          subst hrm2
                          have e2 : (mt : Int) - 1 - (mt : Int) = -1 := by omega
                          rw [e2]
                          have HIFIN : Hid (IntsNew wb.heap.size wx iv' ((P t).take mt).reverse) := by
                            have h := HIV.out
                            rw [List.take_of_length_le (by rw [List.length_reverse, List.length_take]; omega)] at h
                            unfold Hid IntsNew
                            have e : ((P t).take mt).reverse.length = mt := by rw [List.length_reverse, List.length_take, HNP.out]; omega
                            rw [e]
                            exact own_mono h (by omega)
                          have HCX : Hid (wx.ownsRow wb.heap.size 23 1 cv t ((List.range t).map us)) := HTX.out.own HCN.out (fun j hj hjj => by
                            subst hjj
                            exact HBKD.out.own_ne HCN.out (by decide) hj.symm)
                          have HBF : Hid (Below wb.heap.size wb wx) := HBD.out.trans (HTX.out.low (B := wb.heap.size) (fun j hj => by omega) (by omega))
                          clear e2
                          go_wp2
                          have ht := Ht.out
                          go_roundg (k - (t + 1))
                          case measure => omega
                          case rel =>
                            refine ⟨t + 1, cv, iv', .slice none 0 0, by omega, by go_num, ?_, fun h => by omega, fun _ => ?_, fun _ => rfl, fun h => by omega, HBX.out, HOKD.out, HBF.out⟩
                            · rw [Nat.min_eq_right (by omega)]; exact HCX.out
                            · have := HMT.out
                              rw [this, Int.toNat_natCast]
                              exact HIFIN.out
                    · have htn2' : t = n + 1 := by have := HM.out; omega
                      have hne1 : ((t : Int) == (n : Int)) = false := by simp; omega
                      have hne2 : ((t : Int) == (n : Int) + 1) = true := by simp; omega
                      obtain ⟨w6, hw6⟩ : ∃ w6, w6 = wd.setCell ⟨wb.heap.size, 2, none⟩ (.slice (some ⟨g, 0, none⟩) mt c) := ⟨_, rfl⟩
                      have HB6 : Hid (Blk w6 wb.heap.size 25 #[cv, iv, .slice (some ⟨g, 0, none⟩) mt c]) := by rw [hw6]; exact HBKD.out.set 2 _
                      have HC6 : Hid (w6.ownsRow wb.heap.size 23 1 cv n ((List.range n).map us)) := by rw [hw6]; exact own_set HCN.out HBKD.out (by decide) 2 _
                      have HI6 : Hid (IntsNew wb.heap.size w6 iv ((P n).take (ln n).toNat).reverse) := by rw [hw6]; exact own_set (HI1D.out (by omega)) HBKD.out (by decide) 2 _
                      have HF6 : Hid (Below wb.heap.size wb w6) := by rw [hw6]; exact HBD.out.setCell (p := ⟨wb.heap.size, 2, none⟩) (Nat.le_refl _) _
                      have HW6 := Lib.hid hw6
                      have HTN := Lib.hid htn2'
                      clear hw6 htn2'
                      go_wp2
                      rw [← HW6.out]
                      have ht := Ht.out
                      have htn := HTN.out
                      go_roundg (k - (t + 1))
                      case measure => omega
                      case rel =>
                        refine ⟨t + 1, cv, iv, _, by omega, by go_num, ?_, fun h => by omega, fun _ => HI6.out, fun h => by omega, fun _ => ?_, HB6.out, HOKD.out, HF6.out⟩
                        · rw [Nat.min_eq_right (by omega)]; exact HC6.out
                        · rw [← htn, HUT.out]
            · have htk2 : t = k := by omega
              subst htk2
              have hge4 : ¬ (t : Int) < (t : Int) := by omega
              have hAP : AP = (0, ⟨(compsL n).map (outC F), (outC F (-1)).reverse, outC F (-2)⟩) := by
                have hk2 := HM.out
                rw [← HAP.out]
                have := apply_good (s := s) (F := F) (C := C) (by rw [← HN.out]; exact HR.out) (fun k hk => by rw [← HN.out] at hk ⊢; exact HOK.out k (by omega))
                rw [← HN.out] at this
                exact this
              have HAP2 := Lib.hid hAP
              have hk2 := HM.out
              have hcv := HCV.out
              rw [Nat.min_eq_right (by omega)] at hcv
              have hiv := HI1.out (by omega)
              have hov := HO1.out (by omega)
              obtain ⟨g, c, ev, -, -, -, -, -, -⟩ := HPA.out.get (show n + 1 < t by omega)
              have hus : us (n + 1) = .slice (some ⟨g, 0, none⟩) (ln (n + 1)).toNat c := by
                rw [HUS.out]
                simp only [ev]
                rfl
              rw [hus] at hov
              subst hov
              obtain ⟨acv, ccv, rfl⟩ := own_form hcv
              obtain ⟨aiv, civ, rfl⟩ := own_form hiv
              have HCVN := Lib.hid hcv
              have HIVN := Lib.hid hiv
              have HUSN := Lib.hid hus
              have x0 := HBK.out.cell 0
              have x1 := HBK.out.cell 1
              have x2 := HBK.out.cell 2
              have t0 := HKC.out.cell 0
              have t1 := HKC.out.cell 1
              have t2 := HKC.out.cell 2
              have v0 := HKC.out.free 0
              have v1 := HKC.out.free 1
              have v2 := HKC.out.free 2
              simp only [List.getElem?_toArray, List.getElem?_cons_succ, List.getElem?_cons_zero] at t0 t1 t2 x0 x1 x2
              obtain ⟨L1, hL1⟩ : ∃ L1, ((P n).take (ln n).toNat).reverse.length = L1 := ⟨_, rfl⟩
              obtain ⟨L2, hL2⟩ : ∃ L2, (ln (n + 1)).toNat = L2 := ⟨_, rfl⟩
              rw [hL1] at x1 HIVN
              rw [hL2] at x2 HUSN
              clear hAP hcv hiv hus hL1 hL2 ev hge4 hk2
              go_wp2
              have hk3 := ((HKC.out.set 0 (.slice acv n ccv)).set 1 (.slice aiv L1 civ)).set 2 (.slice (some ⟨g, 0, none⟩) L2 c)
              have hb3 := below_put3 HB9.out (g := w.heap.size + 1) (by omega) (.slice acv n ccv) (.slice aiv L1 civ) (.slice (some ⟨g, 0, none⟩) L2 c)
              have hb1o : w.heap.size + 1 < wb.heap.size := by omega
              have hb1w : w.heap.size + 1 < W4.heap.size := by omega
              have r1 := own_far (own_far (own_far HCVN.out hb1o 0 (.slice acv n ccv)) hb1o 1 (.slice aiv L1 civ)) hb1o 2 (.slice (some ⟨g, 0, none⟩) L2 c)
              have r2 := IntsNew.far (IntsNew.far (IntsNew.far HIVN.out hb1o 0 (.slice acv n ccv)) hb1o 1 (.slice aiv L1 civ)) hb1o 2 (.slice (some ⟨g, 0, none⟩) L2 c)
              have r3 := ((((HPA.out.next HBC.out).touch (Touch.of_set _ (w.heap.size + 1) 0 (.slice acv n ccv)) (fun j h1 _ h2 => by omega)).touch (Touch.of_set _ (w.heap.size + 1) 1 (.slice aiv L1 civ)) (fun j h1 _ h2 => by omega)).touch (Touch.of_set _ (w.heap.size + 1) 2 (.slice (some ⟨g, 0, none⟩) L2 c)) (fun j h1 _ h2 => by omega))
              have hap2 := HAP2.out
              subst hap2
              generalize World.setCell _ _ _ = wf at *
              have hfin : ∀ w'', Above w.heap.size wf w'' → StAt w'' _ _ := fun w'' hab => fin_at HM.out (hab.own (own_mono r1 (by omega))) (hab.own (own_mono r2 (by omega))) HUSN.out.symm HUS.out (r3.above (by omega) hab) HLIKE.out HOK.out
              exact bodyPost_ret (results_state rfl _ _ _ _ _ _ rfl hk3) rfl ⟨_, rfl, hfin, hb3⟩
end Go.Proofs.Ytpbbiidfahaamaa
