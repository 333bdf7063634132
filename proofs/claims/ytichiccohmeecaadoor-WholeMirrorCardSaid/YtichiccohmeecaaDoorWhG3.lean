/- The walk of image.regions. -/
import Derived.Test.YtichiccohmeecaaDoorWhG1
import Derived.Laws.MakeOwn
import Derived.WalkSmall
namespace Go.Proofs.YtichiccohmeecaaDoor
open Go.RowKit

theorem intInfo : (Tryd.prog.info? 3).map (fun i => (i.zero, i.size, i.bytes)) = some (some (.int .i64 0), 1, 8) := by kernel_rfl
theorem boolInfo : (Tryd.prog.info? 4).map (fun i => (i.zero, i.size, i.bytes)) = some (some (.bool false), 1, 1) := by kernel_rfl
theorem linkInfo : (Tryd.prog.info? 85).map (fun i => (i.zero, i.size, i.bytes)) = some (some (.agg #[.int .i64 0, .int .i64 0]), 2, 16) := by kernel_rfl

theorem arr_rep (M : Nat) (v : Value) : Array.replicate M v = arr M (fun _ => v) := by
  apply Array.ext
  · simp [arr]
  · intro i h1 h2
    simp [arr]
theorem make_ints (m : Nat) (hm : m ≤ 1000000) (W : World) :
    (Instr.makeSlice 26 (.int .i64 (m : Int)) (.int .i64 (m : Int))).run Tryd.prog W = .ok (.slice (some ⟨W.heap.size, 0, none⟩) m m) (W.alloc (.cells (arr m (fun _ => Value.int .i64 0)) 3)) := by
  obtain ⟨i0, hi, hz0, hz1, hz2⟩ := info_parts intInfo
  have h := run_make (P := Tryd.prog) W 26 3 i0 (.int .i64 0) Tryd.underlying26 hi hz0 .i64 .i64 m m (by omega) (Int.le_refl _) (by rw [hz2]; omega) (by omega)
  simp only [Int.toNat_natCast] at h
  rw [h, hz1, Nat.mul_one]
  have e : madeCells (Value.cells (.int .i64 0)) m = arr m (fun _ => Value.int .i64 0) := by
    rw [← arr_rep]
    apply Array.toList_inj.1
    rw [Array.toList_replicate]
    exact toList_madeCells_one _ _
  rw [e]
theorem make_bools (m : Nat) (hm : m ≤ 1000000) (W : World) :
    (Instr.makeSlice 33 (.int .i64 (m : Int)) (.int .i64 (m : Int))).run Tryd.prog W = .ok (.slice (some ⟨W.heap.size, 0, none⟩) m m) (W.alloc (.cells (arr m (fun _ => Value.bool false)) 4)) := by
  obtain ⟨i0, hi, hz0, hz1, hz2⟩ := info_parts boolInfo
  have h := run_make (P := Tryd.prog) W 33 4 i0 (.bool false) Tryd.underlying33 hi hz0 .i64 .i64 m m (by omega) (Int.le_refl _) (by rw [hz2]; omega) (by omega)
  simp only [Int.toNat_natCast] at h
  rw [h, hz1, Nat.mul_one]
  have e : madeCells (Value.cells (.bool false)) m = arr m (fun _ => Value.bool false) := by
    rw [← arr_rep]
    apply Array.toList_inj.1
    rw [Array.toList_replicate]
    exact toList_madeCells_one _ _
  rw [e]

theorem own_set {w : World} {base : Nat} {e : TypeId} {size n : Nat} {v : Value} {xs : List Value} (h : w.ownsRow base e size v n xs) {g : Nat} {t : TypeId} {cs : Array Value} (hb : Blk w g t cs) (hne : e ≠ t) (i : Nat) (u : Value) : (w.setCell ⟨g, i, none⟩ u).ownsRow base e size v n xs :=
  h.kept (gr_set (gr_refl w g) i u) (.inr (Ne.symm (hb.own_ne h hne)))

def linkV : List (Int × Int) → List Value
  | [] => []
  | x :: l => linkV l ++ [.int .i64 x.1, .int .i64 x.2]
theorem linkV_len : ∀ l : List (Int × Int), (linkV l).length = l.length * 2
  | [] => rfl
  | x :: l => by rw [linkV, List.length_append, linkV_len l]; simp only [List.length_cons, List.length_nil]; omega
def OwnL (B : Nat) (w : World) (v : Value) (o : List (Int × Int)) : Prop := w.ownsRow B 85 2 v o.length (linkV o)
theorem ownL_top {B : Nat} {w : World} {v : Value} {x : Int × Int} {l : List (Int × Int)} (h : OwnL B w v (x :: l)) :
    ∃ g c, v = .slice (some ⟨g, 0, none⟩) (l.length + 1) c ∧ l.length + 1 ≤ c ∧ w.cell? ⟨g, l.length * 2, none⟩ = some (.int .i64 x.1) ∧ w.cell? ⟨g, l.length * 2 + 1, none⟩ = some (.int .i64 x.2) ∧ OwnL B w (.slice (some ⟨g, 0, none⟩) l.length c) l ∧ g < w.heap.size := by
  unfold OwnL at h
  rcases h.2 with ⟨_, h0⟩ | ⟨g, cap, cur, rfl, hb, hg, hn, hm, hc, ht⟩
  · simp at h0
  · have hll := linkV_len l
    have hx : linkV (x :: l) = linkV l ++ [.int .i64 x.1, .int .i64 x.2] := rfl
    refine ⟨g, cap, rfl, hn, ?_, ?_, ?_, (Array.getElem?_eq_some_iff.1 hg).1⟩
    · have := h.cellAt (l.length * 2) (by simp only [List.length_cons]; omega)
      rw [this, hx, List.getElem?_append_right (by omega), hll]
      simp
    · have := h.cellAt (l.length * 2 + 1) (by simp only [List.length_cons]; omega)
      rw [this, hx, List.getElem?_append_right (by omega), hll]
      simp
    · exact ownsRow_pop hll (by rw [← hx]; exact h)

theorem cell_lo {w w' : World} {B : Nat} (hb : Below B w w') {g j : Nat} {u : Value} (hg : g < B) (h : w.cell? ⟨g, j, none⟩ = some u) : w'.cell? ⟨g, j, none⟩ = some u :=
  (hb.cell (p := ⟨g, j, none⟩) hg).trans h
theorem pop_len (k : Int) : ∀ o : List (Int × Int), (popS k o).length ≤ o.length
  | [] => Nat.le_refl _
  | x :: l => by
    unfold popS
    split
    · have := pop_len k l; rw [List.length_cons]; omega
    · exact Nat.le_refl _
theorem open_len (C : List Ins) : ∀ k : Nat, (openAt C k).length ≤ k
  | 0 => Nat.le_refl _
  | k + 1 => by
    have h1 := open_len C k
    have h2 := pop_len k (openAt C k)
    show (pushS C k (popS k (openAt C k))).length ≤ k + 1
    unfold pushS
    split
    · split
      · rw [List.length_cons]; omega
      · omega
    · omega
def RegR (C : List Ins) (w : World) (e : Ending) (w' : World) : Prop :=
  ∃ h1 h2, e = .returned (.tuple #[.slice (some ⟨h1, 0, none⟩) C.length C.length, .slice (some ⟨h2, 0, none⟩) C.length C.length]) ∧ Blk w' h1 3 (arr C.length (fun j => .int .i64 (regL C j))) ∧ Blk w' h2 4 (arr C.length (fun j => .bool (insL C j))) ∧ Below w.heap.size w w'

theorem arr_step {M k : Nat} {f : Nat → Value} {z : Value} {F : Nat → Value} (h : ∀ j, f j = if j < k then F j else z) : (arr M f).setIfInBounds k (F k) = arr M (fun j => if j < k + 1 then F j else z) := by
  rw [arr_set]
  refine arr_congr (fun j _ => ?_)
  by_cases h1 : j = k
  · subst h1; rw [if_pos rfl, if_pos (by omega)]
  · rw [if_neg h1, h]
    by_cases h2 : j < k
    · rw [if_pos h2, if_pos (by omega)]
    · rw [if_neg h2, if_neg (by omega)]

theorem arr_step2 {M k : Nat} {f : Nat → Value} {z u : Value} {F : Nat → Value} (h : ∀ j, f j = if j < k then F j else z) : (arr M (fun j => if j = k then u else f j)).setIfInBounds k (F k) = arr M (fun j => if j < k + 1 then F j else z) := by
  rw [arr_set]
  refine arr_congr (fun j _ => ?_)
  by_cases h1 : j = k
  · subst h1; rw [if_pos rfl, if_pos (by omega)]
  · rw [if_neg h1, if_neg h1, h]
    by_cases h2 : j < k
    · rw [if_pos h2, if_pos (by omega)]
    · rw [if_neg h2, if_neg (by omega)]

set_option maxRecDepth 100000 in
set_option maxHeartbeats 16000000 in
theorem regions_any {P : Nat → Prop} (C : List Ins) (vc : Value) (w : World) (hC : CodeIn P w vc C) (hT : TabAt w) (hl : C.length ≤ 1000) :
    Calls Tryd.prog 38 #[vc] w (RegR C w) := by
  have HCI := Lib.hid hC
  obtain ⟨a, cp, rfl, hn, hm, hq⟩ := hC
  obtain ⟨n, hnl⟩ : ∃ n, n = C.length := ⟨_, rfl⟩
  unfold RegR
  rw [← hnl] at hn hq hl HCI ⊢
  have HNL := Lib.hid hnl
  have HT := Lib.hid hT
  have HQ := Lib.hid hq
  have hmk1 : ∀ W, _ := make_ints n (by omega)
  have hmk2 : ∀ W, _ := make_bools n (by omega)
  obtain ⟨W3, hW3⟩ : ∃ W3, W3 = ((w.alloc (.cells #[.slice a n cp, .int .i64 0, .int .i64 0] 24)).alloc (.cells (arr n (fun _ => Value.int .i64 0)) 3)).alloc (.cells (arr n (fun _ => Value.bool false)) 4) := ⟨_, rfl⟩
  have hB0 : Below w.heap.size w W3 := by rw [hW3]; exact (((Below.refl _ _).alloc (Nat.le_refl _) _).alloc (by simp) _).alloc (by simp; omega) _
  have hb0 : Blk W3 w.heap.size 24 #[.slice a n cp, .int .i64 0, .int .i64 0] := by rw [hW3]; exact ((Blk.new _ _ _).al _).al _
  have hb1 : Blk W3 (w.heap.size + 1) 3 (arr n (fun _ => Value.int .i64 0)) := by rw [hW3]; exact (Blk.new' (by simp)).al _
  have hb2 : Blk W3 (w.heap.size + 2) 4 (arr n (fun _ => Value.bool false)) := by rw [hW3]; exact Blk.new' (by simp)
  have hWs : W3.heap.size = w.heap.size + 3 := by rw [hW3]; simp
  have HW := Lib.hid hW3
  have HB0 := Lib.hid hB0
  have HK0 := Lib.hid hb0
  have HK1 := Lib.hid hb1
  have HK2 := Lib.hid hb2
  obtain ⟨i0, hi, hz0, hz1, hz2⟩ := info_parts linkInfo
  have hn0 : (0 : Int) ≤ (n : Int) := Int.natCast_nonneg _
  clear hq hn hm hT hnl hB0 hb0 hb1 hb2 hW3
  go_enter Tryd.func38, Tryd.ntmps38
  go_wp2
  rw [← HW.out]
  have HWS := Lib.hid hWs
  clear hmk1 hmk2 hWs
  -- LOOP
  obtain ⟨G1, hG1⟩ : ∃ G1, w.heap.size + 1 = G1 := ⟨_, rfl⟩
  obtain ⟨G2, hG2⟩ : ∃ G2, w.heap.size + 2 = G2 := ⟨_, rfl⟩
  rw [show w.heap.size + 1 + 1 = G2 by omega, show w.heap.size + 1 = G1 by omega]
  rw [hG1] at HK1
  rw [hG2] at HK2
  have HG1 := Lib.hid hG1
  have HG2 := Lib.hid hG2
  clear hG1 hG2
  obtain ⟨F1, hF1⟩ : ∃ F1 : Nat → Value, F1 = fun j => .int .i64 (regL C j) := ⟨_, rfl⟩
  obtain ⟨F2, hF2⟩ : ∃ F2 : Nat → Value, F2 = fun j => .bool (insL C j) := ⟨_, rfl⟩
  have HF1 := Lib.hid hF1
  have HF2 := Lib.hid hF2
  clear hF1 hF2
  have hn63 : n ≤ 9223372036854775807 := by omega
  go_loopg [22, 7] n (fun q i v wr => ∃ k : Nat, k + q = n ∧ i = .int .i64 k ∧ OwnL W3.heap.size wr v (openAt C k) ∧ Blk wr w.heap.size 24 #[.slice a n cp, .int .i64 0, .int .i64 0] ∧
    Blk wr G1 3 (arr n (fun j => if j < k then F1 j else .int .i64 0)) ∧ Blk wr G2 4 (arr n (fun j => if j < k then F2 j else .bool false)) ∧ Below w.heap.size w wr ∧ W3.heap.size ≤ wr.heap.size)
  case atStart =>
    refine ⟨0, by omega, rfl, World.ownsRow_nil _ _ _ _, HK0.out, ?_, ?_, HB0.out, Nat.le_refl _⟩
    · have := HK1.out; simpa using this
    · have := HK2.out; simpa using this
  case round =>
    obtain ⟨wo, hwo⟩ : ∃ wo : World, wo = wr := ⟨_, rfl⟩
    subst hwo
    obtain ⟨k, hk, rfl, hown, hb0, hb1, hb2, hbw, hsz⟩ := hrel
    have Hk := Lib.hid hk
    have hkn : k ≤ n := by omega
    have HOWN := Lib.hid hown
    have HK0 := Lib.hid hb0
    have HK1 := Lib.hid hb1
    have HK2 := Lib.hid hb2
    have HBW := Lib.hid hbw
    obtain ⟨av, cv, rfl⟩ := own_form hown
    obtain ⟨L, hL⟩ : ∃ L, L = (openAt C k).length := ⟨_, rfl⟩
    rw [← hL]
    rw [← hL] at HOWN
    have HL := Lib.hid hL
    clear hk hown hb0 hb1 hb2 hbw hL
    by_cases hlt : k < n
    · have hlt' : (k : Int) < (n : Int) := by omega
      have hk0 : (0 : Int) ≤ (k : Int) := Int.natCast_nonneg _
      obtain ⟨x, hx⟩ := get_lt HNL.out hlt
      obtain ⟨g, o, rfl, hg, hp, hcell⟩ := HQ.out (by omega)
      obtain ⟨c0, c1, c2, c3, c4⟩ := hcell k x hx
      have c0 := cell_lo HBW.out hg c0
      have c1 := cell_lo HBW.out hg c1
      have c2 := cell_lo HBW.out hg c2
      have c3 := cell_lo HBW.out hg c3
      have c4 := cell_lo HBW.out hg c4
      have HX := Lib.hid (partner_eq hx).2
      have hgr : g < wo.heap.size := by have := HBW.out.size; omega
      obtain ⟨xo, xa, xb, xc, xd⟩ := x
      dsimp only at c0 c1 c2 c3 c4
      clear hcell hx hp
      go_wp2
      obtain ⟨W4, hW4⟩ : ∃ W4, W4 = wo.alloc (.cells #[.int .u8 xo, .int .i64 xa, .int .i64 xb, .int .i64 xc, .int .i64 xd] 45) := ⟨_, rfl⟩
      rw [← hW4]
      have HW4 := Lib.hid hW4
      clear hW4 c0 c1 c2 c3 c4
      go_loopg [7] L (fun q v wx => ∃ o' : List (Int × Int), o'.length = q ∧ popS k o' = popS k (openAt C k) ∧ wx = W4 ∧ o'.length ≤ 999 ∧ OwnL W3.heap.size W4 v o')
      case atStart => exact ⟨openAt C k, HL.out.symm, rfl, rfl, by have := open_len C k; omega, by rw [HW4.out]; have := HOWN.out; rw [HL.out] at this ⊢; exact this.alloc _⟩
      case round =>
        obtain ⟨o', hq', hpop, rfl, hol9, hown⟩ := hrel
        cases o' with
        | nil =>
          obtain ⟨a7, c7, rfl⟩ : ∃ a7 c7, _ = Value.slice a7 0 c7 := own_form hown
          have OWN1 : Hid (OwnL W3.heap.size wr (.slice a7 0 c7) []) := Lib.hid hown
          have HPOP : Hid (([] : List (Int × Int)) = popS k (openAt C k)) := Lib.hid hpop
          obtain ⟨O1, hO1⟩ : ∃ O1 : List (Int × Int), O1 = [] := ⟨_, rfl⟩
          obtain ⟨V1, hV1⟩ : ∃ V1 : Value, V1 = .slice a7 0 c7 := ⟨_, rfl⟩
          rw [← hO1] at OWN1 HPOP
          rw [← hV1] at OWN1
          have HO1 := Lib.hid hO1
          have HV1 := Lib.hid hV1
          have HLL : Hid (0 ≤ 1000) := Lib.hid (by omega)
          clear hown hpop hq' hO1 hV1 hol9
          have hins : F2 k = .bool false := by rw [HF2.out]; show Value.bool (decide (0 < (popS k (openAt C k)).length)) = _; rw [← HPOP.out, HO1.out]; simp
          have z2 := (show Blk wr G2 _ _ from by rw [HW4.out]; exact HK2.out.al _)
          have y2 := (z2.cell k).trans (arr_get _ hlt)
          rw [if_neg (by omega)] at y2
          have f2 := z2.free k
          have Z2 := Lib.hid z2
          have z0 := (show Blk wr w.heap.size _ _ from by rw [HW4.out]; exact HK0.out.al _)
          have n02 : w.heap.size ≠ G2 := by have := HG2.out; omega
          have y00 := z0.cell 0
          have y01 := z0.cell 1
          have y02 := z0.cell 2
          simp only [List.getElem?_toArray, List.getElem?_cons_succ, List.getElem?_cons_zero] at y00 y01 y02
          have Z0 := Lib.hid z0
          have HINS := Lib.hid hins
          have HBR : Hid (Below w.heap.size w wr) := Lib.hid (by rw [HW4.out]; exact HBW.out.alloc HBW.out.size _)
          have HB5 : Hid (Below w.heap.size w (wr.setCell ⟨G2, k, none⟩ (.bool false))) := Lib.hid (HBR.out.setCell (p := ⟨G2, k, none⟩) (by have := HG2.out; show w.heap.size ≤ G2; omega) _)
          clear z2 z0 hins
          go_wp2_with fail
          refine (partner_any C _ _ _ _ _ (HCI.out.below HB5.out) (HT.out.below HB5.out)).mono ?_
          rintro e w5 ⟨rfl, hb5⟩
          have HB6 := Lib.hid (below_next HB5.out (Nat.le_refl _) hb5)
          have hz5 : wr.heap.size ≤ w5.heap.size := by have := hb5.size; simpa [World.setCell] using this
          have Z2' : Hid (Blk w5 G2 4 (arr n (fun j => if j < k + 1 then F2 j else .bool false))) := Lib.hid (by
            have h := Z2.out.set k (F2 k)
            rw [arr_step (F := F2) (z := .bool false) (fun j => rfl), HINS.out] at h
            exact h.next hb5)
          have Z1' : Hid (Blk w5 G1 3 (arr n (fun j => if j < k then F1 j else .int .i64 0))) := Lib.hid (by
            have h : Blk wr G1 3 (arr n (fun j => if j < k then F1 j else .int .i64 0)) := by rw [HW4.out]; exact HK1.out.al _
            exact (h.far (p := ⟨G2, k, none⟩) (by have := HG1.out; have := HG2.out; show G1 ≠ G2; omega) _).next hb5)
          have Z0' : Hid (Blk w5 w.heap.size 24 #[.slice (some ⟨g, o, none⟩) n cp, .int .i64 0, .int .i64 0]) := Lib.hid ((Z0.out.far (p := ⟨G2, k, none⟩) n02 _).next hb5)
          have OWN2 : Hid (OwnL W3.heap.size w5 V1 O1) := Lib.hid (own_below (own_set OWN1.out Z2.out (by decide) _ _) hb5)
          have hzx : wo.heap.size < w5.heap.size := by (have e : wr.heap.size = wo.heap.size + 1 := (by rw [HW4.out]; simp)); omega
          have q0 : w5.cell? ⟨wo.heap.size, 0, none⟩ = some (.int .u8 xo) := by
            have h : Blk wr wo.heap.size 45 #[.int .u8 xo, .int .i64 xa, .int .i64 xb, .int .i64 xc, .int .i64 xd] := by rw [HW4.out]; exact Blk.new _ _ _
            exact ((h.far (p := ⟨G2, k, none⟩) (by have := HG2.out; have := HWS.out; show wo.heap.size ≠ G2; omega) _).next hb5).cell 0
          clear hb5 y2 f2 y00 y01 y02
          cases hp : partner C k with
          | none =>
            have HNS : Hid (∀ e, ¬ St C k e) := Lib.hid (fun e he => by have h := he.1; rw [hp] at h; cases h)
            clear hp
            have ho2 : openAt C (k + 1) = O1 := by show pushS C k (popS k (openAt C k)) = O1; rw [← HPOP.out]; exact pushS_no HNS.out _
            have HF1K : Hid (F1 k = .int .i64 (topOf O1)) := Lib.hid (by rw [HF1.out]; show Value.int .i64 (topOf (openAt C (k + 1))) = _; rw [ho2])
            have HO2 := Lib.hid ho2
            have OWNt := OWN2
            have Z0t := Z0'
            have Z1t := Z1'
            have Z2t := Z2'
            have HBt := HB6
            have HSt : Hid (W3.heap.size ≤ w5.heap.size) := Lib.hid (by omega)
            clear ho2
            rw [HV1.out] at OWNt
            rw [HO1.out, show topOf [] = -1 from rfl] at HF1K
            have y1 := (Z1t.out.cell k).trans (arr_get _ hlt)
            rw [if_neg (by omega)] at y1
            have f1 := Z1t.out.free k
            go_wp2
            have hk := Hk.out
            have HZ1 : Hid (Blk (w5.setCell ⟨G1, k, none⟩ (F1 k)) G1 3 (arr n (fun j => if j < k + 1 then F1 j else .int .i64 0))) := Lib.hid (by
              have h := Z1t.out.set k (F1 k)
              rw [arr_step (F := F1) (z := .int .i64 0) (fun j => rfl)] at h
              exact h)
            rw [HF1K.out] at HZ1
            go_roundg (n - (k + 1))
            case measure => omega
            case rel =>
              refine ⟨k + 1, by omega, by go_num, ?_, ?_, HZ1.out, ?_, ?_, ?_⟩
              · rw [HO2.out]
                exact own_set OWNt.out Z1t.out (by decide) _ _
              · exact Z0t.out.far (p := ⟨G1, k, none⟩) (by have := HG1.out; show w.heap.size ≠ G1; omega) _
              · exact Z2t.out.far (p := ⟨G1, k, none⟩) (by have := HG1.out; have := HG2.out; show G2 ≠ G1; omega) _
              · exact HBt.out.setCell (p := ⟨G1, k, none⟩) (by have := HG1.out; show w.heap.size ≤ G1; omega) _
              · have := HSt.out; simpa [World.setCell] using this
          | some e =>
            by_cases h32 : xo = 32
            · subst h32
              have HST : Hid (St C k e) := Lib.hid ⟨hp, by rw [HX.out]⟩
              clear hp
              have ho2 : openAt C (k + 1) = ((k : Int), e) :: O1 := by show pushS C k (popS k (openAt C k)) = _; rw [← HPOP.out]; exact pushS_start HST.out _
              have HF1K : Hid (F1 k = .int .i64 (k : Int)) := Lib.hid (by rw [HF1.out]; show Value.int .i64 (topOf (openAt C (k + 1))) = _; rw [ho2]; rfl)
              have HO2 := Lib.hid ho2
              have own2 := OWN2.out
              have hol : O1.length = 0 := by rw [HO1.out]; rfl
              unfold OwnL at own2
              rw [hol, HV1.out] at own2
              have HOL := Lib.hid hol
              have HOW2 := Lib.hid own2
              have hc4 : (0 + 1) * 16 ≤ 140737488355328 := by have := HLL.out; omega
              clear ho2 own2 hol
              go_wp2_with (at_builtin; refine wpList_append_own _ rfl (.tmp 64) (.tmp 68) 83 rfl W3.heap.size 85 i0 _ 2 16 Tryd.underlying83 hi hz0 hz1 hz2 rfl (by decide) _ _ _ rfl (HOW2.out.alloc _) ⟨w5.heap.size, 0, none⟩ 1 1 [.int .i64 k, .int .i64 e] rfl rfl ?c1 ?c2 ?c3 ?c4 ?c5 ?_)
              case c1 => exact World.news_of_block (cs := #[.int .i64 k, .int .i64 e]) (t := 85) (fr := (0, 0)) (heap_alloc_new w5 _)
              case c2 => simp [Value.oneCell']
              case c3 => have := HLL.out; unfold maxLen; omega
              case c4 => exact hc4
              case c5 => simp; omega
              intro v6 w6 hown6 hgrow6 _
              have OW6 : OwnL W3.heap.size w6 v6 (((k : Int), e) :: O1) := by unfold OwnL; rw [List.length_cons, HOL.out]; exact hown6
              obtain ⟨gv, c6, hv6, hcap6, t1, _, _, hgl⟩ := ownL_top OW6
              subst hv6
              have hgv : W3.heap.size ≤ gv := (hown6.lt gv rfl).1
              rw [HOL.out] at t1 hcap6 ⊢
              have OWNt := Lib.hid OW6
              rw [HOL.out] at OWNt
              have hgr' := hgrow6
              have hoa := HOW2.out.alloc (.cells #[.int .i64 k, .int .i64 e] 85)
              have z0a := Z0'.out.al (.cells #[.int .i64 k, .int .i64 e] 85)
              have z1a := Z1'.out.al (.cells #[.int .i64 k, .int .i64 e] 85)
              have z2a := Z2'.out.al (.cells #[.int .i64 k, .int .i64 e] 85)
              have Z0t := Lib.hid (z0a.grown hgrow6 (z0a.own_ne hoa (by decide)))
              have Z1t := Lib.hid (z1a.grown hgrow6 (z1a.own_ne hoa (by decide)))
              have Z2t := Lib.hid (z2a.grown hgrow6 (z2a.own_ne hoa (by decide)))
              clear hoa z0a z1a z2a
              have HBt : Hid (Below w.heap.size w w6) := Lib.hid ((HB6.out.alloc HB6.out.size _).grown hgrow6 (by have := HB6.out.size; simp; omega) (fun j hj => Nat.le_trans HB0.out.size (HOW2.out.lt j hj).1))
              have HSt : Hid (W3.heap.size ≤ w6.heap.size) := Lib.hid (by have := hgrow6.size; simp at this; omega)
              clear hown6 hgrow6 OW6 hgr'
              simp only [Nat.zero_add, Nat.zero_mul] at t1 hcap6 ⊢
              have y1 := (Z1t.out.cell k).trans (arr_get _ hlt)
              rw [if_neg (by omega)] at y1
              have f1 := Z1t.out.free k
              have hng : gv ≠ G1 := by have := hgv; have := HG1.out; have := HWS.out; omega
              have m0 : (0 : Int) ≤ (0 : Int) := Int.natCast_nonneg _
              go_wp2
              have hk := Hk.out
              have HZ1 : Hid (Blk ((w6.setCell ⟨G1, k, none⟩ (.int .i64 (-1))).setCell ⟨G1, k, none⟩ (F1 k)) G1 3 (arr n (fun j => if j < k + 1 then F1 j else .int .i64 0))) := Lib.hid (by
                have h := (Z1t.out.set k (.int .i64 (-1))).set k (F1 k)
                rw [arr_set, arr_step2 (F := F1) (z := .int .i64 0) (fun j => rfl)] at h
                exact h)
              rw [HF1K.out] at HZ1
              go_roundg (n - (k + 1))
              case measure => omega
              case rel =>
                refine ⟨k + 1, by omega, by go_num, ?_, ?_, HZ1.out, ?_, ?_, ?_⟩
                · rw [HO2.out]
                  exact own_set (own_set OWNt.out Z1t.out (by decide) _ _) (Z1t.out.set k _) (by decide) _ _
                · exact (Z0t.out.far (p := ⟨G1, k, none⟩) (by have := HG1.out; show w.heap.size ≠ G1; omega) _).far (p := ⟨G1, k, none⟩) (by have := HG1.out; show w.heap.size ≠ G1; omega) _
                · exact (Z2t.out.far (p := ⟨G1, k, none⟩) (by have := HG1.out; have := HG2.out; show G2 ≠ G1; omega) _).far (p := ⟨G1, k, none⟩) (by have := HG1.out; have := HG2.out; show G2 ≠ G1; omega) _
                · exact (HBt.out.setCell (p := ⟨G1, k, none⟩) (by have := HG1.out; show w.heap.size ≤ G1; omega) _).setCell (p := ⟨G1, k, none⟩) (by have := HG1.out; show w.heap.size ≤ G1; omega) _
                · have := HSt.out; simpa [World.setCell] using this
            · have e32 : ((xo : Int) == 32) = false := by simp; omega
              have HNS : Hid (∀ e, ¬ St C k e) := Lib.hid (fun e he => h32 (by have := he.2; rw [HX.out] at this; exact this))
              clear hp h32
              have ho2 : openAt C (k + 1) = O1 := by show pushS C k (popS k (openAt C k)) = O1; rw [← HPOP.out]; exact pushS_no HNS.out _
              have HF1K : Hid (F1 k = .int .i64 (topOf O1)) := Lib.hid (by rw [HF1.out]; show Value.int .i64 (topOf (openAt C (k + 1))) = _; rw [ho2])
              have HO2 := Lib.hid ho2
              have OWNt := OWN2
              have Z0t := Z0'
              have Z1t := Z1'
              have Z2t := Z2'
              have HBt := HB6
              have HSt : Hid (W3.heap.size ≤ w5.heap.size) := Lib.hid (by omega)
              clear ho2
              rw [HV1.out] at OWNt
              rw [HO1.out, show topOf [] = -1 from rfl] at HF1K
              have y1 := (Z1t.out.cell k).trans (arr_get _ hlt)
              rw [if_neg (by omega)] at y1
              have f1 := Z1t.out.free k
              go_wp2
              have hk := Hk.out
              have HZ1 : Hid (Blk (w5.setCell ⟨G1, k, none⟩ (F1 k)) G1 3 (arr n (fun j => if j < k + 1 then F1 j else .int .i64 0))) := Lib.hid (by
                have h := Z1t.out.set k (F1 k)
                rw [arr_step (F := F1) (z := .int .i64 0) (fun j => rfl)] at h
                exact h)
              rw [HF1K.out] at HZ1
              go_roundg (n - (k + 1))
              case measure => omega
              case rel =>
                refine ⟨k + 1, by omega, by go_num, ?_, ?_, HZ1.out, ?_, ?_, ?_⟩
                · rw [HO2.out]
                  exact own_set OWNt.out Z1t.out (by decide) _ _
                · exact Z0t.out.far (p := ⟨G1, k, none⟩) (by have := HG1.out; show w.heap.size ≠ G1; omega) _
                · exact Z2t.out.far (p := ⟨G1, k, none⟩) (by have := HG1.out; have := HG2.out; show G2 ≠ G1; omega) _
                · exact HBt.out.setCell (p := ⟨G1, k, none⟩) (by have := HG1.out; show w.heap.size ≤ G1; omega) _
                · have := HSt.out; simpa [World.setCell] using this
        | cons x l =>
          obtain ⟨m, hm⟩ : ∃ m, m = l.length := ⟨_, rfl⟩
          obtain ⟨gv, c7, hv7, hcap7, t1, t2, hpo, hgl⟩ := ownL_top hown
          rw [← hm] at hv7 hcap7 t1 t2 hpo
          obtain ⟨L1, hL1⟩ : ∃ L1, m + 1 = L1 := ⟨_, rfl⟩
          rw [hL1] at hv7 hcap7
          subst hv7
          have hgv : W3.heap.size ≤ gv := (hown.lt gv rfl).1
          have e1 : (L1 : Int) - 1 = (m : Int) := by omega
          have hl1 : 0 < L1 := by omega
          have hl1' : (m : Int) < (L1 : Int) := by omega
          have hm0 : (0 : Int) ≤ (m : Int) := Int.natCast_nonneg _
          have hmb : (m : Int) ≤ 999 := by rw [List.length_cons] at hol9; omega
          have hlb : (L1 : Int) ≤ 1000 := by omega
          have HLM := Lib.hid hL1
          have HM := Lib.hid hm
          have HPO := Lib.hid hpo
          have HOW := Lib.hid hown
          have hLL : L1 ≤ 1000 := by rw [List.length_cons] at hol9; omega
          have HLL := Lib.hid hLL
          have HLL9 : Hid (l.length ≤ 999) := Lib.hid (by rw [List.length_cons] at hol9; omega)
          have HQ' := Lib.hid hq'
          clear hm hL1 hpo hown hLL hq' hol9
          by_cases hx2 : x.2 < k
          · have HPOP : Hid (popS k l = popS k (openAt C k)) := Lib.hid (by rw [← hpop]; show _ = if x.2 < (k : Int) then popS k l else x :: l; rw [if_pos hx2])
            clear hpop
            go_wp2
            go_roundg m
            case measure => have h := HQ'.out; have := HM.out; rw [← h, List.length_cons]; omega
            case rel => exact ⟨l, HM.out.symm, HPOP.out, rfl, by have := HLL9.out; have := HM.out; omega, HPO.out⟩
          · have HPOP : Hid (x :: l = popS k (openAt C k)) := Lib.hid (by rw [← hpop]; show _ = if x.2 < (k : Int) then popS k l else x :: l; rw [if_neg hx2])
            clear hpop
            obtain ⟨O1, hO1⟩ : ∃ O1 : List (Int × Int), O1 = x :: l := ⟨_, rfl⟩
            obtain ⟨V1, hV1⟩ : ∃ V1 : Value, V1 = .slice (some ⟨gv, 0, none⟩) L1 c7 := ⟨_, rfl⟩
            have OWN1 : Hid (OwnL W3.heap.size wr (.slice (some ⟨gv, 0, none⟩) L1 c7) (x :: l)) := HOW
            rw [← hO1] at OWN1 HPOP
            rw [← hV1] at OWN1
            have HO1 := Lib.hid hO1
            have HV1 := Lib.hid hV1
            clear hO1 hV1
            have hins : F2 k = .bool true := by rw [HF2.out]; show Value.bool (decide (0 < (popS k (openAt C k)).length)) = _; rw [← HPOP.out, HO1.out]; simp
            have z2 := (show Blk wr G2 _ _ from by rw [HW4.out]; exact HK2.out.al _)
            have y2 := (z2.cell k).trans (arr_get _ hlt)
            rw [if_neg (by omega)] at y2
            have f2 := z2.free k
            have Z2 := Lib.hid z2
            have z0 := (show Blk wr w.heap.size _ _ from by rw [HW4.out]; exact HK0.out.al _)
            have n02 : w.heap.size ≠ G2 := by have := HG2.out; omega
            have y00 := z0.cell 0
            have y01 := z0.cell 1
            have y02 := z0.cell 2
            simp only [List.getElem?_toArray, List.getElem?_cons_succ, List.getElem?_cons_zero] at y00 y01 y02
            have Z0 := Lib.hid z0
            have HINS := Lib.hid hins
            have HBR : Hid (Below w.heap.size w wr) := Lib.hid (by rw [HW4.out]; exact HBW.out.alloc HBW.out.size _)
            have HB5 : Hid (Below w.heap.size w (wr.setCell ⟨G2, k, none⟩ (.bool true))) := Lib.hid (HBR.out.setCell (p := ⟨G2, k, none⟩) (by have := HG2.out; show w.heap.size ≤ G2; omega) _)
            clear z2 z0 hins
            go_wp2_with fail
            refine (partner_any C _ _ _ _ _ (HCI.out.below HB5.out) (HT.out.below HB5.out)).mono ?_
            rintro e w5 ⟨rfl, hb5⟩
            have HB6 := Lib.hid (below_next HB5.out (Nat.le_refl _) hb5)
            have hz5 : wr.heap.size ≤ w5.heap.size := by have := hb5.size; simpa [World.setCell] using this
            have Z2' : Hid (Blk w5 G2 4 (arr n (fun j => if j < k + 1 then F2 j else .bool false))) := Lib.hid (by
              have h := Z2.out.set k (F2 k)
              rw [arr_step (F := F2) (z := .bool false) (fun j => rfl), HINS.out] at h
              exact h.next hb5)
            have Z1' : Hid (Blk w5 G1 3 (arr n (fun j => if j < k then F1 j else .int .i64 0))) := Lib.hid (by
              have h : Blk wr G1 3 (arr n (fun j => if j < k then F1 j else .int .i64 0)) := by rw [HW4.out]; exact HK1.out.al _
              exact (h.far (p := ⟨G2, k, none⟩) (by have := HG1.out; have := HG2.out; show G1 ≠ G2; omega) _).next hb5)
            have Z0' : Hid (Blk w5 w.heap.size 24 #[.slice (some ⟨g, o, none⟩) n cp, .int .i64 0, .int .i64 0]) := Lib.hid ((Z0.out.far (p := ⟨G2, k, none⟩) n02 _).next hb5)
            have OWN2 : Hid (OwnL W3.heap.size w5 V1 O1) := Lib.hid (own_below (own_set OWN1.out Z2.out (by decide) _ _) hb5)
            have hzx : wo.heap.size < w5.heap.size := by (have e : wr.heap.size = wo.heap.size + 1 := (by rw [HW4.out]; simp)); omega
            have q0 : w5.cell? ⟨wo.heap.size, 0, none⟩ = some (.int .u8 xo) := by
              have h : Blk wr wo.heap.size 45 #[.int .u8 xo, .int .i64 xa, .int .i64 xb, .int .i64 xc, .int .i64 xd] := by rw [HW4.out]; exact Blk.new _ _ _
              exact ((h.far (p := ⟨G2, k, none⟩) (by have := HG2.out; have := HWS.out; show wo.heap.size ≠ G2; omega) _).next hb5).cell 0
            clear hb5 y2 f2 y00 y01 y02
            cases hp : partner C k with
            | none =>
              have HNS : Hid (∀ e, ¬ St C k e) := Lib.hid (fun e he => by have h := he.1; rw [hp] at h; cases h)
              clear hp
              have ho2 : openAt C (k + 1) = O1 := by show pushS C k (popS k (openAt C k)) = O1; rw [← HPOP.out]; exact pushS_no HNS.out _
              have HF1K : Hid (F1 k = .int .i64 (topOf O1)) := Lib.hid (by rw [HF1.out]; show Value.int .i64 (topOf (openAt C (k + 1))) = _; rw [ho2])
              have HO2 := Lib.hid ho2
              have OWNt := OWN2
              have Z0t := Z0'
              have Z1t := Z1'
              have Z2t := Z2'
              have HBt := HB6
              have HSt : Hid (W3.heap.size ≤ w5.heap.size) := Lib.hid (by omega)
              clear ho2
              rw [HV1.out] at OWNt
              rw [HO1.out, show topOf (x :: l) = x.1 from rfl] at HF1K
              have t1 : w5.cell? ⟨gv, m * 2, none⟩ = some (.int .i64 x.1) := by
                have h := OWNt.out
                rw [HO1.out] at h
                obtain ⟨g', c', he, _, hc1, _⟩ := ownL_top h
                injection he with he _ _
                injection he with he
                injection he with he
                rw [← HM.out] at hc1
                rw [he]; exact hc1
              have y1 := (Z1t.out.cell k).trans (arr_get _ hlt)
              rw [if_neg (by omega)] at y1
              have f1 := Z1t.out.free k
              have hng : gv ≠ G1 := by have := hgv; have := HG1.out; have := HWS.out; omega
              have m0 : (0 : Int) ≤ (m : Int) := Int.natCast_nonneg _
              go_wp2
              have hk := Hk.out
              have HZ1 : Hid (Blk ((w5.setCell ⟨G1, k, none⟩ (.int .i64 (-1))).setCell ⟨G1, k, none⟩ (F1 k)) G1 3 (arr n (fun j => if j < k + 1 then F1 j else .int .i64 0))) := Lib.hid (by
                have h := (Z1t.out.set k (.int .i64 (-1))).set k (F1 k)
                rw [arr_set, arr_step2 (F := F1) (z := .int .i64 0) (fun j => rfl)] at h
                exact h)
              rw [HF1K.out] at HZ1
              go_roundg (n - (k + 1))
              case measure => omega
              case rel =>
                refine ⟨k + 1, by omega, by go_num, ?_, ?_, HZ1.out, ?_, ?_, ?_⟩
                · rw [HO2.out]
                  exact own_set (own_set OWNt.out Z1t.out (by decide) _ _) (Z1t.out.set k _) (by decide) _ _
                · exact (Z0t.out.far (p := ⟨G1, k, none⟩) (by have := HG1.out; show w.heap.size ≠ G1; omega) _).far (p := ⟨G1, k, none⟩) (by have := HG1.out; show w.heap.size ≠ G1; omega) _
                · exact (Z2t.out.far (p := ⟨G1, k, none⟩) (by have := HG1.out; have := HG2.out; show G2 ≠ G1; omega) _).far (p := ⟨G1, k, none⟩) (by have := HG1.out; have := HG2.out; show G2 ≠ G1; omega) _
                · exact (HBt.out.setCell (p := ⟨G1, k, none⟩) (by have := HG1.out; show w.heap.size ≤ G1; omega) _).setCell (p := ⟨G1, k, none⟩) (by have := HG1.out; show w.heap.size ≤ G1; omega) _
                · have := HSt.out; simpa [World.setCell] using this
            | some e =>
              by_cases h32 : xo = 32
              · subst h32
                have HST : Hid (St C k e) := Lib.hid ⟨hp, by rw [HX.out]⟩
                clear hp
                have ho2 : openAt C (k + 1) = ((k : Int), e) :: O1 := by show pushS C k (popS k (openAt C k)) = _; rw [← HPOP.out]; exact pushS_start HST.out _
                have HF1K : Hid (F1 k = .int .i64 (k : Int)) := Lib.hid (by rw [HF1.out]; show Value.int .i64 (topOf (openAt C (k + 1))) = _; rw [ho2]; rfl)
                have HO2 := Lib.hid ho2
                have own2 := OWN2.out
                have hol : O1.length = L1 := by rw [HO1.out]; rw [List.length_cons, ← HM.out, HLM.out]
                unfold OwnL at own2
                rw [hol, HV1.out] at own2
                have HOL := Lib.hid hol
                have HOW2 := Lib.hid own2
                have hc4 : (L1 + 1) * 16 ≤ 140737488355328 := by have := HLL.out; omega
                clear ho2 own2 hol
                go_wp2_with (at_builtin; refine wpList_append_own _ rfl (.tmp 64) (.tmp 68) 83 rfl W3.heap.size 85 i0 _ 2 16 Tryd.underlying83 hi hz0 hz1 hz2 rfl (by decide) _ _ _ rfl (HOW2.out.alloc _) ⟨w5.heap.size, 0, none⟩ 1 1 [.int .i64 k, .int .i64 e] rfl rfl ?c1 ?c2 ?c3 ?c4 ?c5 ?_)
                case c1 => exact World.news_of_block (cs := #[.int .i64 k, .int .i64 e]) (t := 85) (fr := (0, 0)) (heap_alloc_new w5 _)
                case c2 => simp [Value.oneCell']
                case c3 => have := HLL.out; unfold maxLen; omega
                case c4 => exact hc4
                case c5 => simp; omega
                intro v6 w6 hown6 hgrow6 _
                have OW6 : OwnL W3.heap.size w6 v6 (((k : Int), e) :: O1) := by unfold OwnL; rw [List.length_cons, HOL.out]; exact hown6
                obtain ⟨gv, c6, hv6, hcap6, t1, _, _, hgl⟩ := ownL_top OW6
                subst hv6
                have hgv : W3.heap.size ≤ gv := (hown6.lt gv rfl).1
                rw [HOL.out] at t1 hcap6 ⊢
                have OWNt := Lib.hid OW6
                rw [HOL.out] at OWNt
                have hgr' := hgrow6
                have hoa := HOW2.out.alloc (.cells #[.int .i64 k, .int .i64 e] 85)
                have z0a := Z0'.out.al (.cells #[.int .i64 k, .int .i64 e] 85)
                have z1a := Z1'.out.al (.cells #[.int .i64 k, .int .i64 e] 85)
                have z2a := Z2'.out.al (.cells #[.int .i64 k, .int .i64 e] 85)
                have Z0t := Lib.hid (z0a.grown hgrow6 (z0a.own_ne hoa (by decide)))
                have Z1t := Lib.hid (z1a.grown hgrow6 (z1a.own_ne hoa (by decide)))
                have Z2t := Lib.hid (z2a.grown hgrow6 (z2a.own_ne hoa (by decide)))
                clear hoa z0a z1a z2a
                have HBt : Hid (Below w.heap.size w w6) := Lib.hid ((HB6.out.alloc HB6.out.size _).grown hgrow6 (by have := HB6.out.size; simp; omega) (fun j hj => Nat.le_trans HB0.out.size (HOW2.out.lt j hj).1))
                have HSt : Hid (W3.heap.size ≤ w6.heap.size) := Lib.hid (by have := hgrow6.size; simp at this; omega)
                clear hown6 hgrow6 OW6 hgr'
                obtain ⟨L2, hL2⟩ : ∃ L2, L1 + 1 = L2 := ⟨_, rfl⟩
                rw [hL2] at hcap6 OWNt ⊢
                have e2 : (L2 : Int) - 1 = (L1 : Int) := by omega
                have hl2 : 0 < L2 := by omega
                have hl2' : (L1 : Int) < (L2 : Int) := by omega
                have HL2 := Lib.hid hL2
                clear hL2
                have y1 := (Z1t.out.cell k).trans (arr_get _ hlt)
                rw [if_neg (by omega)] at y1
                have f1 := Z1t.out.free k
                have hng : gv ≠ G1 := by have := hgv; have := HG1.out; have := HWS.out; omega
                have m0 : (0 : Int) ≤ (L1 : Int) := Int.natCast_nonneg _
                go_wp2
                have hk := Hk.out
                have HZ1 : Hid (Blk ((w6.setCell ⟨G1, k, none⟩ (.int .i64 (-1))).setCell ⟨G1, k, none⟩ (F1 k)) G1 3 (arr n (fun j => if j < k + 1 then F1 j else .int .i64 0))) := Lib.hid (by
                  have h := (Z1t.out.set k (.int .i64 (-1))).set k (F1 k)
                  rw [arr_set, arr_step2 (F := F1) (z := .int .i64 0) (fun j => rfl)] at h
                  exact h)
                rw [HF1K.out] at HZ1
                go_roundg (n - (k + 1))
                case measure => omega
                case rel =>
                  refine ⟨k + 1, by omega, by go_num, ?_, ?_, HZ1.out, ?_, ?_, ?_⟩
                  · rw [HO2.out]
                    exact own_set (own_set OWNt.out Z1t.out (by decide) _ _) (Z1t.out.set k _) (by decide) _ _
                  · exact (Z0t.out.far (p := ⟨G1, k, none⟩) (by have := HG1.out; show w.heap.size ≠ G1; omega) _).far (p := ⟨G1, k, none⟩) (by have := HG1.out; show w.heap.size ≠ G1; omega) _
                  · exact (Z2t.out.far (p := ⟨G1, k, none⟩) (by have := HG1.out; have := HG2.out; show G2 ≠ G1; omega) _).far (p := ⟨G1, k, none⟩) (by have := HG1.out; have := HG2.out; show G2 ≠ G1; omega) _
                  · exact (HBt.out.setCell (p := ⟨G1, k, none⟩) (by have := HG1.out; show w.heap.size ≤ G1; omega) _).setCell (p := ⟨G1, k, none⟩) (by have := HG1.out; show w.heap.size ≤ G1; omega) _
                  · have := HSt.out; simpa [World.setCell] using this
              · have e32 : ((xo : Int) == 32) = false := by simp; omega
                have HNS : Hid (∀ e, ¬ St C k e) := Lib.hid (fun e he => h32 (by have := he.2; rw [HX.out] at this; exact this))
                clear hp h32
                have ho2 : openAt C (k + 1) = O1 := by show pushS C k (popS k (openAt C k)) = O1; rw [← HPOP.out]; exact pushS_no HNS.out _
                have HF1K : Hid (F1 k = .int .i64 (topOf O1)) := Lib.hid (by rw [HF1.out]; show Value.int .i64 (topOf (openAt C (k + 1))) = _; rw [ho2])
                have HO2 := Lib.hid ho2
                have OWNt := OWN2
                have Z0t := Z0'
                have Z1t := Z1'
                have Z2t := Z2'
                have HBt := HB6
                have HSt : Hid (W3.heap.size ≤ w5.heap.size) := Lib.hid (by omega)
                clear ho2
                rw [HV1.out] at OWNt
                rw [HO1.out, show topOf (x :: l) = x.1 from rfl] at HF1K
                have t1 : w5.cell? ⟨gv, m * 2, none⟩ = some (.int .i64 x.1) := by
                  have h := OWNt.out
                  rw [HO1.out] at h
                  obtain ⟨g', c', he, _, hc1, _⟩ := ownL_top h
                  injection he with he _ _
                  injection he with he
                  injection he with he
                  rw [← HM.out] at hc1
                  rw [he]; exact hc1
                have y1 := (Z1t.out.cell k).trans (arr_get _ hlt)
                rw [if_neg (by omega)] at y1
                have f1 := Z1t.out.free k
                have hng : gv ≠ G1 := by have := hgv; have := HG1.out; have := HWS.out; omega
                have m0 : (0 : Int) ≤ (m : Int) := Int.natCast_nonneg _
                go_wp2
                have hk := Hk.out
                have HZ1 : Hid (Blk ((w5.setCell ⟨G1, k, none⟩ (.int .i64 (-1))).setCell ⟨G1, k, none⟩ (F1 k)) G1 3 (arr n (fun j => if j < k + 1 then F1 j else .int .i64 0))) := Lib.hid (by
                  have h := (Z1t.out.set k (.int .i64 (-1))).set k (F1 k)
                  rw [arr_set, arr_step2 (F := F1) (z := .int .i64 0) (fun j => rfl)] at h
                  exact h)
                rw [HF1K.out] at HZ1
                go_roundg (n - (k + 1))
                case measure => omega
                case rel =>
                  refine ⟨k + 1, by omega, by go_num, ?_, ?_, HZ1.out, ?_, ?_, ?_⟩
                  · rw [HO2.out]
                    exact own_set (own_set OWNt.out Z1t.out (by decide) _ _) (Z1t.out.set k _) (by decide) _ _
                  · exact (Z0t.out.far (p := ⟨G1, k, none⟩) (by have := HG1.out; show w.heap.size ≠ G1; omega) _).far (p := ⟨G1, k, none⟩) (by have := HG1.out; show w.heap.size ≠ G1; omega) _
                  · exact (Z2t.out.far (p := ⟨G1, k, none⟩) (by have := HG1.out; have := HG2.out; show G2 ≠ G1; omega) _).far (p := ⟨G1, k, none⟩) (by have := HG1.out; have := HG2.out; show G2 ≠ G1; omega) _
                  · exact (HBt.out.setCell (p := ⟨G1, k, none⟩) (by have := HG1.out; show w.heap.size ≤ G1; omega) _).setCell (p := ⟨G1, k, none⟩) (by have := HG1.out; show w.heap.size ≤ G1; omega) _
                  · have := HSt.out; simpa [World.setCell] using this
    · have hge : ¬ (k : Int) < (n : Int) := by omega
      have hkn' : k = n := by omega
      subst hkn'
      go_wp2
      go_ret2
      refine ⟨G1, G2, rfl, ?_, ?_, HBW.out⟩
      · have h := HK1.out
        rw [arr_congr (f' := fun j => .int .i64 (regL C j)) (fun j hj => by rw [if_pos hj, HF1.out])] at h
        exact h
      · have h := HK2.out
        rw [arr_congr (f' := fun j => .bool (insL C j)) (fun j hj => by rw [if_pos hj, HF2.out])] at h
        exact h

end Go.Proofs.YtichiccohmeecaaDoor
