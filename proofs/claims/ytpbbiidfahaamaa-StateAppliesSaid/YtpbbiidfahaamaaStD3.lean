/- The walk of Diff. -/
import Derived.Test.YtpbbiidfahaamaaStD2
import Derived.Test.YtpbbiidfahaamaaStP1
import Derived.WalkLawsBesides
namespace Go.Proofs.Ytpbbiidfahaamaa
open Go.RowKit Go.Lib Go.Sort

theorem chgInfo : (Try.prog.info? 61).map (fun i => (i.zero, i.size, i.bytes)) = some (some (.agg #[.int .i64 0, .int .i64 0, .int .i64 0, .int .i64 0]), 4, 32) := by kernel_rfl

def chgV (c : Chg) : List Value := [.int .i64 c.cell, .int .i64 c.pos, .int .i64 c.old, .int .i64 c.new]
def chgsV (C : List Chg) : List Value := C.flatMap chgV
theorem chgsV_app (C D : List Chg) : chgsV (C ++ D) = chgsV C ++ chgsV D := List.flatMap_append
theorem chgsV_one (c : Chg) : chgsV [c] = chgV c := by simp [chgsV]

def dOne (cell : Int) (x y : List Int) (i : Nat) : List Chg := if x.getD i 0 = y.getD i 0 then [] else [⟨cell, i, x.getD i 0, y.getD i 0⟩]
def dEls (cell : Int) (x y : List Int) (m : Nat) : List Chg := (List.range m).flatMap (dOne cell x y)
def dLen (cell : Int) (x y : List Int) : List Chg := if x.length = y.length then [] else [⟨cell, -1, x.length, y.length⟩]
def dCell (cell : Int) (x y : List Int) : List Chg := dLen cell x y ++ dEls cell x y (max x.length y.length)
def diffAt (a b : St) (c : Int) : List Chg := dCell c (part a c) (part b c)
def diffP (a b : St) : List Chg := if a.cells.length = b.cells.length then (comps a.cells.length).flatMap (diffAt a b) else []

theorem dEls_succ (cell : Int) (x y : List Int) (m : Nat) : dEls cell x y (m + 1) = dEls cell x y m ++ dOne cell x y m := by
  unfold dEls
  rw [List.range_succ, List.flatMap_append]
  simp
theorem dEls_len (cell : Int) (x y : List Int) (m : Nat) : (dEls cell x y m).length ≤ m := by
  induction m with
  | zero => simp [dEls]
  | succ m ih =>
    rw [dEls_succ, List.length_append]
    have : (dOne cell x y m).length ≤ 1 := by unfold dOne; split <;> simp
    omega
theorem dLen_len (cell : Int) (x y : List Int) : (dLen cell x y).length ≤ 1 := by unfold dLen; split <;> simp

def Small (s : St) : Prop := s.cells.length ≤ 40 ∧ s.inp.length ≤ 60 ∧ s.out.length ≤ 60 ∧ ∀ l ∈ s.cells, l.length ≤ 60
theorem small_iff (s : St) : smallB s = true ↔ Small s := by
  unfold smallB Small
  simp only [Bool.and_eq_true, decide_eq_true_eq, List.all_eq_true, rowB]
  constructor
  · rintro ⟨⟨⟨a, b⟩, c⟩, d⟩; exact ⟨a, b, c, d⟩
  · rintro ⟨a, b, c, d⟩; exact ⟨⟨⟨a, b⟩, c⟩, d⟩
theorem Small.sized {s : St} (h : Small s) : Sized s := ⟨by have := h.2.1; omega, by have := h.2.2.1; omega, fun l hl => by have := h.2.2.2 l hl; omega⟩
theorem Small.len {s : St} (h : Small s) (c : Int) : (part s c).length ≤ 60 := by
  unfold part
  split
  · rw [List.length_reverse]; exact h.2.1
  · split
    · exact h.2.2.1
    · rw [List.getD_eq_getElem?_getD]
      cases hg : s.cells[c.toNat]? with
      | none => simp
      | some l => exact h.2.2.2 l (List.mem_of_getElem? hg)

theorem RowsAt.i64 {w : World} {v : Value} {L : List (List Int)} (h : RowsAt w v L) : ∀ l ∈ L, ∀ y ∈ l, I64 y := by
  intro l hl
  obtain ⟨i, hi⟩ := List.getElem?_of_mem hl
  obtain ⟨a, c, rfl, _, _, hc⟩ := h
  obtain ⟨g, o, _, _, hq⟩ := hc (List.length_pos_of_mem hl)
  obtain ⟨u, _, hu⟩ := hq i l hi
  exact hu.2
theorem StAt.inSt {w : World} {v : Value} {s : St} (h : StAt w v s) : InSt s := by
  obtain ⟨c, i, o, rfl, h1, h2, h3⟩ := h
  exact ⟨h1.i64, h2.2, h3.2⟩
theorem part_i64 {s : St} (h : InSt s) (c : Int) : ∀ x ∈ part s c, I64 x := by
  unfold part
  split
  · intro x hx; exact h.2.1 x (List.mem_reverse.1 hx)
  · split
    · exact h.2.2
    · rw [List.getD_eq_getElem?_getD]
      cases hg : s.cells[c.toNat]? with
      | none => simp
      | some l => exact h.1 l (List.mem_of_getElem? hg)

theorem comps_mem {n : Nat} {c : Int} (h : c ∈ comps n) : c = -1 ∨ c = -2 ∨ 0 ≤ c ∧ c < n := by
  unfold comps compsL at h
  simp only [List.mem_append, List.mem_map, List.mem_range, List.mem_cons, List.not_mem_nil, or_false] at h
  rcases h with ⟨i, hi, rfl⟩ | h | h
  · exact .inr (.inr ⟨by omega, by omega⟩)
  · exact .inl h
  · exact .inr (.inl h)

theorem comps_i64 {n : Nat} (hn : n ≤ 1000000) : ∀ c ∈ comps n, I64 c := by
  intro c h
  have := comps_mem h
  unfold I64
  omega

theorem flat_take {α β : Type} {l : List α} {k : Nat} {x : α} (f : α → List β) (h : l[k]? = some x) : (l.take (k + 1)).flatMap f = (l.take k).flatMap f ++ f x := by
  have hk : k < l.length := by
    rcases Nat.lt_or_ge k l.length with hh | hh
    · exact hh
    · rw [List.getElem?_eq_none hh] at h; cases h
  have e : l[k] = x := by rw [List.getElem?_eq_getElem hk] at h; exact Option.some.inj h
  rw [List.take_succ_eq_append_getElem hk, e, List.flatMap_append]
  simp

/-- one element of four cells, stored in a new block -/
theorem cell_four_new (w : World) (a b c d : Value) (t : TypeId) : ∀ (j : Nat) (u : Value), [a, b, c, d][j]? = some u → (w.alloc (.cells #[a, b, c, d] t)).cell? ((⟨w.heap.size, 0, none⟩ : Addr).add j) = some u := by
  intro j u hu
  rw [Go.WideShapes.add_plain, Nat.zero_add]
  match j, hu with
  | 0, hu => simp only [List.getElem?_cons_zero, Option.some.injEq] at hu; subst hu; rw [World.cell?_alloc_at _ _ _ _ rfl]; rfl
  | 1, hu => simp only [List.getElem?_cons_succ, List.getElem?_cons_zero, Option.some.injEq] at hu; subst hu; rw [World.cell?_alloc_at _ _ _ _ rfl]; rfl
  | 2, hu => simp only [List.getElem?_cons_succ, List.getElem?_cons_zero, Option.some.injEq] at hu; subst hu; rw [World.cell?_alloc_at _ _ _ _ rfl]; rfl
  | 3, hu => simp only [List.getElem?_cons_succ, List.getElem?_cons_zero, Option.some.injEq] at hu; subst hu; rw [World.cell?_alloc_at _ _ _ _ rfl]; rfl
  | j + 4, hu => simp at hu

theorem ints4_one (a b c d : Int) : ∀ u ∈ [Value.int .i64 a, .int .i64 b, .int .i64 c, .int .i64 d], u.oneCell' = true := by
  intro u hu
  simp only [List.mem_cons, List.not_mem_nil, or_false] at hu
  rcases hu with rfl | rfl | rfl | rfl <;> rfl

theorem own_below {w w' : World} {base : Nat} {e : TypeId} {size : Nat} {v : Value} {n : Nat} {xs : List Value} (h : w.ownsRow base e size v n xs) (hb : Below w.heap.size w w') : w'.ownsRow base e size v n xs :=
  h.kept (row := none) ⟨hb.os, hb.tape, hb.output, hb.size, fun k hk _ => hb.block k hk⟩ (by cases v.ownBlock <;> simp)

set_option maxRecDepth 100000 in
set_option maxHeartbeats 4000000 in
theorem diff_any (a b : St) (u v : Value) (w : World) (h1 : StAt w u a) (h2 : StAt w v b) (ha : Small a) (hb : Small b) :
    Calls Try.prog 16 #[u, v] w fun e w' => ∃ r, e = .returned r ∧ w'.ownsRow w.heap.size 61 4 r (diffP a b).length (chgsV (diffP a b)) ∧ Below w.heap.size w w' := by
  obtain ⟨c1, i1, o1, rfl, hc1, hi1, ho1⟩ := id h1
  obtain ⟨c2, i2, o2, rfl, hc2, hi2, ho2⟩ := id h2
  obtain ⟨a1, k1, rfl, -, -, -⟩ := id hc1
  obtain ⟨a2, k2, rfl, -, -, -⟩ := id hc2
  by_cases hl : a.cells.length = b.cells.length
  · obtain ⟨i0, hi, hz0, hz1, hz2⟩ := info_parts chgInfo
    have hD : diffP a b = (comps a.cells.length).flatMap (diffAt a b) := by unfold diffP; rw [if_pos hl]
    have hn40 : a.cells.length ≤ 40 := ha.1
    obtain ⟨W, hW⟩ : ∃ W, W = (w.alloc (.cells #[.slice a1 a.cells.length k1, i1, o1] 25)).alloc (.cells #[.slice a2 b.cells.length k2, i2, o2] 25) := ⟨_, rfl⟩
    have hB0 : Below w.heap.size w W := by rw [hW]; exact ((Below.refl _ _).alloc (Nat.le_refl _) _).alloc (by simp) _
    obtain ⟨r0, r1, r2⟩ := three_new w (.slice a1 a.cells.length k1) i1 o1 25
    have q := three_new (w.alloc (.cells #[.slice a1 a.cells.length k1, i1, o1] 25)) (.slice a2 b.cells.length k2) i2 o2 25
    rw [← hW] at q
    have hs1 : (w.alloc (.cells #[.slice a1 a.cells.length k1, i1, o1] 25)).heap.size = w.heap.size + 1 := by simp
    rw [hs1] at q
    obtain ⟨q0, q1, q2⟩ := q
    have p0 := alloc_cell r0 (.cells #[.slice a2 b.cells.length k2, i2, o2] 25)
    have p1 := alloc_cell r1 (.cells #[.slice a2 b.cells.length k2, i2, o2] 25)
    have p2 := alloc_cell r2 (.cells #[.slice a2 b.cells.length k2, i2, o2] 25)
    rw [← hW] at p0 p1 p2
    have hWs : w.heap.size + 1 < W.heap.size := by rw [hW]; simp
    have HA := Lib.hid (h1.below hB0 (Nat.le_refl _))
    have HB := Lib.hid (h2.below hB0 (Nat.le_refl _))
    have HB0 := Lib.hid hB0
    have HL := Lib.hid hl
    have HIA := Lib.hid (part_i64 h1.inSt)
    have HIB := Lib.hid (part_i64 h2.inSt)
    have HWW := Lib.hid hW
    have HSA := Lib.hid ha
    have HSB := Lib.hid hb
    have HD := Lib.hid hD
    rw [← hl] at q0 hW HWW HB ⊢
    generalize hnn : a.cells.length = n at *
    have HLA := Lib.hid hnn
    have he1 : ((n : Int) != (n : Int)) = false := by simp
    have P0 := Lib.hid p0
    clear h1 h2 hc1 hi1 ho1 hc2 hi2 ho2 hs1 hB0 ha hb hD hW hl r0 r1 r2 hnn
    go_enter Try.func16, Try.ntmps16
    go_wp2_with fail
    rw [← HWW.out]
    clear HWW
    have hWs0 : w.heap.size < W.heap.size := by omega
    go_region_held3 (fun w' => w'.cell? ⟨w.heap.size, 0, none⟩ = some (.slice a1 n k1) ∧ w'.cell? ⟨w.heap.size, 1, none⟩ = some i1 ∧ w'.cell? ⟨w.heap.size, 2, none⟩ = some o1 ∧ w'.cell? ⟨w.heap.size + 1, 0, none⟩ = some (.slice a2 n k2) ∧ w'.cell? ⟨w.heap.size + 1, 1, none⟩ = some i2 ∧ w'.cell? ⟨w.heap.size + 1, 2, none⟩ = some o2)
      (first | exact ⟨p0, p1, p2, q0, q1, q2⟩ | exact ⟨cell_below Ha.out hWs0 p0, cell_below Ha.out hWs0 p1, cell_below Ha.out hWs0 p2, cell_below Ha.out hWs q0, cell_below Ha.out hWs q1, cell_below Ha.out hWs q2⟩ | exact ⟨cell_below Hc.out hWs0 p0, cell_below Hc.out hWs0 p1, cell_below Hc.out hWs0 p2, cell_below Hc.out hWs q0, cell_below Hc.out hWs q1, cell_below Hc.out hWs q2⟩)
      (first
        | (go_at_call 34; refine (elements_any a _ _ (by exact HA.out)).mono ?_; rintro e wa ⟨rfl, hba, hb1⟩; have HBA := Lib.hid hba; have Ha : Hid (Below W.heap.size W wa) := ⟨hb1.os, hb1.tape, hb1.output, hb1.size, hb1.block⟩; clear hba hb1)
        | (go_at_call 34; refine (elements_any b _ _ (by exact HB.out.below Ha.out (Nat.le_refl _))).mono ?_; rintro e wc ⟨rfl, hbb, hb2⟩; have HBB := Lib.hid hbb; have HWA : Hid (Below wa.heap.size wa wc) := ⟨hb2.os, hb2.tape, hb2.output, hb2.size, hb2.block⟩; have Hc : Hid (Below W.heap.size W wc) := Ha.out.trans (Below.mono ⟨hb2.os, hb2.tape, hb2.output, hb2.size, hb2.block⟩ Ha.out.size); clear hbb hb2))
    go_wp2_with fail
    have hbw : Below W.heap.size W wc := Hc.out
    have hA1 : BoxAt wa W.heap.size a := HBA.out
    have HBW := Lib.hid (HB0.out.trans (hbw.mono HB0.out.size))
    have HB1 := HBB
    have HA1 : Hid (BoxAt wc W.heap.size a) := hA1.below HWA.out (Nat.le_refl _)
    have hcs : wa.heap.size < wc.heap.size := HB1.out.1
    have has : W.heap.size < wa.heap.size := hA1.1
    generalize W.heap.size = bA at *
    generalize wa.heap.size = bB at *
    have hcsw : bA < wc.heap.size := by omega
    clear HA HB HB0 hWs hWs0 p0 p1 p2 q0 q1 q2 P0 HBA Ha Hc HBB hA1 hbw HWA
    refine (comps_any n (by omega) _).mono ?_
    rintro e w3 ⟨u3, rfl, hown3, hb3⟩
    obtain ⟨a3, k3, rfl⟩ := own_form hown3
    have HC3 := Lib.hid (IntsAt.of_own hown3 (comps_i64 (by omega)))
    have HA3 := Lib.hid (HA1.out.below hb3 (Nat.le_refl _))
    have HB3 := Lib.hid (HB1.out.below hb3 (Nat.le_refl _))
    have HBW3 := Lib.hid (HBW.out.trans (hb3.mono HBW.out.size))
    have hNN : (comps n).length = n + 2 := by simp [comps, compsL]
    generalize hN : (comps n).length = N at *
    have hN42 : N ≤ 42 := by omega
    have HN := Lib.hid hN.symm
    have HNN := Lib.hid hNN
    have hN63 : (N : Int) ≤ 42 := by omega
    clear hown3 hb3 HA1 HB1 HBW hN hNN
    go_wp2
    go_loopg [5, 31] N (fun q v5 i wr => ∃ k : Nat, k + q = N ∧ i = .int .i64 k ∧ wr.ownsRow w3.heap.size 61 4 v5 (((comps n).take k).flatMap (diffAt a b)).length (chgsV (((comps n).take k).flatMap (diffAt a b))) ∧ (((comps n).take k).flatMap (diffAt a b)).length ≤ 100 * k ∧ Below w3.heap.size w3 wr)
    case atStart => exact ⟨0, by omega, rfl, World.ownsRow_nil _ _ _ _, Nat.le_refl _, Below.refl _ _⟩
    case round =>
      obtain ⟨k, hk, rfl, hown, hle, hb⟩ := hrel
      obtain ⟨wo, hwo⟩ : ∃ wo : World, wo = wr := ⟨_, rfl⟩
      subst hwo
      have Hk := Lib.hid hk
      have hkn : k ≤ N := by omega
      have Hown := Lib.hid hown
      have Hle := Lib.hid hle
      have Hb := Lib.hid hb
      clear hk hown hle hb
      by_cases hlt : k < N
      · have hlt' : (k : Int) < (N : Int) := by omega
        obtain ⟨g3, f3, rfl, hg3, hq3⟩ := HC3.out.1.get (by omega)
        obtain ⟨c, hc⟩ := get_lt HN.out hlt
        have m0 := cell_below Hb.out hg3 (hq3 k c hc)
        have HM := Lib.hid (comps_mem (List.mem_of_getElem? hc))
        have HT := Lib.hid (flat_take (diffAt a b) hc)
        clear hq3 hc
        go_wp2_with fail
        refine (elem_any a bA c _ (by exact HA3.out.below Hb.out (Nat.le_refl _)) HSA.out.sized (by rw [HLA.out]; exact HM.out)).mono ?_
        rintro e w4 ⟨u4, rfl, hown4, hb4⟩
        obtain ⟨a4, k4, rfl⟩ := own_form hown4
        have Hown4 := Lib.hid hown4
        have Hb4 := Lib.hid (Hb.out.trans (hb4.mono Hb.out.size))
        have HP4 := Lib.hid (own_below Hown.out hb4)
        clear hown4 hb4
        go_wp2_with fail
        refine (elem_any b bB c _ (by exact HB3.out.below Hb4.out (Nat.le_refl _)) HSB.out.sized (by rw [← HL.out]; exact HM.out)).mono ?_
        rintro e w5 ⟨u5, rfl, hown5, hb5⟩
        obtain ⟨a5, k5, rfl⟩ := own_form hown5
        have HX := Lib.hid (own_below Hown4.out hb5)
        have HY := Lib.hid hown5
        have HP := Lib.hid (own_below HP4.out hb5)
        have Hb5 := Lib.hid (Hb4.out.trans (hb5.mono Hb4.out.size))
        have hE : diffAt a b c = dCell c (part a c) (part b c) := rfl
        have hX60 := HSA.out.len c
        have hY60 := HSB.out.len c
        have HXI := Lib.hid (HIA.out c)
        have HYI := Lib.hid (HIB.out c)
        clear hown5 hb5 Hown4 HP4 Hown
        rw [hE] at HT
        clear hE
        generalize part a c = X at *
        generalize part b c = Y at *
        generalize hnx : X.length = nx at *
        generalize hny : Y.length = ny at *
        have HNX := Lib.hid hnx
        have HNY := Lib.hid hny
        clear hnx hny
        obtain ⟨M, hM⟩ : ∃ M, M = max nx ny := ⟨_, rfl⟩
        have hM60 : M ≤ 60 := by omega
        have hT2 := HT.out
        unfold dCell at hT2
        rw [HNX.out, HNY.out, ← hM, ← List.append_assoc] at hT2
        have HT2 := Lib.hid hT2
        clear hT2 HT
        generalize ((comps n).take k).flatMap (diffAt a b) = C at *
        have hC := Hle.out
        rcases Nat.lt_trichotomy nx ny with hxy | hxy | hxy
        case' inl =>
          have he2 : ((nx : Int) != (ny : Int)) = true := by simp; omega
          have hd : dLen c X Y = [⟨c, -1, nx, ny⟩] := by unfold dLen; rw [HNX.out, HNY.out, if_neg (by omega)]
          have hM1 : M ≤ ny := by omega
          have hM2 : ny ≤ M := by omega
          have HMX : Hid (M = max nx ny) := hM
          have HD2 := Lib.hid hd
          clear hM hd
          go_wp2_with (at_builtin; refine wpList_append_own _ rfl (.tmp 46) (.tmp 53) 30 rfl w3.heap.size 61 i0 _ 4 32 Try.underlying30 hi hz0 hz1 hz2 rfl (by decide) _ _ _ rfl (HP.out.alloc _) ⟨w5.heap.size, 0, none⟩ 1 1 [.int .i64 c, .int .i64 (-1), .int .i64 nx, .int .i64 ny] rfl rfl ?c1 ?c2 ?c3 ?c4 ?c5 ?_)
          case c1 => exact cell_four_new _ _ _ _ _ _
          case c2 => exact ints4_one _ _ _ _
          case c3 => unfold maxLen; omega
          case c4 => omega
          case c5 => have := Hb5.out.size; first | omega | (simp; omega)
          intro v6 w6 hown6 hgrow6 _
          have hb6 := (Hb5.out.alloc Hb5.out.size (.cells #[.int .i64 c, .int .i64 (-1), .int .i64 nx, .int .i64 ny] 61)).grown hgrow6 (by have := Hb5.out.size; simp; omega) (fun j hj => (HP.out.lt j hj).1)
          have HX6 := Lib.hid ((HX.out.alloc (.cells #[.int .i64 c, .int .i64 (-1), .int .i64 nx, .int .i64 ny] 61)).kept hgrow6 (own_own_ne HX.out HP.out (by decide)))
          have HY6 := Lib.hid ((HY.out.alloc (.cells #[.int .i64 c, .int .i64 (-1), .int .i64 nx, .int .i64 ny] 61)).kept hgrow6 (own_own_ne HY.out HP.out (by decide)))
          have Hb6 := Lib.hid hb6
          have e1 : (C ++ dLen c X Y).length = C.length + 1 := by rw [HD2.out]; simp
          have e2 : chgsV (C ++ dLen c X Y) = chgsV C ++ [.int .i64 c, .int .i64 (-1), .int .i64 nx, .int .i64 ny] := by rw [HD2.out, chgsV_app, chgsV_one]; rfl
          rw [← e1, ← e2] at hown6
          have HP6 := Lib.hid hown6
          have HPL : Hid ((C ++ dLen c X Y).length ≤ 100 * k + 1) := by unfold Hid; omega
          clear hown6 hgrow6 hb6 e1 e2 HX HY Hb5 HP HD2
          go_wp2
        case' inr.inr =>
          have he2 : ((nx : Int) != (ny : Int)) = true := by simp; omega
          have hd : dLen c X Y = [⟨c, -1, nx, ny⟩] := by unfold dLen; rw [HNX.out, HNY.out, if_neg (by omega)]
          have hM1 : M ≤ nx := by omega
          have hM2 : nx ≤ M := by omega
          have HMX : Hid (M = max nx ny) := hM
          have HD2 := Lib.hid hd
          clear hM hd
          go_wp2_with (at_builtin; refine wpList_append_own _ rfl (.tmp 46) (.tmp 53) 30 rfl w3.heap.size 61 i0 _ 4 32 Try.underlying30 hi hz0 hz1 hz2 rfl (by decide) _ _ _ rfl (HP.out.alloc _) ⟨w5.heap.size, 0, none⟩ 1 1 [.int .i64 c, .int .i64 (-1), .int .i64 nx, .int .i64 ny] rfl rfl ?d1 ?d2 ?d3 ?d4 ?d5 ?_)
          case d1 => exact cell_four_new _ _ _ _ _ _
          case d2 => exact ints4_one _ _ _ _
          case d3 => unfold maxLen; omega
          case d4 => omega
          case d5 => have := Hb5.out.size; first | omega | (simp; omega)
          intro v6 w6 hown6 hgrow6 _
          have hb6 := (Hb5.out.alloc Hb5.out.size (.cells #[.int .i64 c, .int .i64 (-1), .int .i64 nx, .int .i64 ny] 61)).grown hgrow6 (by have := Hb5.out.size; simp; omega) (fun j hj => (HP.out.lt j hj).1)
          have HX6 := Lib.hid ((HX.out.alloc (.cells #[.int .i64 c, .int .i64 (-1), .int .i64 nx, .int .i64 ny] 61)).kept hgrow6 (own_own_ne HX.out HP.out (by decide)))
          have HY6 := Lib.hid ((HY.out.alloc (.cells #[.int .i64 c, .int .i64 (-1), .int .i64 nx, .int .i64 ny] 61)).kept hgrow6 (own_own_ne HY.out HP.out (by decide)))
          have Hb6 := Lib.hid hb6
          have e1 : (C ++ dLen c X Y).length = C.length + 1 := by rw [HD2.out]; simp
          have e2 : chgsV (C ++ dLen c X Y) = chgsV C ++ [.int .i64 c, .int .i64 (-1), .int .i64 nx, .int .i64 ny] := by rw [HD2.out, chgsV_app, chgsV_one]; rfl
          rw [← e1, ← e2] at hown6
          have HP6 := Lib.hid hown6
          have HPL : Hid ((C ++ dLen c X Y).length ≤ 100 * k + 1) := by unfold Hid; omega
          clear hown6 hgrow6 hb6 e1 e2 HX HY Hb5 HP HD2
          go_wp2
        case' inr.inl =>
          have hd : dLen c X Y = [] := by unfold dLen; rw [HNX.out, HNY.out, if_pos hxy]
          have he2 : ((nx : Int) != (ny : Int)) = false := by simp; omega
          have hM1 : M ≤ nx := by omega
          have hM2 : nx ≤ M := by omega
          have hM3 : M ≤ ny := by omega
          have hM4 : ny ≤ M := by omega
          have HMX : Hid (M = max nx ny) := hM
          have hPe : C ++ dLen c X Y = C := by rw [hd, List.append_nil]
          have hP := HP.out
          rw [← hPe] at hP
          have HP6 := Lib.hid hP
          have HX6 := HX
          have HY6 := HY
          have Hb6 := Hb5
          have HPL : Hid ((C ++ dLen c X Y).length ≤ 100 * k + 1) := by unfold Hid; rw [hPe]; omega
          clear hM hd hP hPe HP HX HY Hb5 hxy
          go_wp2
        all_goals
          clear he2
          generalize C ++ dLen c X Y = P at *
          go_loopg [5, 60] M (fun q v i wr => ∃ j : Nat, j + q = M ∧ i = .int .i64 j ∧ wr.ownsRow w3.heap.size 61 4 v (P ++ dEls c X Y j).length (chgsV (P ++ dEls c X Y j)) ∧ wr.ownsRow wo.heap.size 3 1 (.slice a4 nx k4) nx (intsV X) ∧ (∃ B, wr.ownsRow B 3 1 (.slice a5 ny k5) ny (intsV Y)) ∧ Below w3.heap.size w3 wr)
          case atStart => exact ⟨0, by omega, rfl, by simpa [dEls] using HP6.out, HX6.out, ⟨_, HY6.out⟩, Hb6.out⟩
          case round =>
            obtain ⟨j, hj, rfl, hown, hx, ⟨By, hy⟩, hb⟩ := hrel
            have Hj := Lib.hid hj
            have hjm : j ≤ M := by omega
            have Hown := Lib.hid hown
            have Hx := Lib.hid hx
            have Hy := Lib.hid hy
            have Hbb := Lib.hid hb
            clear hj hown hx hy hb HP6 HX6 HY6 Hb6
            by_cases hjt : j < M
            · have hj1 : (j : Int) < (M : Int) := by omega
              have HIX : Hid (IntsAt wr (.slice a4 nx k4) X) := by
                have h := Hx.out
                rw [← HNX.out] at h ⊢
                exact IntsAt.of_own h HXI.out
              have HIY : Hid (IntsAt wr (.slice a5 ny k5) Y) := by
                have h := Hy.out
                rw [← HNY.out] at h ⊢
                exact IntsAt.of_own h HYI.out
              have HTT := Lib.hid (dEls_succ c X Y j)
              have HO : dOne c X Y j = if X.getD j 0 = Y.getD j 0 then [] else [⟨c, j, X.getD j 0, Y.getD j 0⟩] := rfl
              have hlen := dEls_len c X Y j
              have hPL := HPL.out
              have hPd : (P ++ dEls c X Y j).length ≤ 100 * k + 1 + j := by rw [List.length_append]; omega
              have HEX := Lib.hid (element_any X (.slice a4 nx k4) j (by omega) wr HIX.out)
              have HEY := Lib.hid (element_any Y (.slice a5 ny k5) j (by omega) wr HIY.out)
              generalize X.getD j 0 = p at *
              generalize Y.getD j 0 = q at *
              generalize dEls c X Y j = E at *
              have hsz := Hbb.out.size
              by_cases hpq : p = q
              · rw [if_pos hpq] at HO
                have he3 : (p != q) = false := by simpa using hpq
                have HO2 := Lib.hid HO
                clear HO hpq
                go_wp2_with fail
                refine HEX.out.mono ?_
                rintro e w7 ⟨rfl, rfl⟩
                go_wp2_with fail
                refine HEY.out.mono ?_
                rintro e w8 ⟨rfl, rfl⟩
                go_wp2
                have hj := Hj.out
                go_roundg (M - (j + 1))
                case measure => omega
                case rel =>
                  refine ⟨j + 1, by omega, by go_num, ?_, Hx.out, ⟨_, Hy.out⟩, Hbb.out⟩
                  rw [HTT.out, HO2.out, List.append_nil]
                  exact Hown.out
              · rw [if_neg hpq] at HO
                have he3 : (p != q) = true := by simpa using hpq
                have HO2 := Lib.hid HO
                clear HO hpq
                go_wp2_with fail
                refine HEX.out.mono ?_
                rintro e w7 ⟨rfl, rfl⟩
                go_wp2_with fail
                refine HEY.out.mono ?_
                rintro e w8 ⟨rfl, rfl⟩
                go_wp2_with (at_builtin; refine wpList_append_own _ rfl (.tmp 72) (.tmp 78) 30 rfl w3.heap.size 61 i0 _ 4 32 Try.underlying30 hi hz0 hz1 hz2 rfl (by decide) _ _ _ rfl (Hown.out.alloc _) ⟨w8.heap.size, 0, none⟩ 1 1 [.int .i64 c, .int .i64 j, .int .i64 p, .int .i64 q] rfl rfl ?_ ?_ ?_ ?_ ?_ ?_; exact cell_four_new _ _ _ _ _ _; exact ints4_one _ _ _ _; (unfold maxLen; omega); omega; (simp; omega); intro v9 w9 hown9 hgrow9 _)
                have hb9 := (Hbb.out.alloc hsz (.cells #[.int .i64 c, .int .i64 j, .int .i64 p, .int .i64 q] 61)).grown hgrow9 (by simp; omega) (fun j hj => (Hown.out.lt j hj).1)
                have HX9 := Lib.hid ((Hx.out.alloc (.cells #[.int .i64 c, .int .i64 j, .int .i64 p, .int .i64 q] 61)).kept hgrow9 (own_own_ne Hx.out Hown.out (by decide)))
                have HY9 := Lib.hid ((Hy.out.alloc (.cells #[.int .i64 c, .int .i64 j, .int .i64 p, .int .i64 q] 61)).kept hgrow9 (own_own_ne Hy.out Hown.out (by decide)))
                have Hb9 := Lib.hid hb9
                have Hown9 := Lib.hid hown9
                clear hown9 hgrow9 hb9 Hown Hx Hy Hbb
                go_wp2
                have hj := Hj.out
                go_roundg (M - (j + 1))
                case measure => omega
                case rel =>
                  refine ⟨j + 1, by omega, by go_num, ?_, HX9.out, ⟨_, HY9.out⟩, Hb9.out⟩
                  rw [HTT.out, HO2.out, ← List.append_assoc, chgsV_app _ [_], chgsV_one]
                  have e : (P ++ E ++ [(⟨c, j, p, q⟩ : Chg)]).length = (P ++ E).length + 1 := by simp; omega
                  rw [e]
                  exact Hown9.out
            · have hge : ¬ (j : Int) < (M : Int) := by omega
              have hjM : j = M := by omega
              subst hjM
              have hown := Hown.out
              rw [← HT2.out] at hown
              have hle : (((comps n).take (k + 1)).flatMap (diffAt a b)).length ≤ 100 * (k + 1) := by
                rw [HT2.out, List.length_append]
                have := dEls_len c X Y j
                have := HPL.out
                omega
              have HL2 := Lib.hid hle
              have HO2 := Lib.hid hown
              have Hb2 := Lib.hid Hbb.out
              clear hown hle Hown Hx Hy Hbb
              go_wp2
              have hk := Hk.out
              go_roundg (N - (k + 1))
              case measure => omega
              case rel => exact ⟨k + 1, by omega, by go_num, HO2.out, HL2.out, Hb2.out⟩
      · have hge : ¬ (k : Int) < (N : Int) := by omega
        have hown := Hown.out
        rw [List.take_of_length_le (by rw [← HN.out]; omega), ← HD.out] at hown
        have HO2 := Lib.hid hown
        have hsz := HBW3.out.size
        clear hown Hown
        go_wp2
        go_ret
        exact ⟨_, rfl, World.ownsRow.mono HO2.out hsz, HBW3.out.trans (Hb.out.mono hsz)⟩
  · have hD : diffP a b = [] := by unfold diffP; rw [if_neg hl]
    rw [hD]
    generalize a.cells.length = n at *
    generalize b.cells.length = n' at *
    have he1 : ((n : Int) != (n' : Int)) = true := by simp; omega
    clear h1 h2 hc1 hi1 ho1 hc2 hi2 ho2 ha hb hD
    go_enter Try.func16, Try.ntmps16
    go_wp2
    go_ret
    exact ⟨_, rfl, World.ownsRow_nil _ _ _ _, ((Below.refl _ _).alloc (Nat.le_refl _) _).alloc (by simp) _⟩

end Go.Proofs.Ytpbbiidfahaamaa
