/- What the laws are given, opened: an image, a machine; the table. -/
import Derived.Test.YtichiccohmeecaaDoorWhMa
import Derived.Test.YtichiccohmeecaaDoorRows
import Derived.ProofKit
import Derived.OpenShut
import Derived.Lib.SmallJoins
import Derived.Lib.LaidTab
namespace Go.Proofs.YtichiccohmeecaaDoor
open Go.RowKit Go.ChangeShapes Go.WideShapes Go.Deep

theorem list_of {α : Type} (n : Nat) (p : Nat → α → Prop) (h : ∀ i, i < n → ∃ x, p i x) : ∃ l : List α, l.length = n ∧ ∀ i x, l[i]? = some x → p i x := by
  induction n with
  | zero => exact ⟨[], rfl, fun i x hx => by simp at hx⟩
  | succ n ih =>
    obtain ⟨l, hl, hp⟩ := ih (fun i hi => h i (by omega))
    obtain ⟨x, hx⟩ := h n (by omega)
    refine ⟨l ++ [x], by simp [hl], fun i y hy => ?_⟩
    rcases Nat.lt_or_ge i n with hi | hi
    · rw [List.getElem?_append_left (by omega)] at hy
      exact hp i y hy
    · rw [List.getElem?_append_right (by omega)] at hy
      have : i - l.length = 0 := by
        rcases Nat.eq_zero_or_pos (i - l.length) with h0 | h0
        · exact h0
        · rw [List.getElem?_eq_none (by simp; omega)] at hy; cases hy
      rw [this] at hy
      simp only [List.getElem?_cons_zero, Option.some.injEq] at hy
      subst hy
      have : i = n := by omega
      subst this
      exact hx

theorem i64_of {x : Int} (h : (Lit.int .i64 x).wf = true) : I64 x := by
  simpa [Lit.wf, IntKind.min, IntKind.max, IntKind.signed, IntKind.bits, I64] using h
theorem u8_of {x : Int} (h : (Lit.int .u8 x).wf = true) : ∃ n : Nat, x = n ∧ n ≤ 255 := by
  have h' : 0 ≤ x ∧ x ≤ 255 := by simpa [Lit.wf, IntKind.min, IntKind.max, IntKind.signed, IntKind.bits] using h
  obtain ⟨n, rfl⟩ := Int.eq_ofNat_of_zero_le h'.1
  exact ⟨n, rfl, by omega⟩

theorem cellsInt : Tryd.prog.cellsOf 3 = 1 := by kernel_rfl
theorem cellsU8 : Tryd.prog.cellsOf 5 = 1 := by kernel_rfl
theorem cellsBool : Tryd.prog.cellsOf 4 = 1 := by kernel_rfl
theorem cellsInts : Tryd.prog.cellsOf 26 = 1 := by kernel_rfl
theorem cellsRows : Tryd.prog.cellsOf 27 = 1 := by kernel_rfl
theorem cellsActs : Tryd.prog.cellsOf 28 = 1 := by kernel_rfl
theorem cellsAct : Tryd.prog.cellsOf 53 = 2 := by kernel_rfl
theorem cellsIns : Tryd.prog.cellsOf 45 = 5 := by kernel_rfl
theorem cellsIm : Tryd.prog.cellsOf 24 = 3 := by kernel_rfl
theorem cellsRegs : Tryd.prog.cellsOf 25 = 16 := by kernel_rfl
theorem cellsMach : Tryd.prog.cellsOf 30 = 25 := by kernel_rfl

theorem nil_nilOK : NilOK (.slice none 0 0) := fun n c hv => by injection hv with _ _ h; exact h.symm
theorem some_nilOK {a : Addr} {n c : Nat} : NilOK (.slice (some a) n c) := fun n' c' hv => by injection hv with h; cases h
def LtH (w : World) (j : Nat) : Prop := j < w.heap.size

section
variable {H : Type} {enc : TypeId × Value → H} {w : World} {sp : Nat → Bool} {held : Bool} {base : Nat}

theorem ints_open {fuel : Nat} {v : Value} {x : DataW H × List MemPlace} (h : DataW.trod enc Tryd.prog w base sp held fuel 26 [v] = some x) : ∃ l, IntsIn (LtH w) w v l ∧ ∀ y ∈ l, I64 y := by
  rcases open_ints Tryd.underlying26 Tryd.underlying3 cellsInt h with ⟨hcs, _⟩ | ⟨a, len, cap, zs, hcs, _, hl, hm, hz, _, hcell, hwz⟩
  · simp at hcs
    subst hcs
    exact ⟨[], ⟨⟨none, 0, rfl, Nat.le_refl _, by unfold maxLen; omega, fun h => absurd h (by decide)⟩, nil_nilOK⟩, by simp⟩
  · simp at hcs
    subst hcs
    have hlz : len ≤ zs.length := by rw [hz]; split <;> omega
    have hlen : (zs.take len).length = len := by rw [List.length_take]; omega
    refine ⟨zs.take len, ⟨⟨some a, cap, by rw [hlen], by omega, hm, fun hp => ?_⟩, some_nilOK⟩, fun y hy => i64_of (hwz y (List.mem_of_mem_take hy))⟩
    obtain ⟨b, off, spot⟩ := a
    have k0 := hcell 0 (by omega)
    have hspot : spot = none := by simpa [Addr.add] using World.cell?_spot k0
    subst hspot
    have hb : b < w.heap.size := by simpa [Addr.add] using World.block_lt_of_cell? w _ k0
    refine ⟨b, off, rfl, hb, hb, fun i y hy => ?_⟩
    rw [List.getElem?_take] at hy
    split at hy
    · have := hcell i (by omega)
      rw [Go.WideShapes.add_plain] at this
      rw [this, List.getD_eq_getElem?_getD, hy]
      rfl
    · cases hy

theorem rows_open {fuel : Nat} {v : Value} {x : DataW H × List MemPlace} (h : DataW.trod enc Tryd.prog w base sp held fuel 27 [v] = some x) : ∃ L, RowsIn (LtH w) w v L ∧ ∀ s ∈ L, ∀ y ∈ s, I64 y := by
  rcases open_slice1 Tryd.underlying27 cellsInts h with ⟨hcs, _⟩ | ⟨a, len, cap, m, n, V, D, Pl, hcs, _, hl, hm, hmm, _, hi⟩
  · simp at hcs
    exact ⟨[], ⟨none, 0, hcs, Nat.le_refl _, by unfold maxLen; omega, fun h => absurd h (by decide)⟩, by simp⟩
  · simp at hcs
    have hlm : len ≤ m := by rw [hmm]; split <;> omega
    obtain ⟨L, hL, hp⟩ := list_of len (fun i l => w.cell? (a.add i) = some (V i) ∧ IntsIn (LtH w) w (V i) l ∧ ∀ y ∈ l, I64 y) (fun i hil => by
      obtain ⟨h1, h2⟩ := hi i (by omega)
      obtain ⟨l, hl⟩ := ints_open h2
      exact ⟨l, h1, hl⟩)
    refine ⟨L, ⟨some a, cap, by rw [hL]; exact hcs, by omega, hm, fun hp0 => ?_⟩, fun s hs => ?_⟩
    · obtain ⟨b, off, spot⟩ := a
      have k0 := (hi 0 (by omega)).1
      have hspot : spot = none := by simpa [Addr.add] using World.cell?_spot k0
      subst hspot
      have hb : b < w.heap.size := by simpa [Addr.add] using World.block_lt_of_cell? w _ k0
      refine ⟨b, off, rfl, hb, hb, fun i l hl => ?_⟩
      obtain ⟨h1, h2, _⟩ := hp i l hl
      rw [Go.WideShapes.add_plain] at h1
      exact ⟨_, h1, h2⟩
    · obtain ⟨i, hi⟩ := List.getElem?_of_mem hs
      exact (hp i s hi).2.2

theorem acts_open {fuel : Nat} {v : Value} {x : DataW H × List MemPlace} (h : DataW.trod enc Tryd.prog w base sp held fuel 28 [v] = some x) : ∃ l, ActsIn (LtH w) w v l := by
  rcases open_slice Tryd.underlying28 h with ⟨hcs, _⟩ | ⟨a, len, cap, m, n, D, Pl, hcs, _, hl, hm, hmm, _, hi⟩
  · simp at hcs
    subst hcs
    exact ⟨[], ⟨none, 0, rfl, Nat.le_refl _, by unfold maxLen; omega, fun h => absurd h (by decide)⟩, nil_nilOK⟩
  · simp at hcs
    subst hcs
    have hlm : len ≤ m := by rw [hmm]; split <;> omega
    obtain ⟨L, hL, hp⟩ := list_of len (fun i (c : Int × Bool) => w.cell? (a.add (i * 2)) = some (.int .i64 c.1) ∧ w.cell? (a.add (i * 2 + 1)) = some (.bool c.2)) (fun i hil => by
      obtain ⟨cs', hc, ht'⟩ := hi i (by omega)
      rw [cellsAct] at hc
      obtain ⟨_, hcl, hat⟩ := World.cells?_some hc
      obtain ⟨xs, n', _, _, _, hxl, hff⟩ := DataW.trod_struct Tryd.underlying53 ht'
      match cs', hcl, xs, hxl with
      | [c0, c1], _, [x0, x1], _ =>
        have g0 : DataW.trod enc Tryd.prog w base sp held n' 3 (([c0, c1].drop 0).take (Tryd.prog.cellsOf 3)) = some x0 := hff 0 _ rfl
        have g1 : DataW.trod enc Tryd.prog w base sp held n' 4 (([c0, c1].drop 1).take (Tryd.prog.cellsOf 4)) = some x1 := hff 1 _ rfl
        rw [cellsInt] at g0; rw [cellsBool] at g1
        obtain ⟨p0, e0, _, _⟩ := DataW.trod_int Tryd.underlying3 g0
        obtain ⟨p1, e1, _⟩ := DataW.trod_bool Tryd.underlying4 g1
        simp at e0 e1
        subst e0 e1
        have k0 := hat 0 (by omega)
        have k1 := hat 1 (by omega)
        rw [Go.Deep.add_add] at k0 k1
        exact ⟨(p0, p1), k0, k1⟩)
    refine ⟨L, ⟨some a, cap, by rw [hL], by omega, hm, fun hp0 => ?_⟩, some_nilOK⟩
    obtain ⟨b, off, spot⟩ := a
    obtain ⟨d0, hd0⟩ : ∃ d, L[0]? = some d := ⟨_, List.getElem?_eq_getElem hp0⟩
    have k0 := (hp 0 d0 hd0).1
    have hspot : spot = none := by simpa [Addr.add] using World.cell?_spot k0
    subst hspot
    have hb : b < w.heap.size := by simpa [Addr.add] using World.block_lt_of_cell? w _ k0
    refine ⟨b, off, rfl, hb, hb, fun i d hd => ?_⟩
    have h1 := hp i d hd
    simp only [Go.WideShapes.add_plain] at h1
    exact h1

theorem codes_open {fuel : Nat} {v : Value} {x : DataW H × List MemPlace} (h : DataW.trod enc Tryd.prog w base sp held fuel 22 [v] = some x) : ∃ C, CodeIn (LtH w) w v C := by
  rcases open_slice Tryd.underlying22 h with ⟨hcs, _⟩ | ⟨a, len, cap, m, n, D, Pl, hcs, _, hl, hm, hmm, _, hi⟩
  · simp at hcs
    exact ⟨[], none, 0, hcs, Nat.le_refl _, by unfold maxLen; omega, fun h => absurd h (by decide)⟩
  · simp at hcs
    have hlm : len ≤ m := by rw [hmm]; split <;> omega
    obtain ⟨L, hL, hp⟩ := list_of len (fun i (c : Ins) => w.cell? (a.add (i * 5)) = some (.int .u8 c.op) ∧ w.cell? (a.add (i * 5 + 1)) = some (.int .i64 c.a) ∧ w.cell? (a.add (i * 5 + 2)) = some (.int .i64 c.b) ∧ w.cell? (a.add (i * 5 + 3)) = some (.int .i64 c.c) ∧ w.cell? (a.add (i * 5 + 4)) = some (.int .i64 c.d)) (fun i hil => by
      obtain ⟨cs', hc, ht'⟩ := hi i (by omega)
      rw [cellsIns] at hc
      obtain ⟨_, hcl, hat⟩ := World.cells?_some hc
      obtain ⟨xs, n', _, _, _, hxl, hff⟩ := DataW.trod_struct Tryd.underlying45 ht'
      match cs', hcl, xs, hxl with
      | [c0, c1, c2, c3, c4], _, [x0, x1, x2, x3, x4], _ =>
        have g0 : DataW.trod enc Tryd.prog w base sp held n' 5 (([c0, c1, c2, c3, c4].drop 0).take (Tryd.prog.cellsOf 5)) = some x0 := hff 0 _ rfl
        have g1 : DataW.trod enc Tryd.prog w base sp held n' 3 (([c0, c1, c2, c3, c4].drop 1).take (Tryd.prog.cellsOf 3)) = some x1 := hff 1 _ rfl
        have g2 : DataW.trod enc Tryd.prog w base sp held n' 3 (([c0, c1, c2, c3, c4].drop 2).take (Tryd.prog.cellsOf 3)) = some x2 := hff 2 _ rfl
        have g3 : DataW.trod enc Tryd.prog w base sp held n' 3 (([c0, c1, c2, c3, c4].drop 3).take (Tryd.prog.cellsOf 3)) = some x3 := hff 3 _ rfl
        have g4 : DataW.trod enc Tryd.prog w base sp held n' 3 (([c0, c1, c2, c3, c4].drop 4).take (Tryd.prog.cellsOf 3)) = some x4 := hff 4 _ rfl
        rw [cellsU8] at g0; rw [cellsInt] at g1 g2 g3 g4
        obtain ⟨p0, e0, _, w0⟩ := DataW.trod_int Tryd.underlying5 g0
        obtain ⟨p1, e1, _, _⟩ := DataW.trod_int Tryd.underlying3 g1
        obtain ⟨p2, e2, _, _⟩ := DataW.trod_int Tryd.underlying3 g2
        obtain ⟨p3, e3, _, _⟩ := DataW.trod_int Tryd.underlying3 g3
        obtain ⟨p4, e4, _, _⟩ := DataW.trod_int Tryd.underlying3 g4
        simp at e0 e1 e2 e3 e4
        subst e0 e1 e2 e3 e4
        have k0 := hat 0 (by omega)
        have k1 := hat 1 (by omega)
        have k2 := hat 2 (by omega)
        have k3 := hat 3 (by omega)
        have k4 := hat 4 (by omega)
        rw [Go.Deep.add_add] at k0 k1 k2 k3 k4
        obtain ⟨q, rfl, _⟩ := u8_of w0
        exact ⟨⟨q, p1, p2, p3, p4⟩, k0, k1, k2, k3, k4⟩)
    refine ⟨L, some a, cap, by rw [hL]; exact hcs, by omega, hm, fun hp0 => ?_⟩
    obtain ⟨b, off, spot⟩ := a
    obtain ⟨d0, hd0⟩ : ∃ d, L[0]? = some d := ⟨_, List.getElem?_eq_getElem hp0⟩
    have k0 := (hp 0 d0 hd0).1
    have hspot : spot = none := by simpa [Addr.add] using World.cell?_spot k0
    subst hspot
    have hb : b < w.heap.size := by simpa [Addr.add] using World.block_lt_of_cell? w _ k0
    refine ⟨b, off, rfl, hb, hb, fun i d hd => ?_⟩
    have h1 := hp i d hd
    simp only [Go.WideShapes.add_plain] at h1
    exact h1

theorem im_top {r : Reach} {b0 : Nat} {v : Value} {d : DataW H} {p : List MemPlace} (hv : Value.okWide Tryd.prog w r b0 24 v) (h : DataW.Trod enc Tryd.prog w base sp held 24 v d p) : ∃ vc im, v = imV vc im ∧ CodeIn (LtH w) w vc im.code := by
  obtain ⟨v0, v1, v2, y0, y1, y2, n, rfl, _, _, h0, h1, h2⟩ := Joins.open_agg3 Tryd.underlying24 (by kernel_rfl) cellsIm hv h
  obtain ⟨C, hC⟩ := codes_open h0
  obtain ⟨p1, e1, _, _⟩ := DataW.trod_int Tryd.underlying3 h1
  obtain ⟨p2, e2, _, _⟩ := DataW.trod_int Tryd.underlying3 h2
  simp at e1 e2
  subst e1 e2
  exact ⟨v0, ⟨C, p1, p2⟩, rfl, hC⟩

theorem one_at {L : List Value} {k : Nat} (hk : k < L.length) : (L.drop k).take 1 = [L[k]] := by
  rw [List.drop_eq_getElem_cons hk]
  rfl

theorem mach_top {r : Reach} {b0 : Nat} {v : Value} {d : DataW H} {p : List MemPlace} (hv : Value.okWide Tryd.prog w r b0 30 v) (h : DataW.Trod enc Tryd.prog w base sp held 30 v d p) : ∃ m V, v = .agg (mcs m V) ∧ RowsR (LtH w) w m V ∧ m.Big := by
  obtain ⟨cs, rfl, hsz⟩ := okWide_struct Tryd.underlying30 hv
  rw [cellsMach] at hsz
  obtain ⟨fuel, hf⟩ := h
  obtain ⟨L, hL⟩ : ∃ L, cs.toList = L := ⟨_, rfl⟩
  have hl : L.length = 25 := by rw [← hL]; simpa using hsz
  have hcs : cs = L.toArray := by rw [← hL]
  have hf : DataW.trod enc Tryd.prog w base sp held fuel 30 L = some (d, p) := by rw [← hL]; exact hf
  obtain ⟨xs, n', _, _, _, hxl, hff⟩ := DataW.trod_struct Tryd.underlying30 hf
  have hxl : xs.length = 10 := hxl
  have hx : ∀ j, j < 10 → ∃ x, xs[j]? = some x := fun j hj => ⟨_, List.getElem?_eq_getElem (by omega)⟩
  have one : ∀ (t : TypeId) (k j : Nat) (hk : k < L.length), Tryd.prog.cellsOf t = 1 → j < 10 → DataW.trod enc Tryd.prog w base sp held n' t ((L.drop k).take (Tryd.prog.cellsOf t)) = xs[j]? → ∃ x, DataW.trod enc Tryd.prog w base sp held n' t [L[k]] = some x := fun t k j hk hc hj h => by
    obtain ⟨x, hx⟩ := hx j hj
    rw [hc, one_at hk, hx] at h
    exact ⟨x, h⟩
  have int : ∀ (k j : Nat) (hk : k < L.length), j < 10 → DataW.trod enc Tryd.prog w base sp held n' 3 ((L.drop k).take (Tryd.prog.cellsOf 3)) = xs[j]? → ∃ z, L[k] = .int .i64 z ∧ I64 z := fun k j hk hj h => by
    obtain ⟨x, h⟩ := one _ k j hk cellsInt hj h
    obtain ⟨z, e, _, hw⟩ := DataW.trod_int Tryd.underlying3 h
    simp at e
    exact ⟨z, e, i64_of hw⟩
  obtain ⟨pc, e0, _⟩ := int 0 0 (by omega) (by omega) (hff 0 _ rfl)
  obtain ⟨dir, e1, _⟩ := int 1 1 (by omega) (by omega) (hff 1 _ rfl)
  obtain ⟨fp, e21, _⟩ := int 21 6 (by omega) (by omega) (hff 6 _ rfl)
  obtain ⟨sb, e22, _⟩ := int 22 7 (by omega) (by omega) (hff 7 _ rfl)
  obtain ⟨_, h3⟩ := one _ 18 3 (by omega) cellsInts (by omega) (hff 3 _ rfl)
  obtain ⟨_, h4⟩ := one _ 19 4 (by omega) cellsRows (by omega) (hff 4 _ rfl)
  obtain ⟨_, h5⟩ := one _ 20 5 (by omega) cellsActs (by omega) (hff 5 _ rfl)
  obtain ⟨_, h8⟩ := one _ 23 8 (by omega) cellsInts (by omega) (hff 8 _ rfl)
  obtain ⟨_, h9⟩ := one _ 24 9 (by omega) cellsInts (by omega) (hff 9 _ rfl)
  obtain ⟨M, hM, bM⟩ := ints_open h3
  obtain ⟨S, hS, bS⟩ := rows_open h4
  obtain ⟨A, hA⟩ := acts_open h5
  obtain ⟨I, hI, bI⟩ := ints_open h8
  obtain ⟨O, hO, bO⟩ := ints_open h9
  obtain ⟨x2, hx2⟩ := hx 2 (by omega)
  have h2 : DataW.trod enc Tryd.prog w base sp held n' 25 ((L.drop 2).take (Tryd.prog.cellsOf 25)) = some x2 := (hff 2 _ rfl).trans hx2
  rw [cellsRegs] at h2
  obtain ⟨ys, m', _, _, _, hyl, hat⟩ := DataW.trod_array Tryd.underlying25 h2
  obtain ⟨R, hR, hRp⟩ := list_of 16 (fun i (x : Int) => L[2 + i]? = some (.int .i64 x) ∧ I64 x) (fun i hi => by
    have h := hat i hi
    rw [cellsInt, Nat.mul_one, List.getElem?_eq_getElem (by omega)] at h
    have e : (List.drop i (List.take 16 (List.drop 2 L))).take 1 = [L[2 + i]'(by omega)] := by
      rw [one_at (by simp; omega)]
      simp
    rw [e] at h
    obtain ⟨z, e, _, hw⟩ := DataW.trod_int Tryd.underlying3 h
    simp at e
    exact ⟨z, by rw [List.getElem?_eq_getElem (by omega), e], i64_of hw⟩)
  have hRg : ∀ i, i < 16 → L[2 + i]? = some (.int .i64 (R.getD i 0)) := fun i hi => by
    have e : R[i]? = some (R.getD i 0) := by rw [List.getD_eq_getElem?_getD, List.getElem?_eq_getElem (by omega)]; rfl
    exact (hRp i _ e).1
  refine ⟨⟨pc, dir, fun j => R.getD j 0, M, S, A, fp, sb, I, O⟩, ⟨L[18], L[19], L[20], L[23], L[24], []⟩, ?_, ⟨hM, hS, hA, hI, hO⟩, fun j => ?_, bM, bS, bI, bO⟩
  · congr 1
    rw [hcs]
    apply Array.ext_getElem?
    intro i
    by_cases hi : i < 25
    · rw [mcs_get _ _ hi, List.getElem?_toArray]
      have : i = 0 ∨ i = 1 ∨ (∃ b, b < 16 ∧ i = 2 + b) ∨ i = 18 ∨ i = 19 ∨ i = 20 ∨ i = 21 ∨ i = 22 ∨ i = 23 ∨ i = 24 := by
        by_cases h1 : i < 2
        · omega
        · by_cases h2 : i < 18
          · exact .inr (.inr (.inl ⟨i - 2, by omega, by omega⟩))
          · omega
      rcases this with rfl | rfl | ⟨b, hb, rfl⟩ | rfl | rfl | rfl | rfl | rfl | rfl | rfl
      · rw [List.getElem?_eq_getElem (by omega), e0]; rfl
      · rw [List.getElem?_eq_getElem (by omega), e1]; rfl
      · rw [hRg b hb, mf_reg _ _ hb]
      · rw [List.getElem?_eq_getElem (by omega)]; rfl
      · rw [List.getElem?_eq_getElem (by omega)]; rfl
      · rw [List.getElem?_eq_getElem (by omega)]; rfl
      · rw [List.getElem?_eq_getElem (by omega), e21]; rfl
      · rw [List.getElem?_eq_getElem (by omega), e22]; rfl
      · rw [List.getElem?_eq_getElem (by omega)]; rfl
      · rw [List.getElem?_eq_getElem (by omega)]; rfl
    · rw [Array.getElem?_eq_none (by simpa [hl] using hi), Array.getElem?_eq_none (by rw [mcs_size]; omega)]
  · show I64 (R.getD j 0)
    rw [List.getD_eq_getElem?_getD]
    cases hj : R[j]? with
    | none => exact zero_big
    | some x => exact (hRp j x hj).2
end

end Go.Proofs.YtichiccohmeecaaDoor

/- The table of the instruction set, as it is laid. -/
namespace Go.Proofs.YtichiccohmeecaaDoor
open Go.RowKit Go.ChangeShapes Go.WideShapes Go.Deep

theorem gTab : Tryd.prog.globalNamed "backstep/isa.table" = some 0 := by kernel_rfl
theorem gTabType : (Tryd.prog.globals[0]?).map (·.type) = some 76 := by kernel_rfl
theorem cellsTab : Tryd.prog.cellsOf 76 = 70 := by kernel_rfl
theorem cellsRow : Tryd.prog.cellsOf 75 = 2 := by kernel_rfl
def tabRows : List (DataW Unit) := [.agg [.lit (.string [110, 111, 112]), .lit (.int .i64 0)], .agg [.lit (.string [97, 100, 100]), .lit (.int .i64 2)], .agg [.lit (.string [115, 117, 98]), .lit (.int .i64 2)], .agg [.lit (.string [120, 111, 114]), .lit (.int .i64 2)], .agg [.lit (.string [97, 100, 100, 105]), .lit (.int .i64 2)], .agg [.lit (.string [115, 117, 98, 105]), .lit (.int .i64 2)], .agg [.lit (.string [120, 111, 114, 105]), .lit (.int .i64 2)], .agg [.lit (.string [115, 119, 97, 112]), .lit (.int .i64 2)], .agg [.lit (.string [110, 101, 103]), .lit (.int .i64 1)], .agg [.lit (.string [99, 97, 108, 99]), .lit (.int .i64 4)], .agg [.lit (.string [109, 101, 109]), .lit (.int .i64 2)], .agg [.lit (.string [105, 100, 120]), .lit (.int .i64 4)], .agg [.lit (.string [112, 117, 115, 104]), .lit (.int .i64 2)], .agg [.lit (.string [112, 111, 112]), .lit (.int .i64 2)], .agg [.lit (.string [116, 111, 112]), .lit (.int .i64 2)], .agg [.lit (.string [115, 105, 122, 101]), .lit (.int .i64 2)], .agg [.lit (.string [115, 119, 97, 112, 115]), .lit (.int .i64 2)], .agg [.lit (.string [114, 101, 97, 100]), .lit (.int .i64 1)], .agg [.lit (.string [117, 110, 114, 101, 97, 100]), .lit (.int .i64 1)], .agg [.lit (.string [119, 114, 105, 116, 101]), .lit (.int .i64 1)], .agg [.lit (.string [117, 110, 119, 114, 105, 116, 101]), .lit (.int .i64 1)], .agg [.lit (.string [122, 101, 114, 111]), .lit (.int .i64 2)], .agg [.lit (.string [106, 109, 112]), .lit (.int .i64 1)], .agg [.lit (.string [106, 109, 112, 122]), .lit (.int .i64 2)], .agg [.lit (.string [106, 109, 112, 110]), .lit (.int .i64 2)], .agg [.lit (.string [108, 97, 110, 100]), .lit (.int .i64 1)], .agg [.lit (.string [108, 97, 110, 100, 122]), .lit (.int .i64 2)], .agg [.lit (.string [108, 97, 110, 100, 110]), .lit (.int .i64 2)], .agg [.lit (.string [102, 114, 97, 109, 101]), .lit (.int .i64 2)], .agg [.lit (.string [117, 110, 102, 114, 97, 109, 101]), .lit (.int .i64 2)], .agg [.lit (.string [99, 97, 108, 108]), .lit (.int .i64 1)], .agg [.lit (.string [117, 110, 99, 97, 108, 108]), .lit (.int .i64 1)], .agg [.lit (.string [115, 116, 97, 114, 116]), .lit (.int .i64 1)], .agg [.lit (.string [101, 110, 100]), .lit (.int .i64 1)], .agg [.lit (.string [104, 97, 108, 116]), .lit (.int .i64 0)]]
theorem tab_row (i : Nat) (hi : i < 35) : ∃ s, tabRows[i]? = some (.agg [.lit s, .lit (.int .i64 (opsL.getD i 0 : Nat))]) := by
  have h : i = 0 ∨ i = 1 ∨ i = 2 ∨ i = 3 ∨ i = 4 ∨ i = 5 ∨ i = 6 ∨ i = 7 ∨ i = 8 ∨ i = 9 ∨ i = 10 ∨ i = 11 ∨ i = 12 ∨ i = 13 ∨ i = 14 ∨ i = 15 ∨ i = 16 ∨ i = 17 ∨ i = 18 ∨ i = 19 ∨ i = 20 ∨ i = 21 ∨ i = 22 ∨ i = 23 ∨ i = 24 ∨ i = 25 ∨ i = 26 ∨ i = 27 ∨ i = 28 ∨ i = 29 ∨ i = 30 ∨ i = 31 ∨ i = 32 ∨ i = 33 ∨ i = 34 := by omega
  rcases h with rfl | rfl | rfl | rfl | rfl | rfl | rfl | rfl | rfl | rfl | rfl | rfl | rfl | rfl | rfl | rfl | rfl | rfl | rfl | rfl | rfl | rfl | rfl | rfl | rfl | rfl | rfl | rfl | rfl | rfl | rfl | rfl | rfl | rfl | rfl
  all_goals exact ⟨_, rfl⟩
theorem table_of {W : World} (h : laidMetH Tryd.prog [("backstep/isa.table", Rows.laid_backstep_isa_table)] W) : TabAt W ∧ 0 < W.heap.size := by
  have h' : laidMet Tryd.prog [("backstep/isa.table", .agg tabRows)] W := h
  obtain ⟨ps, ⟨g', t', cs, fuel, p, q, hg', ht', hvar, hd, _, _⟩, _⟩ := h'
  obtain rfl := Option.some.inj (gTab.symm.trans hg')
  obtain rfl := Option.some.inj (gTabType.symm.trans ht')
  obtain ⟨xs, m, rfl, hx, hl, hn, hat⟩ := DataW.trod_array Tryd.underlying76 hd
  have hT : TabAt W := by
    intro i hi
    have hi2 := hat i hi
    rw [cellsRow] at hi2
    rw [cellsTab] at hl
    obtain ⟨x, hxi⟩ : ∃ x, xs[i]? = some x := ⟨xs[i]'(by omega), List.getElem?_eq_getElem (by omega)⟩
    rw [hxi] at hi2
    obtain ⟨ys, n', _, hy, _, hyl, hff⟩ := DataW.trod_struct Tryd.underlying75 hi2
    have hyl : ys.length = 2 := hyl
    obtain ⟨y0, y1, rfl⟩ : ∃ y0 y1, ys = [y0, y1] := by
      match ys, hyl with
      | [a, b], _ => exact ⟨a, b, rfl⟩
    have g1 : DataW.trod _ Tryd.prog W 0 _ _ n' 3 ((((cs.toList.drop (i * 2)).take 2).drop 1).take (Tryd.prog.cellsOf 3)) = some y1 := hff 1 _ rfl
    rw [cellsInt] at g1
    obtain ⟨z, e1, hz, _⟩ := DataW.trod_int Tryd.underlying3 g1
    have e2 : tabRows = xs.map (·.1) := by
      have := (Prod.mk.inj hx).1
      injection this
    obtain ⟨s, hs⟩ := tab_row i hi
    rw [e2, List.getElem?_map, hxi] at hs
    have hs : x.1 = .agg [.lit s, .lit (.int .i64 (opsL.getD i 0 : Nat))] := Option.some.inj hs
    rw [hy] at hs
    have hs : (DataW.agg [y0.1, y1.1] : DataW Unit) = .agg [.lit s, .lit (.int .i64 (opsL.getD i 0 : Nat))] := hs
    injection hs with hs
    injection hs with _ hs
    injection hs with hs _
    rw [hz] at hs
    injection hs with hs
    injection hs with _ hs
    have e4 : cs[i * 2 + 1]? = some (.int .i64 z) := by
      have h1 : (List.take 1 (List.drop 1 (List.take 2 (List.drop (i * 2) cs.toList))))[0]? = some (Value.int .i64 z) := by rw [e1]; rfl
      rw [List.getElem?_take_of_lt (by omega), List.getElem?_drop, List.getElem?_take_of_lt (by omega), List.getElem?_drop] at h1
      simpa using h1
    have := World.var?_cell gTab hvar (i * 2 + 1)
    rw [this, e4, hs]
  exact ⟨hT, by have := World.block_lt_of_cell? W _ (hT 0 (by omega)); exact this⟩

end Go.Proofs.YtichiccohmeecaaDoor
