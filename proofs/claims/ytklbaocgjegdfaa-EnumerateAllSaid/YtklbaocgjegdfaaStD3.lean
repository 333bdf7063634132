/- The walk of Diff. -/
import Derived.Test.YtklbaocgjegdfaaStD2
import Derived.Test.YtklbaocgjegdfaaStP1
import Derived.WalkLawsBesides
namespace Go.Proofs.Ytklbaocgjegdfaa
open Go.RowKit Go.Lib Go.Sort

def chgV (c : Chg) : List Value := [.int .i64 c.cell, .int .i64 c.pos, .int .i64 c.old, .int .i64 c.new]
def chgsV (C : List Chg) : List Value := C.flatMap chgV
theorem chgsV_app (C D : List Chg) : chgsV (C ++ D) = chgsV C ++ chgsV D := List.flatMap_append
theorem chgsV_one (c : Chg) : chgsV [c] = chgV c := by simp [chgsV]

def dOne (cell : Int) (x y : List Int) (i : Nat) : List Chg := if x.getD i 0 = y.getD i 0 then [] else [⟨cell, i, x.getD i 0, y.getD i 0⟩]
def dEls (cell : Int) (x y : List Int) (m : Nat) : List Chg := (List.range m).flatMap (dOne cell x y)
def dLen (cell : Int) (x y : List Int) : List Chg := if x.length = y.length then [] else [⟨cell, -1, x.length, y.length⟩]
def dCell (cell : Int) (x y : List Int) : List Chg := dLen cell x y ++ dEls cell x y (max x.length y.length)
def diffAt (a b : St) (c : Int) : List Chg := dCell c (part a c) (part b c)
def diffP (a b : St) : List Chg := if a.cells.length = b.cells.length then (comps a.cells.length).flatMap (diffAt a b) else []

theorem dEls_succ (cell : Int) (x y : List Int) (m : Nat) : dEls cell x y (m + 1) = dEls cell x y m ++ dOne cell x y m := by
  unfold dEls
  rw [List.range_succ, List.flatMap_append]
  simp
theorem dEls_len (cell : Int) (x y : List Int) (m : Nat) : (dEls cell x y m).length ≤ m := by
  induction m with
  | zero => simp [dEls]
  | succ m ih =>
    rw [dEls_succ, List.length_append]
    have : (dOne cell x y m).length ≤ 1 := by unfold dOne; split <;> simp
    omega
theorem dLen_len (cell : Int) (x y : List Int) : (dLen cell x y).length ≤ 1 := by unfold dLen; split <;> simp

def Small (s : St) : Prop := s.cells.length ≤ 40 ∧ s.inp.length ≤ 60 ∧ s.out.length ≤ 60 ∧ ∀ l ∈ s.cells, l.length ≤ 60
theorem small_iff (s : St) : smallB s = true ↔ Small s := by
  unfold smallB Small
  simp only [Bool.and_eq_true, decide_eq_true_eq, List.all_eq_true, rowB]
  constructor
  · rintro ⟨⟨⟨a, b⟩, c⟩, d⟩; exact ⟨a, b, c, d⟩
  · rintro ⟨a, b, c, d⟩; exact ⟨⟨⟨a, b⟩, c⟩, d⟩
theorem Small.sized {s : St} (h : Small s) : Sized s := ⟨by have := h.2.1; omega, by have := h.2.2.1; omega, fun l hl => by have := h.2.2.2 l hl; omega⟩
theorem Small.len {s : St} (h : Small s) (c : Int) : (part s c).length ≤ 60 := by
  unfold part
  split
  · rw [List.length_reverse]; exact h.2.1
  · split
    · exact h.2.2.1
    · rw [List.getD_eq_getElem?_getD]
      cases hg : s.cells[c.toNat]? with
      | none => simp
      | some l => exact h.2.2.2 l (List.mem_of_getElem? hg)

theorem RowsAt.i64 {w : World} {v : Value} {L : List (List Int)} (h : RowsAt w v L) : ∀ l ∈ L, ∀ y ∈ l, I64 y := by
  intro l hl
  obtain ⟨i, hi⟩ := List.getElem?_of_mem hl
  obtain ⟨a, c, rfl, _, _, hc⟩ := h
  obtain ⟨g, o, _, _, hq⟩ := hc (List.length_pos_of_mem hl)
  obtain ⟨u, _, hu⟩ := hq i l hi
  exact hu.2
theorem StAt.inSt {w : World} {v : Value} {s : St} (h : StAt w v s) : InSt s := by
  obtain ⟨c, i, o, rfl, h1, h2, h3⟩ := h
  exact ⟨h1.i64, h2.2, h3.2⟩
theorem part_i64 {s : St} (h : InSt s) (c : Int) : ∀ x ∈ part s c, I64 x := by
  unfold part
  split
  · intro x hx; exact h.2.1 x (List.mem_reverse.1 hx)
  · split
    · exact h.2.2
    · rw [List.getD_eq_getElem?_getD]
      cases hg : s.cells[c.toNat]? with
      | none => simp
      | some l => exact h.1 l (List.mem_of_getElem? hg)

theorem comps_mem {n : Nat} {c : Int} (h : c ∈ comps n) : c = -1 ∨ c = -2 ∨ 0 ≤ c ∧ c < n := by
  unfold comps compsL at h
  simp only [List.mem_append, List.mem_map, List.mem_range, List.mem_cons, List.not_mem_nil, or_false] at h
  rcases h with ⟨i, hi, rfl⟩ | h | h
  · exact .inr (.inr ⟨by omega, by omega⟩)
  · exact .inl h
  · exact .inr (.inl h)

theorem comps_i64 {n : Nat} (hn : n ≤ 1000000) : ∀ c ∈ comps n, I64 c := by
  intro c h
  have := comps_mem h
  unfold I64
  omega

theorem flat_take {α β : Type} {l : List α} {k : Nat} {x : α} (f : α → List β) (h : l[k]? = some x) : (l.take (k + 1)).flatMap f = (l.take k).flatMap f ++ f x := by
  have hk : k < l.length := by
    rcases Nat.lt_or_ge k l.length with hh | hh
    · exact hh
    · rw [List.getElem?_eq_none hh] at h; cases h
  have e : l[k] = x := by rw [List.getElem?_eq_getElem hk] at h; exact Option.some.inj h
  rw [List.take_succ_eq_append_getElem hk, e, List.flatMap_append]
  simp

/-- one element of four cells, stored in a new block -/
theorem cell_four_new (w : World) (a b c d : Value) (t : TypeId) : ∀ (j : Nat) (u : Value), [a, b, c, d][j]? = some u → (w.alloc (.cells #[a, b, c, d] t)).cell? ((⟨w.heap.size, 0, none⟩ : Addr).add j) = some u := by
  intro j u hu
  rw [Go.WideShapes.add_plain, Nat.zero_add]
  match j, hu with
  | 0, hu => simp only [List.getElem?_cons_zero, Option.some.injEq] at hu; subst hu; rw [World.cell?_alloc_at _ _ _ _ rfl]; rfl
  | 1, hu => simp only [List.getElem?_cons_succ, List.getElem?_cons_zero, Option.some.injEq] at hu; subst hu; rw [World.cell?_alloc_at _ _ _ _ rfl]; rfl
  | 2, hu => simp only [List.getElem?_cons_succ, List.getElem?_cons_zero, Option.some.injEq] at hu; subst hu; rw [World.cell?_alloc_at _ _ _ _ rfl]; rfl
  | 3, hu => simp only [List.getElem?_cons_succ, List.getElem?_cons_zero, Option.some.injEq] at hu; subst hu; rw [World.cell?_alloc_at _ _ _ _ rfl]; rfl
  | j + 4, hu => simp at hu

theorem ints4_one (a b c d : Int) : ∀ u ∈ [Value.int .i64 a, .int .i64 b, .int .i64 c, .int .i64 d], u.oneCell' = true := by
  intro u hu
  simp only [List.mem_cons, List.not_mem_nil, or_false] at hu
  rcases hu with rfl | rfl | rfl | rfl <;> rfl

theorem own_below {w w' : World} {base : Nat} {e : TypeId} {size : Nat} {v : Value} {n : Nat} {xs : List Value} (h : w.ownsRow base e size v n xs) (hb : Below w.heap.size w w') : w'.ownsRow base e size v n xs :=
  h.kept (row := none) ⟨hb.os, hb.tape, hb.output, hb.size, fun k hk _ => hb.block k hk⟩ (by cases v.ownBlock <;> simp)

end Go.Proofs.Ytklbaocgjegdfaa
