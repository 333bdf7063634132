/- What the statements on states are given, opened: slices of numbers, of slices, of declarations, of changes; a state. -/
import Derived.Test.YtklbaocgjegdfaaShelf
import Derived.Test.YtklbaocgjegdfaaRows
import Derived.WalkKit
import Derived.ProofKit
import Derived.Below
import Derived.Deep.Slices
import Derived.Lib.SmallJoins
import Derived.Laws.OwnMore
import Derived.Lib.Hide
namespace Go.Proofs.Ytklbaocgjegdfaa
open Go.RowKit Go.ChangeShapes Go.WideShapes Go.Deep

def I64 (x : Int) : Prop := -9223372036854775808 ≤ x ∧ x ≤ 9223372036854775807

/-- the value is a slice of n elements; where there is one, it lies at ⟨g, o⟩ -/
def SliceAt (w : World) (v : Value) (n : Nat) (Q : Nat → Nat → Prop) : Prop :=
  ∃ a c, v = .slice a n c ∧ n ≤ c ∧ c ≤ maxLen ∧ (0 < n → ∃ g o, a = some ⟨g, o, none⟩ ∧ g < w.heap.size ∧ Q g o)

def IntsAt (w : World) (v : Value) (l : List Int) : Prop :=
  SliceAt w v l.length (fun g o => ∀ i x, l[i]? = some x → w.cell? ⟨g, o + i, none⟩ = some (.int .i64 x)) ∧ ∀ x ∈ l, I64 x

def RowsAt (w : World) (v : Value) (L : List (List Int)) : Prop :=
  SliceAt w v L.length (fun g o => ∀ i l, L[i]? = some l → ∃ u, w.cell? ⟨g, o + i, none⟩ = some u ∧ IntsAt w u l)

structure Decl where
  name : ByteArray
  kind : Nat
  len : Int

def DeclsAt (w : World) (v : Value) (D : List Decl) : Prop :=
  SliceAt w v D.length (fun g o => ∀ i d, D[i]? = some d → w.cell? ⟨g, o + i * 3, none⟩ = some (.string d.name) ∧ w.cell? ⟨g, o + i * 3 + 1, none⟩ = some (.int .u8 d.kind) ∧ w.cell? ⟨g, o + i * 3 + 2, none⟩ = some (.int .i64 d.len)) ∧
    ∀ d ∈ D, d.name.size ≤ maxLen ∧ d.kind ≤ 255 ∧ I64 d.len

structure Chg where
  cell : Int
  pos : Int
  old : Int
  new : Int
deriving DecidableEq

def Chg.Fits (c : Chg) : Prop := I64 c.cell ∧ I64 c.pos ∧ I64 c.old ∧ I64 c.new

def ChgsAt (w : World) (v : Value) (C : List Chg) : Prop :=
  SliceAt w v C.length (fun g o => ∀ i c, C[i]? = some c → w.cell? ⟨g, o + i * 4, none⟩ = some (.int .i64 c.cell) ∧ w.cell? ⟨g, o + i * 4 + 1, none⟩ = some (.int .i64 c.pos) ∧
    w.cell? ⟨g, o + i * 4 + 2, none⟩ = some (.int .i64 c.old) ∧ w.cell? ⟨g, o + i * 4 + 3, none⟩ = some (.int .i64 c.new)) ∧ ∀ c ∈ C, c.Fits

structure St where
  cells : List (List Int)
  inp : List Int
  out : List Int
deriving DecidableEq

def StAt (w : World) (v : Value) (s : St) : Prop :=
  ∃ c i o, v = .agg #[c, i, o] ∧ RowsAt w c s.cells ∧ IntsAt w i s.inp ∧ IntsAt w o s.out

/-! they stand while older memory stands -/
theorem SliceAt.mono {w w' : World} {v : Value} {n : Nat} {Q Q' : Nat → Nat → Prop} (h : SliceAt w v n Q) (hs : w.heap.size ≤ w'.heap.size) (hq : ∀ g o, g < w.heap.size → Q g o → Q' g o) : SliceAt w' v n Q' := by
  obtain ⟨a, c, rfl, h1, h2, h3⟩ := h
  refine ⟨a, c, rfl, h1, h2, fun hn => ?_⟩
  obtain ⟨g, o, rfl, hg, hc⟩ := h3 hn
  exact ⟨g, o, rfl, Nat.lt_of_lt_of_le hg hs, hq g o hg hc⟩

theorem cell_below {w w' : World} {B : Nat} (hb : Below B w w') {g j : Nat} {u : Value} (hg : g < B) (h : w.cell? ⟨g, j, none⟩ = some u) : w'.cell? ⟨g, j, none⟩ = some u :=
  (hb.cell (p := ⟨g, j, none⟩) hg).trans h

theorem IntsAt.below {w w' : World} {v : Value} {l : List Int} (h : IntsAt w v l) {B : Nat} (hb : Below B w w') (hB : w.heap.size ≤ B) : IntsAt w' v l :=
  ⟨h.1.mono hb.size (fun _ _ hg hq i x hx => cell_below hb (by omega) (hq i x hx)), h.2⟩
theorem RowsAt.below {w w' : World} {v : Value} {L : List (List Int)} (h : RowsAt w v L) {B : Nat} (hb : Below B w w') (hB : w.heap.size ≤ B) : RowsAt w' v L :=
  SliceAt.mono h hb.size (fun _ _ hg hq i l hl => by
    obtain ⟨u, h1, h2⟩ := hq i l hl
    exact ⟨u, cell_below hb (by omega) h1, h2.below hb hB⟩)
theorem DeclsAt.below {w w' : World} {v : Value} {D : List Decl} (h : DeclsAt w v D) {B : Nat} (hb : Below B w w') (hB : w.heap.size ≤ B) : DeclsAt w' v D :=
  ⟨h.1.mono hb.size (fun _ _ hg hq i d hd => by
    obtain ⟨h1, h2, h3⟩ := hq i d hd
    exact ⟨cell_below hb (by omega) h1, cell_below hb (by omega) h2, cell_below hb (by omega) h3⟩), h.2⟩
theorem ChgsAt.below {w w' : World} {v : Value} {C : List Chg} (h : ChgsAt w v C) {B : Nat} (hb : Below B w w') (hB : w.heap.size ≤ B) : ChgsAt w' v C :=
  ⟨h.1.mono hb.size (fun _ _ hg hq i c hc => by
    obtain ⟨h1, h2, h3, h4⟩ := hq i c hc
    exact ⟨cell_below hb (by omega) h1, cell_below hb (by omega) h2, cell_below hb (by omega) h3, cell_below hb (by omega) h4⟩), h.2⟩
theorem StAt.below {w w' : World} {v : Value} {s : St} (h : StAt w v s) {B : Nat} (hb : Below B w w') (hB : w.heap.size ≤ B) : StAt w' v s := by
  obtain ⟨c, i, o, rfl, h1, h2, h3⟩ := h
  exact ⟨c, i, o, rfl, h1.below hb hB, h2.below hb hB, h3.below hb hB⟩

/-! opened -/
theorem list_of {α : Type} (n : Nat) (p : Nat → α → Prop) (h : ∀ i, i < n → ∃ x, p i x) : ∃ l : List α, l.length = n ∧ ∀ i x, l[i]? = some x → p i x := by
  induction n with
  | zero => exact ⟨[], rfl, fun i x hx => by simp at hx⟩
  | succ n ih =>
    obtain ⟨l, hl, hp⟩ := ih (fun i hi => h i (by omega))
    obtain ⟨x, hx⟩ := h n (by omega)
    refine ⟨l ++ [x], by simp [hl], fun i y hy => ?_⟩
    rcases Nat.lt_or_ge i n with hi | hi
    · rw [List.getElem?_append_left (by omega)] at hy
      exact hp i y hy
    · rw [List.getElem?_append_right (by omega)] at hy
      have : i - l.length = 0 := by
        rcases Nat.eq_zero_or_pos (i - l.length) with h0 | h0
        · exact h0
        · rw [List.getElem?_eq_none (by simp; omega)] at hy; cases hy
      rw [this] at hy
      simp only [List.getElem?_cons_zero, Option.some.injEq] at hy
      subst hy
      have : i = n := by omega
      subst this
      exact hx

theorem i64_of {x : Int} (h : (Lit.int .i64 x).wf = true) : I64 x := by
  simpa [Lit.wf, IntKind.min, IntKind.max, IntKind.signed, IntKind.bits, I64] using h
theorem u8_of {x : Int} (h : (Lit.int .u8 x).wf = true) : ∃ n : Nat, x = n ∧ n ≤ 255 := by
  have h' : 0 ≤ x ∧ x ≤ 255 := by simpa [Lit.wf, IntKind.min, IntKind.max, IntKind.signed, IntKind.bits] using h
  obtain ⟨n, rfl⟩ := Int.eq_ofNat_of_zero_le h'.1
  exact ⟨n, rfl, by omega⟩

theorem cellsInt : Try.prog.cellsOf 3 = 1 := by kernel_rfl
theorem cellsU8 : Try.prog.cellsOf 5 = 1 := by kernel_rfl
theorem cellsStr : Try.prog.cellsOf 9 = 1 := by kernel_rfl
theorem cellsInts : Try.prog.cellsOf 33 = 1 := by kernel_rfl

section
variable {H : Type} {enc : TypeId × Value → H} {w : World} {sp : Nat → Bool} {held : Bool} {base : Nat}

theorem ints_open {fuel : Nat} {v : Value} {x : DataW H × List MemPlace} (h : DataW.trod enc Try.prog w base sp held fuel 33 [v] = some x) : ∃ l, IntsAt w v l := by
  rcases open_ints Try.underlying33 Try.underlying3 cellsInt h with ⟨hcs, _⟩ | ⟨a, len, cap, zs, hcs, _, hl, hm, hz, _, hcell, hwz⟩
  · simp at hcs
    exact ⟨[], ⟨none, 0, hcs, Nat.le_refl _, by unfold maxLen; omega, fun h => absurd h (by decide)⟩, by simp⟩
  · simp at hcs
    have hlz : len ≤ zs.length := by rw [hz]; split <;> omega
    have hlen : (zs.take len).length = len := by rw [List.length_take]; omega
    refine ⟨zs.take len, ⟨some a, cap, by rw [hlen]; exact hcs, by omega, hm, fun hp => ?_⟩, fun y hy => i64_of (hwz y (List.mem_of_mem_take hy))⟩
    obtain ⟨b, off, spot⟩ := a
    have k0 := hcell 0 (by omega)
    have hspot : spot = none := by simpa [Addr.add] using World.cell?_spot k0
    subst hspot
    have hb : b < w.heap.size := by simpa [Addr.add] using World.block_lt_of_cell? w _ k0
    refine ⟨b, off, rfl, hb, fun i y hy => ?_⟩
    rw [List.getElem?_take] at hy
    split at hy
    · have := hcell i (by omega)
      rw [Go.WideShapes.add_plain] at this
      rw [this, List.getD_eq_getElem?_getD, hy]
      rfl
    · cases hy

theorem rows_open {fuel : Nat} {v : Value} {x : DataW H × List MemPlace} (h : DataW.trod enc Try.prog w base sp held fuel 32 [v] = some x) : ∃ L, RowsAt w v L := by
  rcases open_slice1 Try.underlying32 cellsInts h with ⟨hcs, _⟩ | ⟨a, len, cap, m, n, V, D, Pl, hcs, _, hl, hm, hmm, _, hi⟩
  · simp at hcs
    exact ⟨[], none, 0, hcs, Nat.le_refl _, by unfold maxLen; omega, fun h => absurd h (by decide)⟩
  · simp at hcs
    have hlm : len ≤ m := by rw [hmm]; split <;> omega
    obtain ⟨L, hL, hp⟩ := list_of len (fun i l => w.cell? (a.add i) = some (V i) ∧ IntsAt w (V i) l) (fun i hil => by
      obtain ⟨h1, h2⟩ := hi i (by omega)
      obtain ⟨l, hl⟩ := ints_open h2
      exact ⟨l, h1, hl⟩)
    refine ⟨L, some a, cap, by rw [hL]; exact hcs, by omega, hm, fun hp0 => ?_⟩
    obtain ⟨b, off, spot⟩ := a
    have k0 := (hi 0 (by omega)).1
    have hspot : spot = none := by simpa [Addr.add] using World.cell?_spot k0
    subst hspot
    have hb : b < w.heap.size := by simpa [Addr.add] using World.block_lt_of_cell? w _ k0
    refine ⟨b, off, rfl, hb, fun i l hl => ?_⟩
    obtain ⟨h1, h2⟩ := hp i l hl
    rw [Go.WideShapes.add_plain] at h1
    exact ⟨_, h1, h2⟩

theorem cellsDecl : Try.prog.cellsOf 48 = 3 := by kernel_rfl
theorem cellsSt : Try.prog.cellsOf 35 = 3 := by kernel_rfl

theorem decls_open {fuel : Nat} {v : Value} {x : DataW H × List MemPlace} (h : DataW.trod enc Try.prog w base sp held fuel 22 [v] = some x) : ∃ D, DeclsAt w v D := by
  rcases open_slice Try.underlying22 h with ⟨hcs, _⟩ | ⟨a, len, cap, m, n, D, Pl, hcs, _, hl, hm, hmm, _, hi⟩
  · simp at hcs
    exact ⟨[], ⟨none, 0, hcs, Nat.le_refl _, by unfold maxLen; omega, fun h => absurd h (by decide)⟩, by simp⟩
  · simp at hcs
    have hlm : len ≤ m := by rw [hmm]; split <;> omega
    obtain ⟨L, hL, hp⟩ := list_of len (fun i (d : Decl) => (w.cell? (a.add (i * 3)) = some (.string d.name) ∧ w.cell? (a.add (i * 3 + 1)) = some (.int .u8 d.kind) ∧ w.cell? (a.add (i * 3 + 2)) = some (.int .i64 d.len)) ∧
        d.name.size ≤ maxLen ∧ d.kind ≤ 255 ∧ I64 d.len) (fun i hil => by
      obtain ⟨cs', hc, ht'⟩ := hi i (by omega)
      rw [cellsDecl] at hc
      obtain ⟨_, hcl, hat⟩ := World.cells?_some hc
      obtain ⟨xs, n', _, _, _, hxl, hff⟩ := DataW.trod_struct Try.underlying48 ht'
      match cs', hcl, xs, hxl with
      | [c0, c1, c2], _, [x0, x1, x2], _ =>
        have g0 : DataW.trod enc Try.prog w base sp held n' 9 (([c0, c1, c2].drop 0).take (Try.prog.cellsOf 9)) = some x0 := hff 0 _ rfl
        have g1 : DataW.trod enc Try.prog w base sp held n' 5 (([c0, c1, c2].drop 1).take (Try.prog.cellsOf 5)) = some x1 := hff 1 _ rfl
        have g2 : DataW.trod enc Try.prog w base sp held n' 3 (([c0, c1, c2].drop 2).take (Try.prog.cellsOf 3)) = some x2 := hff 2 _ rfl
        rw [cellsStr] at g0; rw [cellsU8] at g1; rw [cellsInt] at g2
        obtain ⟨tx, e0, _, wt⟩ := DataW.trod_string Try.underlying9 g0
        obtain ⟨kd, e1, _, wk⟩ := DataW.trod_int Try.underlying5 g1
        obtain ⟨ps, e2, _, wp⟩ := DataW.trod_int Try.underlying3 g2
        simp at e0 e1 e2
        subst e0 e1 e2
        have k0 := hat 0 (by omega)
        have k1 := hat 1 (by omega)
        have k2 := hat 2 (by omega)
        rw [Go.Deep.add_add] at k0 k1 k2
        obtain ⟨q, rfl, hq⟩ := u8_of wk
        exact ⟨⟨tx, q, ps⟩, ⟨k0, k1, k2⟩, wt, hq, i64_of wp⟩)
    refine ⟨L, ⟨some a, cap, by rw [hL]; exact hcs, by omega, hm, fun hp0 => ?_⟩, fun d hd => ?_⟩
    · obtain ⟨b, off, spot⟩ := a
      obtain ⟨d0, hd0⟩ : ∃ d, L[0]? = some d := ⟨_, List.getElem?_eq_getElem hp0⟩
      have k0 := (hp 0 d0 hd0).1.1
      have hspot : spot = none := by simpa [Addr.add] using World.cell?_spot k0
      subst hspot
      have hb : b < w.heap.size := by simpa [Addr.add] using World.block_lt_of_cell? w _ k0
      refine ⟨b, off, rfl, hb, fun i d hd => ?_⟩
      have h1 := (hp i d hd).1
      simp only [Go.WideShapes.add_plain] at h1
      exact ⟨h1.1, h1.2.1, h1.2.2⟩
    · obtain ⟨i, hi⟩ := List.getElem?_of_mem hd
      exact (hp i d hi).2

theorem st_open {r : Reach} {b0 : Nat} {v : Value} {d : DataW H} {p : List MemPlace} (hv : Value.okWide Try.prog w r b0 35 v) (h : DataW.Trod enc Try.prog w base sp held 35 v d p) : ∃ s, StAt w v s := by
  obtain ⟨v0, v1, v2, y0, y1, y2, n, rfl, _, _, h0, h1, h2⟩ := Joins.open_agg3 Try.underlying35 (by kernel_rfl) cellsSt hv h
  obtain ⟨L, hL⟩ := rows_open h0
  obtain ⟨l1, hl1⟩ := ints_open h1
  obtain ⟨l2, hl2⟩ := ints_open h2
  exact ⟨⟨L, l1, l2⟩, v0, v1, v2, rfl, hL, hl1, hl2⟩

theorem one_cell {t e : TypeId} {r : Reach} {b0 : Nat} {v : Value} {d : DataW H} {p : List MemPlace} (ht : Try.prog.underlying t = some (.slice e)) (hv : Value.okWide Try.prog w r b0 t v) (h : DataW.Trod enc Try.prog w base sp held t v d p) :
    ∃ fuel, DataW.trod enc Try.prog w base sp held fuel t [v] = some (d, p) := by
  obtain ⟨a0, len, cap, rfl⟩ := okWide_slice ht hv
  obtain ⟨fuel, hf⟩ := h
  exact ⟨fuel, by simpa [Value.cells] using hf⟩
end

end Go.Proofs.Ytklbaocgjegdfaa
