/- A slice of tokens that came in, opened. -/
import Derived.Test.YtgnnkddneoghmaaLexS1
import Derived.Test.YtgnnkddneoghmaaLexJ2
import Derived.ProofKit
import Derived.Deep.Slices
import Derived.Laws.OwnMore
namespace Go.Proofs.Ytgnnkddneoghmaa
open Go.RowKit Go.ChangeShapes Go.WideShapes Go.Deep

/-- a token of any numbers -/
structure RTok where
  kind : Int
  text : ByteArray
  pos : Int

def RTok.Fits (t : RTok) : Prop := 0 ≤ t.kind ∧ t.kind ≤ 255 ∧ t.text.size ≤ maxLen

def rCell (t : RTok) : List Value := [.int .u8 t.kind, .string t.text, .int .i64 t.pos]
def rCells (l : List RTok) : List Value := l.flatMap rCell

/-- the token k lies at its place behind ⟨g, o⟩ -/
def TokAt (w : World) (g o k : Nat) (t : RTok) : Prop :=
  w.cell? ⟨g, o + k * 3, none⟩ = some (.int .u8 t.kind) ∧ w.cell? ⟨g, o + k * 3 + 1, none⟩ = some (.string t.text) ∧ w.cell? ⟨g, o + k * 3 + 2, none⟩ = some (.int .i64 t.pos)

def ToksAt (w : World) (v : Value) (T : List RTok) : Prop :=
  (T.length = 0 ∧ ∃ a c, v = .slice a 0 c) ∨
  (0 < T.length ∧ ∃ g o cap, v = .slice (some ⟨g, o, none⟩) T.length cap ∧ g < w.heap.size ∧ T.length ≤ maxLen ∧ ∀ k t, T[k]? = some t → TokAt w g o k t ∧ t.Fits)

theorem cellsTok : Try.prog.cellsOf 33 = 3 := by kernel_rfl
theorem cellsU8 : Try.prog.cellsOf 5 = 1 := by kernel_rfl
theorem cellsStr : Try.prog.cellsOf 9 = 1 := by kernel_rfl
theorem cellsInt : Try.prog.cellsOf 3 = 1 := by kernel_rfl
theorem open_toks {H : Type} {enc : TypeId × Value → H} {w : World} {base b0 : Nat} {sp : Nat → Bool} {held : Bool} {r : Reach} {v : Value} {d : DataW H} {p : List MemPlace}
    (hv : Value.okWide Try.prog w r b0 23 v) (h : DataW.Trod enc Try.prog w base sp held 23 v d p) : ∃ T, ToksAt w v T := by
  obtain ⟨a0, len, cap, rfl⟩ := okWide_slice Try.underlying23 hv
  obtain ⟨fuel, hf⟩ := h
  rcases open_slice Try.underlying23 hf with ⟨hcs, _⟩ | ⟨a, len', cap', m, n, D, Pl, hcs, _, hl, hm, hmm, _, hi⟩
  · simp [Value.cells] at hcs
    obtain ⟨rfl, rfl, rfl⟩ := hcs
    exact ⟨[], Or.inl ⟨rfl, _, _, rfl⟩⟩
  · simp [Value.cells] at hcs
    obtain ⟨rfl, rfl, rfl⟩ := hcs
    have hlm : len ≤ m := by rw [hmm]; split <;> omega
    have key : ∀ i, i < len → ∃ t : RTok, (w.cell? (a.add (i * 3)) = some (.int .u8 t.kind) ∧ w.cell? (a.add (i * 3 + 1)) = some (.string t.text) ∧ w.cell? (a.add (i * 3 + 2)) = some (.int .i64 t.pos)) ∧ t.Fits := by
      intro i hil
      obtain ⟨cs', hc, ht'⟩ := hi i (by omega)
      rw [cellsTok] at hc
      obtain ⟨_, hcl, hat⟩ := World.cells?_some hc
      obtain ⟨xs, n', _, _, _, hxl, hff⟩ := DataW.trod_struct Try.underlying33 ht'
      match cs', hcl, xs, hxl with
      | [c0, c1, c2], _, [x0, x1, x2], _ =>
        have g0 : DataW.trod enc Try.prog w base sp held n' 5 (([c0, c1, c2].drop 0).take (Try.prog.cellsOf 5)) = some x0 := hff 0 _ rfl
        have g1 : DataW.trod enc Try.prog w base sp held n' 9 (([c0, c1, c2].drop 1).take (Try.prog.cellsOf 9)) = some x1 := hff 1 _ rfl
        have g2 : DataW.trod enc Try.prog w base sp held n' 3 (([c0, c1, c2].drop 2).take (Try.prog.cellsOf 3)) = some x2 := hff 2 _ rfl
        rw [cellsU8] at g0; rw [cellsStr] at g1; rw [cellsInt] at g2
        obtain ⟨kd, e0, _, wk⟩ := DataW.trod_int Try.underlying5 g0
        obtain ⟨tx, e1, _, wt⟩ := DataW.trod_string Try.underlying9 g1
        obtain ⟨ps, e2, _, _⟩ := DataW.trod_int Try.underlying3 g2
        simp at e0 e1 e2
        subst e0 e1 e2
        have k0 := hat 0 (by omega)
        have k1 := hat 1 (by omega)
        have k2 := hat 2 (by omega)
        rw [Go.Deep.add_add] at k0 k1 k2
        have hk : 0 ≤ kd ∧ kd ≤ 255 := by simpa [Lit.wf, IntKind.min, IntKind.max, IntKind.signed, IntKind.bits] using wk
        exact ⟨⟨kd, tx, ps⟩, ⟨k0, k1, k2⟩, hk.1, hk.2, wt⟩
    rcases Nat.eq_zero_or_pos len with h0 | h0
    · subst h0
      exact ⟨[], Or.inl ⟨rfl, _, _, rfl⟩⟩
    · obtain ⟨b, off, spot⟩ := a
      obtain ⟨t0, ⟨k0, _⟩, _⟩ := key 0 h0
      have hspot : spot = none := by simpa [Addr.add] using World.cell?_spot k0
      subst hspot
      have hb : b < w.heap.size := by
        have := World.block_lt_of_cell? w _ k0
        simpa [Addr.add] using this
      refine ⟨(List.range len).map fun i => if h : i < len then (key i h).choose else t0, Or.inr ⟨by simpa using h0, b, off, cap, by simp, hb, by simp; omega, fun k t ht => ?_⟩⟩
      rw [List.getElem?_map] at ht
      by_cases hk : k < len
      · rw [List.getElem?_range hk] at ht
        simp only [Option.map_some, hk, dif_pos, Option.some.injEq] at ht
        have hs := (key k hk).choose_spec
        rw [ht] at hs
        simp only [Go.WideShapes.add_plain] at hs
        exact ⟨⟨hs.1.1, hs.1.2.1, hs.1.2.2⟩, hs.2⟩
      · rw [List.getElem?_eq_none (by simp; omega)] at ht
        cases ht

end Go.Proofs.Ytgnnkddneoghmaa
