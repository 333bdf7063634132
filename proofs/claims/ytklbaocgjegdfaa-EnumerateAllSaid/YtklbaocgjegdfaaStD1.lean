/- Walks: slices.Reverse on a row of the call's own; the components of a state. -/
import Derived.Test.YtklbaocgjegdfaaStW6
import Derived.Lib.OwnBridge
import Derived.Deep.Onto
namespace Go.Proofs.Ytklbaocgjegdfaa
open Go.RowKit Go.Lib Go.Sort

/-- a component, in the order in which changes count its elements -/
def part (s : St) (cell : Int) : List Int := if cell = -1 then s.inp.reverse else if cell = -2 then s.out else s.cells.getD cell.toNat []

/-- the box of a state's three slices -/
def BoxAt (w : World) (b : Nat) (s : St) : Prop :=
  b < w.heap.size ∧ ∃ c i o, w.cell? ⟨b, 0, none⟩ = some c ∧ w.cell? ⟨b, 1, none⟩ = some i ∧ w.cell? ⟨b, 2, none⟩ = some o ∧ RowsAt w c s.cells ∧ IntsAt w i s.inp ∧ IntsAt w o s.out

theorem BoxAt.below {w w' : World} {b : Nat} {s : St} (h : BoxAt w b s) {B : Nat} (hb : Below B w w') (hB : w.heap.size ≤ B) : BoxAt w' b s := by
  obtain ⟨h0, c, i, o, h1, h2, h3, h4, h5, h6⟩ := h
  exact ⟨Nat.lt_of_lt_of_le h0 hb.size, c, i, o, cell_below hb (by omega) h1, cell_below hb (by omega) h2, cell_below hb (by omega) h3, h4.below hb hB, h5.below hb hB, h6.below hb hB⟩

def Sized (s : St) : Prop := s.inp.length ≤ 1099511627776 ∧ s.out.length ≤ 1099511627776 ∧ ∀ l ∈ s.cells, l.length ≤ 1099511627776

end Go.Proofs.Ytklbaocgjegdfaa
