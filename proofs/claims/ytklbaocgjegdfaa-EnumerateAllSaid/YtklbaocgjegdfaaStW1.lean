/- Walks: small, valid, fixed. -/
import Derived.Test.YtklbaocgjegdfaaStO
import Derived.Deep.QuietTactic
import Derived.BigQuiet
import Derived.Deep.RegionHeld3
import Derived.IntWalk
namespace Go.Proofs.Ytklbaocgjegdfaa
open Go.RowKit

theorem alloc_cell {w : World} {g j : Nat} {u : Value} (h : w.cell? ⟨g, j, none⟩ = some u) (o : Obj) : (w.alloc o).cell? ⟨g, j, none⟩ = some u :=
  cell_below ((Below.refl w.heap.size w).alloc (Nat.le_refl _) o) (World.block_lt_of_cell? w _ h) h
theorem drewN_below {w w' : World} {B : Nat} (h : Below B w w') (n : Nat) : Below B w (w'.drewN n) := ⟨h.os, h.tape, h.output, h.size, h.block⟩
theorem below_alloc (w : World) (o : Obj) : Below w.heap.size w (w.alloc o) := (Below.refl _ _).alloc (Nat.le_refl _) _
theorem all_take {α : Type} {l : List α} {k : Nat} {x : α} (p : α → Bool) (h : l[k]? = some x) : (l.take (k + 1)).all p = ((l.take k).all p && p x) := by
  have hk : k < l.length := by
    rcases Nat.lt_or_ge k l.length with hh | hh
    · exact hh
    · rw [List.getElem?_eq_none hh] at h; cases h
  have e : l[k] = x := by rw [List.getElem?_eq_getElem hk] at h; exact Option.some.inj h
  rw [List.take_succ_eq_append_getElem hk, List.all_append, e]
  simp
theorem all_false {α : Type} {l : List α} {k : Nat} {x : α} (p : α → Bool) (h : l[k]? = some x) (hp : p x = false) : l.all p = false := by
  cases hc : l.all p with
  | false => rfl
  | true => rw [List.all_eq_true.1 hc x (List.mem_of_getElem? h)] at hp; cases hp
theorem get_lt {α : Type} {l : List α} {k n : Nat} (hn : n = l.length) (h : k < n) : ∃ x, l[k]? = some x := ⟨_, List.getElem?_eq_getElem (by omega)⟩

def rowB (l : List Int) : Bool := decide (l.length ≤ 60)
def smallB (s : St) : Bool := decide (s.cells.length ≤ 40) && decide (s.inp.length ≤ 60) && decide (s.out.length ≤ 60) && s.cells.all rowB

end Go.Proofs.Ytklbaocgjegdfaa
