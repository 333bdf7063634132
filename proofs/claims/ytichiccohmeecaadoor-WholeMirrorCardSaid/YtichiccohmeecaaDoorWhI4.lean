/- isa.Valid for every instruction. -/
import Derived.Test.YtichiccohmeecaaDoorWhI3
namespace Go.Proofs.YtichiccohmeecaaDoor
open Go.RowKit

theorem tab_pos {w : World} (h : TabAt w) : 0 < w.heap.size := by
  have := World.block_lt_of_cell? w _ (h 0 (by decide))
  omega
theorem valid_at : ∀ op, op < 35 → ValidAt op := fun op h => by
  by_cases h1 : op = 0 ∨ op = 34
  · exact valid_n0 op h1
  by_cases h2 : op = 9 ∨ op = 11
  · exact valid_n4 op h2
  by_cases h3 : op = 8 ∨ op = 17 ∨ op = 18 ∨ op = 19 ∨ op = 20 ∨ op = 22 ∨ op = 25 ∨ op = 30 ∨ op = 31 ∨ op = 32 ∨ op = 33
  · exact valid_n1 op h3
  · exact valid_n2 op (by omega)
set_option maxRecDepth 100000 in
theorem valid_any (i : Ins) (w : World) (hT : TabAt w) : Calls Tryd.prog 31 #[insV i] w fun e w' => e = .returned (.bool (validI i)) ∧ Below w.heap.size w w' := by
  obtain ⟨op, a, b, c, d⟩ := i
  have h0 := tab_pos hT
  by_cases h : op < 35
  · exact valid_at op h a b c d w h0 (hT op h)
  · have hr : validI ⟨op, a, b, c, d⟩ = false := by unfold validI; dsimp only; rw [decide_eq_false h]; rfl
    rw [hr]
    have h' : 35 ≤ (op : Int) := by omega
    clear hr h hT
    unfold insV
    go_enter Tryd.func31, Tryd.ntmps31
    go_wp2
    go_ret
    exact ⟨rfl, below_alloc _ _⟩

theorem bcell {W w1 : World} (hb : Below W.heap.size W w1) : (∀ b o, b < W.heap.size → w1.cell? ⟨b, o, none⟩ = W.cell? ⟨b, o, none⟩) ∧ (∀ b o, b < W.heap.size → w1.frozen? ⟨b, o, none⟩ = W.frozen? ⟨b, o, none⟩) :=
  ⟨fun b o h => hb.cell (p := ⟨b, o, none⟩) h, fun b o h => hb.frozen (p := ⟨b, o, none⟩) h⟩

end Go.Proofs.YtichiccohmeecaaDoor
