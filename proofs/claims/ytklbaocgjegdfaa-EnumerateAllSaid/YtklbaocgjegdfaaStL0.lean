/- What the laws' walks share. -/
import Derived.Test.YtklbaocgjegdfaaStW4
import Derived.Test.YtklbaocgjegdfaaStW5
import Derived.Test.YtklbaocgjegdfaaStD3
namespace Go.Proofs.Ytklbaocgjegdfaa
open Go.RowKit Go.ChangeShapes Go.WideShapes Go.Deep

theorem below_drew {B : Nat} {a w : World} (h : Below B a w) : Below B a w.drew := ⟨h.os, h.tape, h.output, h.size, h.block⟩
theorem below_undrew {B : Nat} {a w : World} (h : Below B a.drew w) : Below B a w := ⟨h.os, h.tape, h.output, h.size, h.block⟩
theorem below_next {B : Nat} {W w w1 : World} (h : Below B W w) (hB : B ≤ W.heap.size) (hb : Below w.heap.size w w1) : Below B W w1 := h.trans (hb.mono (Nat.le_trans hB h.size))
theorem below_next' {B : Nat} {W w w1 : World} (h : Below B W w) (hB : B ≤ W.heap.size) (hb : Below w.drew.heap.size w.drew w1) : Below B W w1 := below_next h hB (below_undrew hb)

section
variable {H : Type} {enc : TypeId × Value → H} {w : World} {sp : Nat → Bool} {held : Bool} {base : Nat}
theorem decls_top {r : Reach} {b0 : Nat} {v : Value} {d : DataW H} {p : List MemPlace} (hv : Value.okWide Try.prog w r b0 22 v) (h : DataW.Trod enc Try.prog w base sp held 22 v d p) : ∃ D, DeclsAt w v D := by
  obtain ⟨fuel, hf⟩ := one_cell Try.underlying22 hv h
  exact decls_open hf
theorem ints_top {r : Reach} {b0 : Nat} {v : Value} {d : DataW H} {p : List MemPlace} (hv : Value.okWide Try.prog w r b0 33 v) (h : DataW.Trod enc Try.prog w base sp held 33 v d p) : ∃ l, IntsAt w v l := by
  obtain ⟨fuel, hf⟩ := one_cell Try.underlying33 hv h
  exact ints_open hf
end

end Go.Proofs.Ytklbaocgjegdfaa
