/- A state that came in: how many rows it can have. -/
import Derived.Test.YtklbaocgjegdfaaEnX3
import Derived.SizedLaws
namespace Go.Proofs.Ytklbaocgjegdfaa
open Go.RowKit Go.ChangeShapes Go.WideShapes Go.Deep

section
variable {H : Type} {enc : TypeId × Value → H} {w : World} {sp : Nat → Bool} {held : Bool} {base : Nat}
theorem st_sized {r : Reach} {b0 : Nat} {v : Value} {d : DataW H} {p : List MemPlace} (hv : Value.okWide Try.prog w r b0 35 v) (h : DataW.Trod enc Try.prog w base sp held 35 v d p) (hz : ∀ n ∈ DataW.weights Try.prog 35 d, n ≤ reachBytes) :
    ∃ s, StAt w v s ∧ (s.cells.length + 2) * 24 ≤ 140737488355328 := by
  obtain ⟨v0, v1, v2, y0, y1, y2, n, rfl, rfl, _, h0, h1, h2⟩ := Joins.open_agg3 Try.underlying35 (by kernel_rfl) cellsSt hv h
  obtain ⟨L, hL⟩ := rows_open h0
  obtain ⟨l1, hl1⟩ := ints_open h1
  obtain ⟨l2, hl2⟩ := ints_open h2
  refine ⟨⟨L, l1, l2⟩, ⟨v0, v1, v2, rfl, hL, hl1, hl2⟩, ?_⟩
  have hR : reachBytes = 140737488351232 := by decide
  obtain ⟨a0, c0, e0, -, -, -⟩ := hL
  rcases open_slice1 Try.underlying32 cellsInts h0 with ⟨hcs, _⟩ | ⟨a, len, cap, m, n', V, D, Pl, hcs, _, hl, hm, hmm, hy, hi⟩
  · simp at hcs
    rw [e0] at hcs
    injection hcs with _ e1
    simp only
    omega
  · simp at hcs
    rw [e0] at hcs
    injection hcs with _ e1
    have hb : Try.prog.bytesOf 33 = 24 := by kernel_rfl
    have hw : (len + (m - len)) * 24 ∈ DataW.weights Try.prog 35 (.agg [y0.1, y1.1, y2.1]) := by
      rw [hy]
      simp [DataW.weights, Try.underlying35, DataW.weightsEach, Try.underlying32, hb]
    have := hz _ hw
    rw [hR] at this
    simp only
    omega
end
end Go.Proofs.Ytklbaocgjegdfaa
