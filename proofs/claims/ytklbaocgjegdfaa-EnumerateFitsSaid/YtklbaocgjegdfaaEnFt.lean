/- The law EnumerateFits: its parameters. -/
import Derived.Test.YtklbaocgjegdfaaEnFi
namespace Go.Proofs.Ytklbaocgjegdfaa
open Go.RowKit Go.ChangeShapes Go.WideShapes

theorem fitsenumlaw_top {H : Type} {enc : TypeId × Value → H} {r : Reach} {b0 : Nat} {w : World} {base : Nat} {sp : Nat → Bool} {held : Bool} (v0 : Value) (d0 : DataW H) (p0 : List MemPlace) (h0 : Value.okWide Try.prog w r b0 22 v0) (t0 : DataW.Trod enc Try.prog w base sp held 22 v0 d0 p0) (_ : ∀ n ∈ DataW.weights Try.prog 22 d0, n ≤ reachBytes)
    {b1 : Nat} {sp1 : Nat → Bool} (v1 : Value) (d1 : DataW H) (p1 : List MemPlace) (h1 : Value.okWide Try.prog w r b1 24 v1) (t1 : DataW.Trod enc Try.prog w base sp1 held 24 v1 d1 p1) (_ : ∀ n ∈ DataW.weights Try.prog 24 d1, n ≤ reachBytes)
    {b2 : Nat} {sp2 : Nat → Bool} (v2 : Value) (d2 : DataW H) (p2 : List MemPlace) (h2 : Value.okWide Try.prog w r b2 35 v2) (t2 : DataW.Trod enc Try.prog w base sp2 held 35 v2 d2 p2) (z2 : ∀ n ∈ DataW.weights Try.prog 35 d2, n ≤ reachBytes) (w' : World) (hw : w' = w := by rfl) :
    Calls Try.prog 10 #[v0, v1, v2] w' fun e w'' => e = .returned (.bool true) ∧ Below w'.heap.size w' w'' := by
  subst hw
  obtain ⟨D, hD⟩ := decls_top h0 t0
  obtain ⟨v, le, inp, rfl⟩ := box_open h1 t1
  obtain ⟨s, hs, hn⟩ := st_sized h2 t2 z2
  exact fitsenumlaw D s v0 v2 v le inp w' hD hs hn
end Go.Proofs.Ytklbaocgjegdfaa
