/-
  No cell of these rows narrows 'for every input' (looked for: loops, veiled, ifaces, maps, wideKeys, modest, calm, conditions, laid).
  DERIVED. THE GIVEN ROWS OF THIS SEAT. 8 by the template 'for every input the law returns true; each argument reads behind the call as it read before'; 0 by the template 'total and deterministic' (their statements: YtklbaocgjegdfaaTotals.lean).
  GIVEN WITH THE SEED: the statements are not yours to turn. If you find one false, say at which input.
  Laid BY PROGRAM, IN A SANDBOX (cutbox-rows.mjs): the forced cells as the released guide's own fill.sh prints them over the translation 19ad3b040394f451… (all of the seat's roots in one cut). By AI agents, Wed Nov 11 2026. No macro, syntax, notation, axiom, sorry.
-/
import Derived.Test.YtklbaocgjegdfaaChecked
import GoSem.Claim
import GoSem.ClaimJoined
import GoSem.ClaimMapViews
import Derived.JoinedTies
import Derived.KernelRfl
namespace Go.Proofs.Ytklbaocgjegdfaa
/- THE CELL 'sum', in the pinned program and in every row, IS THE sha256 OF THE DUMP (.gsa) THAT YtklbaocgjegdfaaProg.lean LOADS. Nothing in Lean hashes anything: it is a label: what it is worth is what the hold of that sum in a sandbox is worth. -/
noncomputable def Try.pinned : Pinned := { name := "ytklbaocgjegdfaa", sum := "19ad3b040394f4517f733aad24f45a0731a377ddd17394ed3d7f094d174c9d70", checked := Try.checked }
namespace Rows
def none {H : Type} : Left H := { results := [], args := [] }

/-- 'backsteplaw12.EnumerateAll': WHATEVER THE INPUT: true; the input reads as it did. -/
def enumerateAllSpec : ChangeSpec := { name := "enumerateAll", fn := fun _ => fun
  | [d1, d2] => { results := [.lit (.bool true)], args := [d1, d2] }
  | _ => none }
def enumerateAllRow : OpenClaim := { program := "ytklbaocgjegdfaa", sum := "19ad3b040394f4517f733aad24f45a0731a377ddd17394ed3d7f094d174c9d70", func := "backstep/backsteplaw12.EnumerateAll", spec := "enumerateAll", unfollowed := true, recurses := true, apart := false }
def EnumerateAllSaid : Prop := enumerateAllRow.holds Try.pinned (OpenSpec.ofChange enumerateAllSpec)

/-- ITS FALSE NEIGHBOUR: 'it returns false'. Refute it at one input. -/
def enumerateAllWrong : ChangeSpec := { name := "enumerateAll", fn := fun _ => fun
  | [d1, d2] => { results := [.lit (.bool false)], args := [d1, d2] }
  | _ => none }
def EnumerateAllWrongFalsely : Prop := enumerateAllRow.holds Try.pinned (OpenSpec.ofChange enumerateAllWrong)

/-- 'backsteplaw12.EnumerateRank': WHATEVER THE INPUT: true; the input reads as it did. -/
def enumerateRankSpec : ChangeSpec := { name := "enumerateRank", fn := fun _ => fun
  | [d1, d2] => { results := [.lit (.bool true)], args := [d1, d2] }
  | _ => none }
def enumerateRankRow : OpenClaim := { program := "ytklbaocgjegdfaa", sum := "19ad3b040394f4517f733aad24f45a0731a377ddd17394ed3d7f094d174c9d70", func := "backstep/backsteplaw12.EnumerateRank", spec := "enumerateRank", unfollowed := true, recurses := true, apart := false }
def EnumerateRankSaid : Prop := enumerateRankRow.holds Try.pinned (OpenSpec.ofChange enumerateRankSpec)

/-- ITS FALSE NEIGHBOUR: 'it returns false'. Refute it at one input. -/
def enumerateRankWrong : ChangeSpec := { name := "enumerateRank", fn := fun _ => fun
  | [d1, d2] => { results := [.lit (.bool false)], args := [d1, d2] }
  | _ => none }
def EnumerateRankWrongFalsely : Prop := enumerateRankRow.holds Try.pinned (OpenSpec.ofChange enumerateRankWrong)

/-- 'backsteplaw12.EnumerateWeight': WHATEVER THE INPUT: true; the input reads as it did. -/
def enumerateWeightSpec : ChangeSpec := { name := "enumerateWeight", fn := fun _ => fun
  | [d] => { results := [.lit (.bool true)], args := [d] }
  | _ => none }
def enumerateWeightRow : OpenClaim := { program := "ytklbaocgjegdfaa", sum := "19ad3b040394f4517f733aad24f45a0731a377ddd17394ed3d7f094d174c9d70", func := "backstep/backsteplaw12.EnumerateWeight", spec := "enumerateWeight", unfollowed := true, recurses := true, apart := false }
def EnumerateWeightSaid : Prop := enumerateWeightRow.holds Try.pinned (OpenSpec.ofChange enumerateWeightSpec)

/-- ITS FALSE NEIGHBOUR: 'it returns false'. Refute it at one input. -/
def enumerateWeightWrong : ChangeSpec := { name := "enumerateWeight", fn := fun _ => fun
  | [d] => { results := [.lit (.bool false)], args := [d] }
  | _ => none }
def EnumerateWeightWrongFalsely : Prop := enumerateWeightRow.holds Try.pinned (OpenSpec.ofChange enumerateWeightWrong)

/-- 'backsteplaw12.EnumerateStops': WHATEVER THE INPUT: true; the input reads as it did. -/
def enumerateStopsSpec : ChangeSpec := { name := "enumerateStops", fn := fun _ => fun
  | [d1, d2, d3] => { results := [.lit (.bool true)], args := [d1, d2, d3] }
  | _ => none }
def enumerateStopsRow : OpenClaim := { program := "ytklbaocgjegdfaa", sum := "19ad3b040394f4517f733aad24f45a0731a377ddd17394ed3d7f094d174c9d70", func := "backstep/backsteplaw12.EnumerateStops", spec := "enumerateStops", unfollowed := true, recurses := true, apart := false }
def EnumerateStopsSaid : Prop := enumerateStopsRow.holds Try.pinned (OpenSpec.ofChange enumerateStopsSpec)

/-- ITS FALSE NEIGHBOUR: 'it returns false'. Refute it at one input. -/
def enumerateStopsWrong : ChangeSpec := { name := "enumerateStops", fn := fun _ => fun
  | [d1, d2, d3] => { results := [.lit (.bool false)], args := [d1, d2, d3] }
  | _ => none }
def EnumerateStopsWrongFalsely : Prop := enumerateStopsRow.holds Try.pinned (OpenSpec.ofChange enumerateStopsWrong)

/-- 'backsteplaw12.EnumerateNested': WHATEVER THE INPUT: true; the input reads as it did. -/
def enumerateNestedSpec : ChangeSpec := { name := "enumerateNested", fn := fun _ => fun
  | [d1, d2, d3, d4, d5] => { results := [.lit (.bool true)], args := [d1, d2, d3, d4, d5] }
  | _ => none }
def enumerateNestedRow : OpenClaim := { program := "ytklbaocgjegdfaa", sum := "19ad3b040394f4517f733aad24f45a0731a377ddd17394ed3d7f094d174c9d70", func := "backstep/backsteplaw12.EnumerateNested", spec := "enumerateNested", unfollowed := true, recurses := true, apart := false }
def EnumerateNestedSaid : Prop := enumerateNestedRow.holds Try.pinned (OpenSpec.ofChange enumerateNestedSpec)

/-- ITS FALSE NEIGHBOUR: 'it returns false'. Refute it at one input. -/
def enumerateNestedWrong : ChangeSpec := { name := "enumerateNested", fn := fun _ => fun
  | [d1, d2, d3, d4, d5] => { results := [.lit (.bool false)], args := [d1, d2, d3, d4, d5] }
  | _ => none }
def EnumerateNestedWrongFalsely : Prop := enumerateNestedRow.holds Try.pinned (OpenSpec.ofChange enumerateNestedWrong)

/-- 'backsteplaw12.EnumerateLess': WHATEVER THE INPUT: true; the input reads as it did. -/
def enumerateLessSpec : ChangeSpec := { name := "enumerateLess", fn := fun _ => fun
  | [d1, d2] => { results := [.lit (.bool true)], args := [d1, d2] }
  | _ => none }
def enumerateLessRow : OpenClaim := { program := "ytklbaocgjegdfaa", sum := "19ad3b040394f4517f733aad24f45a0731a377ddd17394ed3d7f094d174c9d70", func := "backstep/backsteplaw12.EnumerateLess", spec := "enumerateLess", unfollowed := true, recurses := true, apart := false }
def EnumerateLessSaid : Prop := enumerateLessRow.holds Try.pinned (OpenSpec.ofChange enumerateLessSpec)

/-- ITS FALSE NEIGHBOUR: 'it returns false'. Refute it at one input. -/
def enumerateLessWrong : ChangeSpec := { name := "enumerateLess", fn := fun _ => fun
  | [d1, d2] => { results := [.lit (.bool false)], args := [d1, d2] }
  | _ => none }
def EnumerateLessWrongFalsely : Prop := enumerateLessRow.holds Try.pinned (OpenSpec.ofChange enumerateLessWrong)

/-- 'backsteplaw12.EnumerateOrder': WHATEVER THE INPUT: true; the input reads as it did. -/
def enumerateOrderSpec : ChangeSpec := { name := "enumerateOrder", fn := fun _ => fun
  | [d1, d2, d3] => { results := [.lit (.bool true)], args := [d1, d2, d3] }
  | _ => none }
def enumerateOrderRow : OpenClaim := { program := "ytklbaocgjegdfaa", sum := "19ad3b040394f4517f733aad24f45a0731a377ddd17394ed3d7f094d174c9d70", func := "backstep/backsteplaw12.EnumerateOrder", spec := "enumerateOrder", unfollowed := true, recurses := true, apart := false }
def EnumerateOrderSaid : Prop := enumerateOrderRow.holds Try.pinned (OpenSpec.ofChange enumerateOrderSpec)

/-- ITS FALSE NEIGHBOUR: 'it returns false'. Refute it at one input. -/
def enumerateOrderWrong : ChangeSpec := { name := "enumerateOrder", fn := fun _ => fun
  | [d1, d2, d3] => { results := [.lit (.bool false)], args := [d1, d2, d3] }
  | _ => none }
def EnumerateOrderWrongFalsely : Prop := enumerateOrderRow.holds Try.pinned (OpenSpec.ofChange enumerateOrderWrong)

/-- 'backsteplaw12.EnumerateFits': WHATEVER THE INPUT: true; the input reads as it did. -/
def enumerateFitsSpec : ChangeSpec := { name := "enumerateFits", fn := fun _ => fun
  | [d1, d2, d3] => { results := [.lit (.bool true)], args := [d1, d2, d3] }
  | _ => none }
def enumerateFitsRow : OpenClaim := { program := "ytklbaocgjegdfaa", sum := "19ad3b040394f4517f733aad24f45a0731a377ddd17394ed3d7f094d174c9d70", func := "backstep/backsteplaw12.EnumerateFits", spec := "enumerateFits", unfollowed := true, recurses := true, apart := false }
def EnumerateFitsSaid : Prop := enumerateFitsRow.holds Try.pinned (OpenSpec.ofChange enumerateFitsSpec)

/-- ITS FALSE NEIGHBOUR: 'it returns false'. Refute it at one input. -/
def enumerateFitsWrong : ChangeSpec := { name := "enumerateFits", fn := fun _ => fun
  | [d1, d2, d3] => { results := [.lit (.bool false)], args := [d1, d2, d3] }
  | _ => none }
def EnumerateFitsWrongFalsely : Prop := enumerateFitsRow.holds Try.pinned (OpenSpec.ofChange enumerateFitsWrong)

/- THE SECOND FORM. 'bulk': how many values and letters a reading holds, each counted each time it is reached (what is shared counts as often as it is met; a slice's spare places count too). A statement '..UptoSaid' is the law's where the arguments, and the package variables that the reading takes, are together of bulk at most 1048576: NARROWER than '..Said'. Prove '..Said' where nothing that the law and all that it calls make is longer than what came in: it says more and counts as full. Else prove '..UptoSaid'. A law counts once. -/
mutual
def uptoBulk {H : Type} : DataW H → Nat
  | .lit (.string bytes) => bytes.length + 1
  | .lit _ => 1
  | .nil => 1
  | .ptr d => uptoBulk d + 1
  | .slice elems spare => uptoBulkAll elems + uptoBulkAll spare + 1
  | .agg parts => uptoBulkAll parts + 1
  | .iface _ d => uptoBulk d + 1
  | .map entries => uptoBulkEntries entries + 1
  | .held _ => 1
def uptoBulkAll {H : Type} : List (DataW H) → Nat
  | [] => 0
  | d :: r => uptoBulk d + uptoBulkAll r
def uptoBulkEntries {H : Type} : List (Lit × DataW H) → Nat
  | [] => 0
  | x :: r => uptoBulkEntry x + uptoBulkEntries r
def uptoBulkEntry {H : Type} : Lit × DataW H → Nat
  | (.string bytes, d) => bytes.length + uptoBulk d + 1
  | (_, d) => uptoBulk d + 1
 end
def uptoSmall : (H : Type) → List (DataW H) → Bool := fun _ ds => decide (uptoBulkAll ds ≤ 1048576)
def OpenSpec.upto (s : _root_.Go.ChangeSpec) : _root_.Go.OpenSpec := { _root_.Go.OpenSpec.ofChange s with cond := some uptoSmall }

/-- 'backsteplaw12.EnumerateAll', WHERE WHAT IT READS IS OF BULK AT MOST 1048576: true; the input reads as it did. -/
def enumerateAllUptoRow : OpenClaim := { program := "ytklbaocgjegdfaa", sum := "19ad3b040394f4517f733aad24f45a0731a377ddd17394ed3d7f094d174c9d70", func := "backstep/backsteplaw12.EnumerateAll", spec := "enumerateAll", unfollowed := true, recurses := true, apart := false, narrowed := true }
def EnumerateAllUptoSaid : Prop := enumerateAllUptoRow.holds Try.pinned (OpenSpec.upto enumerateAllSpec)

/-- 'backsteplaw12.EnumerateRank', WHERE WHAT IT READS IS OF BULK AT MOST 1048576: true; the input reads as it did. -/
def enumerateRankUptoRow : OpenClaim := { program := "ytklbaocgjegdfaa", sum := "19ad3b040394f4517f733aad24f45a0731a377ddd17394ed3d7f094d174c9d70", func := "backstep/backsteplaw12.EnumerateRank", spec := "enumerateRank", unfollowed := true, recurses := true, apart := false, narrowed := true }
def EnumerateRankUptoSaid : Prop := enumerateRankUptoRow.holds Try.pinned (OpenSpec.upto enumerateRankSpec)

/-- 'backsteplaw12.EnumerateWeight', WHERE WHAT IT READS IS OF BULK AT MOST 1048576: true; the input reads as it did. -/
def enumerateWeightUptoRow : OpenClaim := { program := "ytklbaocgjegdfaa", sum := "19ad3b040394f4517f733aad24f45a0731a377ddd17394ed3d7f094d174c9d70", func := "backstep/backsteplaw12.EnumerateWeight", spec := "enumerateWeight", unfollowed := true, recurses := true, apart := false, narrowed := true }
def EnumerateWeightUptoSaid : Prop := enumerateWeightUptoRow.holds Try.pinned (OpenSpec.upto enumerateWeightSpec)

/-- 'backsteplaw12.EnumerateStops', WHERE WHAT IT READS IS OF BULK AT MOST 1048576: true; the input reads as it did. -/
def enumerateStopsUptoRow : OpenClaim := { program := "ytklbaocgjegdfaa", sum := "19ad3b040394f4517f733aad24f45a0731a377ddd17394ed3d7f094d174c9d70", func := "backstep/backsteplaw12.EnumerateStops", spec := "enumerateStops", unfollowed := true, recurses := true, apart := false, narrowed := true }
def EnumerateStopsUptoSaid : Prop := enumerateStopsUptoRow.holds Try.pinned (OpenSpec.upto enumerateStopsSpec)

/-- 'backsteplaw12.EnumerateNested', WHERE WHAT IT READS IS OF BULK AT MOST 1048576: true; the input reads as it did. -/
def enumerateNestedUptoRow : OpenClaim := { program := "ytklbaocgjegdfaa", sum := "19ad3b040394f4517f733aad24f45a0731a377ddd17394ed3d7f094d174c9d70", func := "backstep/backsteplaw12.EnumerateNested", spec := "enumerateNested", unfollowed := true, recurses := true, apart := false, narrowed := true }
def EnumerateNestedUptoSaid : Prop := enumerateNestedUptoRow.holds Try.pinned (OpenSpec.upto enumerateNestedSpec)

/-- 'backsteplaw12.EnumerateLess', WHERE WHAT IT READS IS OF BULK AT MOST 1048576: true; the input reads as it did. -/
def enumerateLessUptoRow : OpenClaim := { program := "ytklbaocgjegdfaa", sum := "19ad3b040394f4517f733aad24f45a0731a377ddd17394ed3d7f094d174c9d70", func := "backstep/backsteplaw12.EnumerateLess", spec := "enumerateLess", unfollowed := true, recurses := true, apart := false, narrowed := true }
def EnumerateLessUptoSaid : Prop := enumerateLessUptoRow.holds Try.pinned (OpenSpec.upto enumerateLessSpec)

/-- 'backsteplaw12.EnumerateOrder', WHERE WHAT IT READS IS OF BULK AT MOST 1048576: true; the input reads as it did. -/
def enumerateOrderUptoRow : OpenClaim := { program := "ytklbaocgjegdfaa", sum := "19ad3b040394f4517f733aad24f45a0731a377ddd17394ed3d7f094d174c9d70", func := "backstep/backsteplaw12.EnumerateOrder", spec := "enumerateOrder", unfollowed := true, recurses := true, apart := false, narrowed := true }
def EnumerateOrderUptoSaid : Prop := enumerateOrderUptoRow.holds Try.pinned (OpenSpec.upto enumerateOrderSpec)

/-- 'backsteplaw12.EnumerateFits', WHERE WHAT IT READS IS OF BULK AT MOST 1048576: true; the input reads as it did. -/
def enumerateFitsUptoRow : OpenClaim := { program := "ytklbaocgjegdfaa", sum := "19ad3b040394f4517f733aad24f45a0731a377ddd17394ed3d7f094d174c9d70", func := "backstep/backsteplaw12.EnumerateFits", spec := "enumerateFits", unfollowed := true, recurses := true, apart := false, narrowed := true }
def EnumerateFitsUptoSaid : Prop := enumerateFitsUptoRow.holds Try.pinned (OpenSpec.upto enumerateFitsSpec)

end Rows
end Go.Proofs.Ytklbaocgjegdfaa
