/-
  No cell of these rows narrows 'for every input' (looked for: loops, veiled, ifaces, maps, wideKeys, modest, calm, conditions, laid).
  DERIVED. THE GIVEN ROWS OF THIS SEAT. 10 by the template 'for every input the law returns true; each argument reads behind the call as it read before'; 0 by the template 'total and deterministic' (their statements: YtpbbiidfahaamaaTotals.lean).
  GIVEN WITH THE SEED: the statements are not yours to turn. If you find one false, say at which input.
  Laid BY PROGRAM, IN A SANDBOX (cutbox-rows.mjs): the forced cells as the released guide's own fill.sh prints them over the translation 73692bb28a8697d5… (all of the seat's roots in one cut). By AI agents, Wed Nov 11 2026. No macro, syntax, notation, axiom, sorry.
-/
import Derived.Test.YtpbbiidfahaamaaChecked
import GoSem.Claim
import GoSem.ClaimJoined
import GoSem.ClaimMapViews
import Derived.JoinedTies
import Derived.KernelRfl
namespace Go.Proofs.Ytpbbiidfahaamaa
/- THE CELL 'sum', in the pinned program and in every row, IS THE sha256 OF THE DUMP (.gsa) THAT YtpbbiidfahaamaaProg.lean LOADS. Nothing in Lean hashes anything: it is a label: what it is worth is what the hold of that sum in a sandbox is worth. -/
noncomputable def Try.pinned : Pinned := { name := "ytpbbiidfahaamaa", sum := "73692bb28a8697d5ca939a4256be68a126b4126c6ba085c684b4045554f80978", checked := Try.checked }
namespace Rows
def none {H : Type} : Left H := { results := [], args := [] }

/-- 'backsteplaw10.StateDiffs': WHATEVER THE INPUT: true; the input reads as it did. -/
def stateDiffsSpec : ChangeSpec := { name := "stateDiffs", fn := fun _ => fun
  | [d1, d2] => { results := [.lit (.bool true)], args := [d1, d2] }
  | _ => none }
def stateDiffsRow : OpenClaim := { program := "ytpbbiidfahaamaa", sum := "73692bb28a8697d5ca939a4256be68a126b4126c6ba085c684b4045554f80978", func := "backstep/backsteplaw10.StateDiffs", spec := "stateDiffs", unfollowed := true, recurses := true, apart := false }
def StateDiffsSaid : Prop := stateDiffsRow.holds Try.pinned (OpenSpec.ofChange stateDiffsSpec)

/-- ITS FALSE NEIGHBOUR: 'it returns false'. Refute it at one input. -/
def stateDiffsWrong : ChangeSpec := { name := "stateDiffs", fn := fun _ => fun
  | [d1, d2] => { results := [.lit (.bool false)], args := [d1, d2] }
  | _ => none }
def StateDiffsWrongFalsely : Prop := stateDiffsRow.holds Try.pinned (OpenSpec.ofChange stateDiffsWrong)

/-- 'backsteplaw10.StateStarts': WHATEVER THE INPUT: true; the input reads as it did. -/
def stateStartsSpec : ChangeSpec := { name := "stateStarts", fn := fun _ => fun
  | [d1, d2] => { results := [.lit (.bool true)], args := [d1, d2] }
  | _ => none }
def stateStartsRow : OpenClaim := { program := "ytpbbiidfahaamaa", sum := "73692bb28a8697d5ca939a4256be68a126b4126c6ba085c684b4045554f80978", func := "backstep/backsteplaw10.StateStarts", spec := "stateStarts", unfollowed := true, recurses := true, apart := false }
def StateStartsSaid : Prop := stateStartsRow.holds Try.pinned (OpenSpec.ofChange stateStartsSpec)

/-- ITS FALSE NEIGHBOUR: 'it returns false'. Refute it at one input. -/
def stateStartsWrong : ChangeSpec := { name := "stateStarts", fn := fun _ => fun
  | [d1, d2] => { results := [.lit (.bool false)], args := [d1, d2] }
  | _ => none }
def StateStartsWrongFalsely : Prop := stateStartsRow.holds Try.pinned (OpenSpec.ofChange stateStartsWrong)

/-- 'backsteplaw10.StateFits': WHATEVER THE INPUT: true; the input reads as it did. -/
def stateFitsSpec : ChangeSpec := { name := "stateFits", fn := fun _ => fun
  | [d1, d2, d3] => { results := [.lit (.bool true)], args := [d1, d2, d3] }
  | _ => none }
def stateFitsRow : OpenClaim := { program := "ytpbbiidfahaamaa", sum := "73692bb28a8697d5ca939a4256be68a126b4126c6ba085c684b4045554f80978", func := "backstep/backsteplaw10.StateFits", spec := "stateFits", unfollowed := true, recurses := true, apart := false }
def StateFitsSaid : Prop := stateFitsRow.holds Try.pinned (OpenSpec.ofChange stateFitsSpec)

/-- ITS FALSE NEIGHBOUR: 'it returns false'. Refute it at one input. -/
def stateFitsWrong : ChangeSpec := { name := "stateFits", fn := fun _ => fun
  | [d1, d2, d3] => { results := [.lit (.bool false)], args := [d1, d2, d3] }
  | _ => none }
def StateFitsWrongFalsely : Prop := stateFitsRow.holds Try.pinned (OpenSpec.ofChange stateFitsWrong)

/-- 'backsteplaw10.StateSorts': WHATEVER THE INPUT: true; the input reads as it did. -/
def stateSortsSpec : ChangeSpec := { name := "stateSorts", fn := fun _ => fun
  | [d1, d2, d3] => { results := [.lit (.bool true)], args := [d1, d2, d3] }
  | _ => none }
def stateSortsRow : OpenClaim := { program := "ytpbbiidfahaamaa", sum := "73692bb28a8697d5ca939a4256be68a126b4126c6ba085c684b4045554f80978", func := "backstep/backsteplaw10.StateSorts", spec := "stateSorts", unfollowed := true, recurses := true, apart := false }
def StateSortsSaid : Prop := stateSortsRow.holds Try.pinned (OpenSpec.ofChange stateSortsSpec)

/-- ITS FALSE NEIGHBOUR: 'it returns false'. Refute it at one input. -/
def stateSortsWrong : ChangeSpec := { name := "stateSorts", fn := fun _ => fun
  | [d1, d2, d3] => { results := [.lit (.bool false)], args := [d1, d2, d3] }
  | _ => none }
def StateSortsWrongFalsely : Prop := stateSortsRow.holds Try.pinned (OpenSpec.ofChange stateSortsWrong)

/-- 'backsteplaw10.StateClones': WHATEVER THE INPUT: true; the input reads as it did. -/
def stateClonesSpec : ChangeSpec := { name := "stateClones", fn := fun _ => fun
  | [d1, d2] => { results := [.lit (.bool true)], args := [d1, d2] }
  | _ => none }
def stateClonesRow : OpenClaim := { program := "ytpbbiidfahaamaa", sum := "73692bb28a8697d5ca939a4256be68a126b4126c6ba085c684b4045554f80978", func := "backstep/backsteplaw10.StateClones", spec := "stateClones", unfollowed := true, recurses := true, apart := false }
def StateClonesSaid : Prop := stateClonesRow.holds Try.pinned (OpenSpec.ofChange stateClonesSpec)

/-- ITS FALSE NEIGHBOUR: 'it returns false'. Refute it at one input. -/
def stateClonesWrong : ChangeSpec := { name := "stateClones", fn := fun _ => fun
  | [d1, d2] => { results := [.lit (.bool false)], args := [d1, d2] }
  | _ => none }
def StateClonesWrongFalsely : Prop := stateClonesRow.holds Try.pinned (OpenSpec.ofChange stateClonesWrong)

/-- 'backsteplaw10.StateEncodes': WHATEVER THE INPUT: true; the input reads as it did. -/
def stateEncodesSpec : ChangeSpec := { name := "stateEncodes", fn := fun _ => fun
  | [d1, d2] => { results := [.lit (.bool true)], args := [d1, d2] }
  | _ => none }
def stateEncodesRow : OpenClaim := { program := "ytpbbiidfahaamaa", sum := "73692bb28a8697d5ca939a4256be68a126b4126c6ba085c684b4045554f80978", func := "backstep/backsteplaw10.StateEncodes", spec := "stateEncodes", unfollowed := true, recurses := true, apart := false }
def StateEncodesSaid : Prop := stateEncodesRow.holds Try.pinned (OpenSpec.ofChange stateEncodesSpec)

/-- ITS FALSE NEIGHBOUR: 'it returns false'. Refute it at one input. -/
def stateEncodesWrong : ChangeSpec := { name := "stateEncodes", fn := fun _ => fun
  | [d1, d2] => { results := [.lit (.bool false)], args := [d1, d2] }
  | _ => none }
def StateEncodesWrongFalsely : Prop := stateEncodesRow.holds Try.pinned (OpenSpec.ofChange stateEncodesWrong)

/-- 'backsteplaw10.StateDecodes': WHATEVER THE INPUT: true; the input reads as it did. -/
def stateDecodesSpec : ChangeSpec := { name := "stateDecodes", fn := fun _ => fun
  | [d1, d2] => { results := [.lit (.bool true)], args := [d1, d2] }
  | _ => none }
def stateDecodesRow : OpenClaim := { program := "ytpbbiidfahaamaa", sum := "73692bb28a8697d5ca939a4256be68a126b4126c6ba085c684b4045554f80978", func := "backstep/backsteplaw10.StateDecodes", spec := "stateDecodes", unfollowed := true, recurses := true, apart := false }
def StateDecodesSaid : Prop := stateDecodesRow.holds Try.pinned (OpenSpec.ofChange stateDecodesSpec)

/-- ITS FALSE NEIGHBOUR: 'it returns false'. Refute it at one input. -/
def stateDecodesWrong : ChangeSpec := { name := "stateDecodes", fn := fun _ => fun
  | [d1, d2] => { results := [.lit (.bool false)], args := [d1, d2] }
  | _ => none }
def StateDecodesWrongFalsely : Prop := stateDecodesRow.holds Try.pinned (OpenSpec.ofChange stateDecodesWrong)

/-- 'backsteplaw10.StateApplies': WHATEVER THE INPUT: true; the input reads as it did. -/
def stateAppliesSpec : ChangeSpec := { name := "stateApplies", fn := fun _ => fun
  | [d1, d2] => { results := [.lit (.bool true)], args := [d1, d2] }
  | _ => none }
def stateAppliesRow : OpenClaim := { program := "ytpbbiidfahaamaa", sum := "73692bb28a8697d5ca939a4256be68a126b4126c6ba085c684b4045554f80978", func := "backstep/backsteplaw10.StateApplies", spec := "stateApplies", unfollowed := true, recurses := true, apart := false }
def StateAppliesSaid : Prop := stateAppliesRow.holds Try.pinned (OpenSpec.ofChange stateAppliesSpec)

/-- ITS FALSE NEIGHBOUR: 'it returns false'. Refute it at one input. -/
def stateAppliesWrong : ChangeSpec := { name := "stateApplies", fn := fun _ => fun
  | [d1, d2] => { results := [.lit (.bool false)], args := [d1, d2] }
  | _ => none }
def StateAppliesWrongFalsely : Prop := stateAppliesRow.holds Try.pinned (OpenSpec.ofChange stateAppliesWrong)

/-- 'backsteplaw10.StateTurns': WHATEVER THE INPUT: true; the input reads as it did. -/
def stateTurnsSpec : ChangeSpec := { name := "stateTurns", fn := fun _ => fun
  | [d1, d2] => { results := [.lit (.bool true)], args := [d1, d2] }
  | _ => none }
def stateTurnsRow : OpenClaim := { program := "ytpbbiidfahaamaa", sum := "73692bb28a8697d5ca939a4256be68a126b4126c6ba085c684b4045554f80978", func := "backstep/backsteplaw10.StateTurns", spec := "stateTurns", unfollowed := true, recurses := true, apart := false }
def StateTurnsSaid : Prop := stateTurnsRow.holds Try.pinned (OpenSpec.ofChange stateTurnsSpec)

/-- ITS FALSE NEIGHBOUR: 'it returns false'. Refute it at one input. -/
def stateTurnsWrong : ChangeSpec := { name := "stateTurns", fn := fun _ => fun
  | [d1, d2] => { results := [.lit (.bool false)], args := [d1, d2] }
  | _ => none }
def StateTurnsWrongFalsely : Prop := stateTurnsRow.holds Try.pinned (OpenSpec.ofChange stateTurnsWrong)

/-- 'backsteplaw10.StateUndoes': WHATEVER THE INPUT: true; the input reads as it did. -/
def stateUndoesSpec : ChangeSpec := { name := "stateUndoes", fn := fun _ => fun
  | [d1, d2] => { results := [.lit (.bool true)], args := [d1, d2] }
  | _ => none }
def stateUndoesRow : OpenClaim := { program := "ytpbbiidfahaamaa", sum := "73692bb28a8697d5ca939a4256be68a126b4126c6ba085c684b4045554f80978", func := "backstep/backsteplaw10.StateUndoes", spec := "stateUndoes", unfollowed := true, recurses := true, apart := false }
def StateUndoesSaid : Prop := stateUndoesRow.holds Try.pinned (OpenSpec.ofChange stateUndoesSpec)

/-- ITS FALSE NEIGHBOUR: 'it returns false'. Refute it at one input. -/
def stateUndoesWrong : ChangeSpec := { name := "stateUndoes", fn := fun _ => fun
  | [d1, d2] => { results := [.lit (.bool false)], args := [d1, d2] }
  | _ => none }
def StateUndoesWrongFalsely : Prop := stateUndoesRow.holds Try.pinned (OpenSpec.ofChange stateUndoesWrong)

/- THE SECOND FORM. 'bulk': how many values and letters a reading holds, each counted each time it is reached (what is shared counts as often as it is met; a slice's spare places count too). A statement '..UptoSaid' is the law's where the arguments, and the package variables that the reading takes, are together of bulk at most 1048576: NARROWER than '..Said'. Prove '..Said' where nothing that the law and all that it calls make is longer than what came in: it says more and counts as full. Else prove '..UptoSaid'. A law counts once. -/
mutual
def uptoBulk {H : Type} : DataW H → Nat
  | .lit (.string bytes) => bytes.length + 1
  | .lit _ => 1
  | .nil => 1
  | .ptr d => uptoBulk d + 1
  | .slice elems spare => uptoBulkAll elems + uptoBulkAll spare + 1
  | .agg parts => uptoBulkAll parts + 1
  | .iface _ d => uptoBulk d + 1
  | .map entries => uptoBulkEntries entries + 1
  | .held _ => 1
def uptoBulkAll {H : Type} : List (DataW H) → Nat
  | [] => 0
  | d :: r => uptoBulk d + uptoBulkAll r
def uptoBulkEntries {H : Type} : List (Lit × DataW H) → Nat
  | [] => 0
  | x :: r => uptoBulkEntry x + uptoBulkEntries r
def uptoBulkEntry {H : Type} : Lit × DataW H → Nat
  | (.string bytes, d) => bytes.length + uptoBulk d + 1
  | (_, d) => uptoBulk d + 1
 end
def uptoSmall : (H : Type) → List (DataW H) → Bool := fun _ ds => decide (uptoBulkAll ds ≤ 1048576)
def OpenSpec.upto (s : _root_.Go.ChangeSpec) : _root_.Go.OpenSpec := { _root_.Go.OpenSpec.ofChange s with cond := some uptoSmall }

/-- 'backsteplaw10.StateDiffs', WHERE WHAT IT READS IS OF BULK AT MOST 1048576: true; the input reads as it did. -/
def stateDiffsUptoRow : OpenClaim := { program := "ytpbbiidfahaamaa", sum := "73692bb28a8697d5ca939a4256be68a126b4126c6ba085c684b4045554f80978", func := "backstep/backsteplaw10.StateDiffs", spec := "stateDiffs", unfollowed := true, recurses := true, apart := false, narrowed := true }
def StateDiffsUptoSaid : Prop := stateDiffsUptoRow.holds Try.pinned (OpenSpec.upto stateDiffsSpec)

/-- 'backsteplaw10.StateStarts', WHERE WHAT IT READS IS OF BULK AT MOST 1048576: true; the input reads as it did. -/
def stateStartsUptoRow : OpenClaim := { program := "ytpbbiidfahaamaa", sum := "73692bb28a8697d5ca939a4256be68a126b4126c6ba085c684b4045554f80978", func := "backstep/backsteplaw10.StateStarts", spec := "stateStarts", unfollowed := true, recurses := true, apart := false, narrowed := true }
def StateStartsUptoSaid : Prop := stateStartsUptoRow.holds Try.pinned (OpenSpec.upto stateStartsSpec)

/-- 'backsteplaw10.StateFits', WHERE WHAT IT READS IS OF BULK AT MOST 1048576: true; the input reads as it did. -/
def stateFitsUptoRow : OpenClaim := { program := "ytpbbiidfahaamaa", sum := "73692bb28a8697d5ca939a4256be68a126b4126c6ba085c684b4045554f80978", func := "backstep/backsteplaw10.StateFits", spec := "stateFits", unfollowed := true, recurses := true, apart := false, narrowed := true }
def StateFitsUptoSaid : Prop := stateFitsUptoRow.holds Try.pinned (OpenSpec.upto stateFitsSpec)

/-- 'backsteplaw10.StateSorts', WHERE WHAT IT READS IS OF BULK AT MOST 1048576: true; the input reads as it did. -/
def stateSortsUptoRow : OpenClaim := { program := "ytpbbiidfahaamaa", sum := "73692bb28a8697d5ca939a4256be68a126b4126c6ba085c684b4045554f80978", func := "backstep/backsteplaw10.StateSorts", spec := "stateSorts", unfollowed := true, recurses := true, apart := false, narrowed := true }
def StateSortsUptoSaid : Prop := stateSortsUptoRow.holds Try.pinned (OpenSpec.upto stateSortsSpec)

/-- 'backsteplaw10.StateClones', WHERE WHAT IT READS IS OF BULK AT MOST 1048576: true; the input reads as it did. -/
def stateClonesUptoRow : OpenClaim := { program := "ytpbbiidfahaamaa", sum := "73692bb28a8697d5ca939a4256be68a126b4126c6ba085c684b4045554f80978", func := "backstep/backsteplaw10.StateClones", spec := "stateClones", unfollowed := true, recurses := true, apart := false, narrowed := true }
def StateClonesUptoSaid : Prop := stateClonesUptoRow.holds Try.pinned (OpenSpec.upto stateClonesSpec)

/-- 'backsteplaw10.StateEncodes', WHERE WHAT IT READS IS OF BULK AT MOST 1048576: true; the input reads as it did. -/
def stateEncodesUptoRow : OpenClaim := { program := "ytpbbiidfahaamaa", sum := "73692bb28a8697d5ca939a4256be68a126b4126c6ba085c684b4045554f80978", func := "backstep/backsteplaw10.StateEncodes", spec := "stateEncodes", unfollowed := true, recurses := true, apart := false, narrowed := true }
def StateEncodesUptoSaid : Prop := stateEncodesUptoRow.holds Try.pinned (OpenSpec.upto stateEncodesSpec)

/-- 'backsteplaw10.StateDecodes', WHERE WHAT IT READS IS OF BULK AT MOST 1048576: true; the input reads as it did. -/
def stateDecodesUptoRow : OpenClaim := { program := "ytpbbiidfahaamaa", sum := "73692bb28a8697d5ca939a4256be68a126b4126c6ba085c684b4045554f80978", func := "backstep/backsteplaw10.StateDecodes", spec := "stateDecodes", unfollowed := true, recurses := true, apart := false, narrowed := true }
def StateDecodesUptoSaid : Prop := stateDecodesUptoRow.holds Try.pinned (OpenSpec.upto stateDecodesSpec)

/-- 'backsteplaw10.StateApplies', WHERE WHAT IT READS IS OF BULK AT MOST 1048576: true; the input reads as it did. -/
def stateAppliesUptoRow : OpenClaim := { program := "ytpbbiidfahaamaa", sum := "73692bb28a8697d5ca939a4256be68a126b4126c6ba085c684b4045554f80978", func := "backstep/backsteplaw10.StateApplies", spec := "stateApplies", unfollowed := true, recurses := true, apart := false, narrowed := true }
def StateAppliesUptoSaid : Prop := stateAppliesUptoRow.holds Try.pinned (OpenSpec.upto stateAppliesSpec)

/-- 'backsteplaw10.StateTurns', WHERE WHAT IT READS IS OF BULK AT MOST 1048576: true; the input reads as it did. -/
def stateTurnsUptoRow : OpenClaim := { program := "ytpbbiidfahaamaa", sum := "73692bb28a8697d5ca939a4256be68a126b4126c6ba085c684b4045554f80978", func := "backstep/backsteplaw10.StateTurns", spec := "stateTurns", unfollowed := true, recurses := true, apart := false, narrowed := true }
def StateTurnsUptoSaid : Prop := stateTurnsUptoRow.holds Try.pinned (OpenSpec.upto stateTurnsSpec)

/-- 'backsteplaw10.StateUndoes', WHERE WHAT IT READS IS OF BULK AT MOST 1048576: true; the input reads as it did. -/
def stateUndoesUptoRow : OpenClaim := { program := "ytpbbiidfahaamaa", sum := "73692bb28a8697d5ca939a4256be68a126b4126c6ba085c684b4045554f80978", func := "backstep/backsteplaw10.StateUndoes", spec := "stateUndoes", unfollowed := true, recurses := true, apart := false, narrowed := true }
def StateUndoesUptoSaid : Prop := stateUndoesUptoRow.holds Try.pinned (OpenSpec.upto stateUndoesSpec)

end Rows
end Go.Proofs.Ytpbbiidfahaamaa
