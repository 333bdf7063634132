/-
  DERIVED. GIVEN WITH THE SEED: THE CARDS: each row of YtichiccohmeecaaDoorRows.lean that lists a variable, with what it lists TIED to the program's text (the seventh form; the later family's looks); each row that meets fmt, with fmt's text TOLD by the authors' own Lean function (tested against real Go, not proved from fmt's source: count such statements apart). THE CARD IS WHAT COUNTS. Prove the row's statement (the work); the ties are given (YtichiccohmeecaaDoorTie.lean); close each card by the builder's one call (the guide's Derived/Test/ToyasCard.lean, 'card_holds'). Laid BY PROGRAM, IN A SANDBOX (cutbox-door.mjs). By AI agents, Wed Nov 11 2026. No macro, syntax, notation, axiom, sorry.
-/
import Derived.Test.YtichiccohmeecaaDoorRows
import GoSem.ClaimSeven
namespace Go.Proofs.YtichiccohmeecaaDoor
namespace Rows

/-- THE TIED CARD OF 'backsteptop.WholeMachine'. -/
def wholeMachineCard : Claim7 := { stood := { row := wholeMachineRow, standIns := [], harness := (true, "0603dc17fba4b03933cb917c5d0d3c7b8fa3b0bf326b5797aab91ec559a832c6"), looks := false }, kinds := [], alts := [], laidByText := true, laidKinds := [.data], laidTests := true, laidLooks := .later }
def WholeMachineCardSaid : Prop := Claim7.holds Tryd.pinned (.plain (OpenSpec.ofChange wholeMachineSpec)) wholeMachineCard

/-- THE TIED CARD OF 'backsteptop.WholeMirror'. -/
def wholeMirrorCard : Claim7 := { stood := { row := wholeMirrorRow, standIns := [], harness := (true, "0603dc17fba4b03933cb917c5d0d3c7b8fa3b0bf326b5797aab91ec559a832c6"), looks := false }, kinds := [], alts := [], laidByText := true, laidKinds := [.data], laidTests := true, laidLooks := .later }
def WholeMirrorCardSaid : Prop := Claim7.holds Tryd.pinned (.plain (OpenSpec.ofChange wholeMirrorSpec)) wholeMirrorCard

/-- THE SECOND FORM's CARD OF 'backsteptop.WholeMachine'. -/
def wholeMachineUptoCard : Claim7 := { stood := { row := wholeMachineUptoRow, standIns := [], harness := (true, "0603dc17fba4b03933cb917c5d0d3c7b8fa3b0bf326b5797aab91ec559a832c6"), looks := false }, kinds := [], alts := [], laidByText := true, laidKinds := [.data], laidTests := true, laidLooks := .later }
def WholeMachineUptoCardSaid : Prop := Claim7.holds Tryd.pinned (.plain (OpenSpec.upto wholeMachineSpec)) wholeMachineUptoCard

/-- THE SECOND FORM's CARD OF 'backsteptop.WholeMirror'. -/
def wholeMirrorUptoCard : Claim7 := { stood := { row := wholeMirrorUptoRow, standIns := [], harness := (true, "0603dc17fba4b03933cb917c5d0d3c7b8fa3b0bf326b5797aab91ec559a832c6"), looks := false }, kinds := [], alts := [], laidByText := true, laidKinds := [.data], laidTests := true, laidLooks := .later }
def WholeMirrorUptoCardSaid : Prop := Claim7.holds Tryd.pinned (.plain (OpenSpec.upto wholeMirrorSpec)) wholeMirrorUptoCard
end Rows
end Go.Proofs.YtichiccohmeecaaDoor
