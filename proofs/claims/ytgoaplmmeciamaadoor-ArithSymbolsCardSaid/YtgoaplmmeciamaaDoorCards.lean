/-
  DERIVED. GIVEN WITH THE SEED: THE CARDS: each row of YtgoaplmmeciamaaDoorRows.lean that lists a variable, with what it lists TIED to the program's text (the seventh form; the later family's looks); each row that meets fmt, with fmt's text TOLD by the authors' own Lean function (tested against real Go, not proved from fmt's source: count such statements apart). THE CARD IS WHAT COUNTS. Prove the row's statement (the work); the ties are given (YtgoaplmmeciamaaDoorTie.lean); close each card by the builder's one call (the guide's Derived/Test/ToyasCard.lean, 'card_holds'). Laid BY PROGRAM, IN A SANDBOX (cutbox-door.mjs). By AI agents, Wed Nov 11 2026. No macro, syntax, notation, axiom, sorry.
-/
import Derived.Test.YtgoaplmmeciamaaDoorRows
import GoSem.ClaimSeven
namespace Go.Proofs.YtgoaplmmeciamaaDoor
namespace Rows

/-- THE TIED CARD OF 'backsteplaw01.ArithSymbols'. -/
def arithSymbolsCard : Claim7 := { stood := { row := arithSymbolsRow, standIns := [], harness := (true, "6034139f1efbb228fbe3d078cd2085bdeb769379a6b4f90bd011955695c12791"), looks := false }, kinds := [], alts := [], laidByText := true, laidKinds := [.data], laidTests := true, laidLooks := .later }
def ArithSymbolsCardSaid : Prop := Claim7.holds Tryd.pinned (.plain (OpenSpec.ofChange arithSymbolsSpec)) arithSymbolsCard

/-- THE SECOND FORM's CARD OF 'backsteplaw01.ArithSymbols'. -/
def arithSymbolsUptoCard : Claim7 := { stood := { row := arithSymbolsUptoRow, standIns := [], harness := (true, "6034139f1efbb228fbe3d078cd2085bdeb769379a6b4f90bd011955695c12791"), looks := false }, kinds := [], alts := [], laidByText := true, laidKinds := [.data], laidTests := true, laidLooks := .later }
def ArithSymbolsUptoCardSaid : Prop := Claim7.holds Tryd.pinned (.plain (OpenSpec.upto arithSymbolsSpec)) arithSymbolsUptoCard
end Rows
end Go.Proofs.YtgoaplmmeciamaaDoor
