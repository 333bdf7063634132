/-
  NARROWER THAN 'FOR EVERY INPUT', by the rows' own cells (each row's printed sentence says how): EvalMentioned: loops · EvalStrict: loops · EvalExprs: loops · EvalIndex: loops · EvalOwn: loops · EvalConst: loops · EvalFolds: loops.
  DERIVED. THE GIVEN ROWS OF THIS SEAT. 8 by the template 'for every input the law returns true; each argument reads behind the call as it read before'; 0 by the template 'total and deterministic' (their statements: YtlpmoklcdocmmaaTotals.lean).
  GIVEN WITH THE SEED: the statements are not yours to turn. If you find one false, say at which input.
  Laid BY PROGRAM, IN A SANDBOX (cutbox-rows.mjs): the forced cells as the released guide's own fill.sh prints them over the translation b338f762e6b14e1d… (all of the seat's roots in one cut). By AI agents, Wed Nov 11 2026. No macro, syntax, notation, axiom, sorry.
-/
import Derived.Test.YtlpmoklcdocmmaaChecked
import GoSem.Claim
import GoSem.ClaimJoined
import GoSem.ClaimMapViews
import Derived.JoinedTies
import Derived.KernelRfl
namespace Go.Proofs.Ytlpmoklcdocmmaa
/- THE CELL 'sum', in the pinned program and in every row, IS THE sha256 OF THE DUMP (.gsa) THAT YtlpmoklcdocmmaaProg.lean LOADS. Nothing in Lean hashes anything: it is a label: what it is worth is what the hold of that sum in a sandbox is worth. -/
noncomputable def Try.pinned : Pinned := { name := "ytlpmoklcdocmmaa", sum := "b338f762e6b14e1d9977a14d7a9f7efead288688481679c0cfd0714ace7c159a", checked := Try.checked }
namespace Rows
def none {H : Type} : Left H := { results := [], args := [] }

/-- 'backsteplaw13.EvalMentioned': WHATEVER THE INPUT: true; the input reads as it did. -/
def evalMentionedSpec : ChangeSpec := { name := "evalMentioned", fn := fun _ => fun
  | [d1, d2, d3, d4] => { results := [.lit (.bool true)], args := [d1, d2, d3, d4] }
  | _ => none }
def evalMentionedRow : OpenClaim := { program := "ytlpmoklcdocmmaa", sum := "b338f762e6b14e1d9977a14d7a9f7efead288688481679c0cfd0714ace7c159a", func := "backstep/backsteplaw13.EvalMentioned", spec := "evalMentioned", inPlace := ["internal/bytealg.IndexByteString"], unfollowed := true, recurses := true, loops := true, apart := false }
def EvalMentionedSaid : Prop := evalMentionedRow.holds Try.pinned (OpenSpec.ofChange evalMentionedSpec)

/-- ITS FALSE NEIGHBOUR: 'it returns false'. Refute it at one input. -/
def evalMentionedWrong : ChangeSpec := { name := "evalMentioned", fn := fun _ => fun
  | [d1, d2, d3, d4] => { results := [.lit (.bool false)], args := [d1, d2, d3, d4] }
  | _ => none }
def EvalMentionedWrongFalsely : Prop := evalMentionedRow.holds Try.pinned (OpenSpec.ofChange evalMentionedWrong)

/-- 'backsteplaw13.EvalStrict': WHATEVER THE INPUT: true; the input reads as it did. -/
def evalStrictSpec : ChangeSpec := { name := "evalStrict", fn := fun _ => fun
  | [d1, d2, d3, d4] => { results := [.lit (.bool true)], args := [d1, d2, d3, d4] }
  | _ => none }
def evalStrictRow : OpenClaim := { program := "ytlpmoklcdocmmaa", sum := "b338f762e6b14e1d9977a14d7a9f7efead288688481679c0cfd0714ace7c159a", func := "backstep/backsteplaw13.EvalStrict", spec := "evalStrict", inPlace := ["internal/bytealg.IndexByteString"], unfollowed := true, recurses := true, loops := true, apart := false }
def EvalStrictSaid : Prop := evalStrictRow.holds Try.pinned (OpenSpec.ofChange evalStrictSpec)

/-- ITS FALSE NEIGHBOUR: 'it returns false'. Refute it at one input. -/
def evalStrictWrong : ChangeSpec := { name := "evalStrict", fn := fun _ => fun
  | [d1, d2, d3, d4] => { results := [.lit (.bool false)], args := [d1, d2, d3, d4] }
  | _ => none }
def EvalStrictWrongFalsely : Prop := evalStrictRow.holds Try.pinned (OpenSpec.ofChange evalStrictWrong)

/-- 'backsteplaw13.EvalItems': WHATEVER THE INPUT: true; the input reads as it did. -/
def evalItemsSpec : ChangeSpec := { name := "evalItems", fn := fun _ => fun
  | [d1, d2] => { results := [.lit (.bool true)], args := [d1, d2] }
  | _ => none }
def evalItemsRow : OpenClaim := { program := "ytlpmoklcdocmmaa", sum := "b338f762e6b14e1d9977a14d7a9f7efead288688481679c0cfd0714ace7c159a", func := "backstep/backsteplaw13.EvalItems", spec := "evalItems", inPlace := ["internal/bytealg.IndexByteString"], unfollowed := true, recurses := true, apart := false }
def EvalItemsSaid : Prop := evalItemsRow.holds Try.pinned (OpenSpec.ofChange evalItemsSpec)

/-- ITS FALSE NEIGHBOUR: 'it returns false'. Refute it at one input. -/
def evalItemsWrong : ChangeSpec := { name := "evalItems", fn := fun _ => fun
  | [d1, d2] => { results := [.lit (.bool false)], args := [d1, d2] }
  | _ => none }
def EvalItemsWrongFalsely : Prop := evalItemsRow.holds Try.pinned (OpenSpec.ofChange evalItemsWrong)

/-- 'backsteplaw13.EvalExprs': WHATEVER THE INPUT: true; the input reads as it did. -/
def evalExprsSpec : ChangeSpec := { name := "evalExprs", fn := fun _ => fun
  | [d1, d2] => { results := [.lit (.bool true)], args := [d1, d2] }
  | _ => none }
def evalExprsRow : OpenClaim := { program := "ytlpmoklcdocmmaa", sum := "b338f762e6b14e1d9977a14d7a9f7efead288688481679c0cfd0714ace7c159a", func := "backstep/backsteplaw13.EvalExprs", spec := "evalExprs", inPlace := ["internal/bytealg.IndexByteString"], unfollowed := true, recurses := true, loops := true, apart := false }
def EvalExprsSaid : Prop := evalExprsRow.holds Try.pinned (OpenSpec.ofChange evalExprsSpec)

/-- ITS FALSE NEIGHBOUR: 'it returns false'. Refute it at one input. -/
def evalExprsWrong : ChangeSpec := { name := "evalExprs", fn := fun _ => fun
  | [d1, d2] => { results := [.lit (.bool false)], args := [d1, d2] }
  | _ => none }
def EvalExprsWrongFalsely : Prop := evalExprsRow.holds Try.pinned (OpenSpec.ofChange evalExprsWrong)

/-- 'backsteplaw13.EvalIndex': WHATEVER THE INPUT: true; the input reads as it did. -/
def evalIndexSpec : ChangeSpec := { name := "evalIndex", fn := fun _ => fun
  | [d1, d2] => { results := [.lit (.bool true)], args := [d1, d2] }
  | _ => none }
def evalIndexRow : OpenClaim := { program := "ytlpmoklcdocmmaa", sum := "b338f762e6b14e1d9977a14d7a9f7efead288688481679c0cfd0714ace7c159a", func := "backstep/backsteplaw13.EvalIndex", spec := "evalIndex", inPlace := ["internal/bytealg.IndexByteString"], unfollowed := true, recurses := true, loops := true, apart := false }
def EvalIndexSaid : Prop := evalIndexRow.holds Try.pinned (OpenSpec.ofChange evalIndexSpec)

/-- ITS FALSE NEIGHBOUR: 'it returns false'. Refute it at one input. -/
def evalIndexWrong : ChangeSpec := { name := "evalIndex", fn := fun _ => fun
  | [d1, d2] => { results := [.lit (.bool false)], args := [d1, d2] }
  | _ => none }
def EvalIndexWrongFalsely : Prop := evalIndexRow.holds Try.pinned (OpenSpec.ofChange evalIndexWrong)

/-- 'backsteplaw13.EvalOwn': WHATEVER THE INPUT: true; the input reads as it did. -/
def evalOwnSpec : ChangeSpec := { name := "evalOwn", fn := fun _ => fun
  | [d1, d2] => { results := [.lit (.bool true)], args := [d1, d2] }
  | _ => none }
def evalOwnRow : OpenClaim := { program := "ytlpmoklcdocmmaa", sum := "b338f762e6b14e1d9977a14d7a9f7efead288688481679c0cfd0714ace7c159a", func := "backstep/backsteplaw13.EvalOwn", spec := "evalOwn", inPlace := ["internal/bytealg.IndexByteString"], unfollowed := true, recurses := true, loops := true, apart := false }
def EvalOwnSaid : Prop := evalOwnRow.holds Try.pinned (OpenSpec.ofChange evalOwnSpec)

/-- ITS FALSE NEIGHBOUR: 'it returns false'. Refute it at one input. -/
def evalOwnWrong : ChangeSpec := { name := "evalOwn", fn := fun _ => fun
  | [d1, d2] => { results := [.lit (.bool false)], args := [d1, d2] }
  | _ => none }
def EvalOwnWrongFalsely : Prop := evalOwnRow.holds Try.pinned (OpenSpec.ofChange evalOwnWrong)

/-- 'backsteplaw13.EvalConst': WHATEVER THE INPUT: true; the input reads as it did. -/
def evalConstSpec : ChangeSpec := { name := "evalConst", fn := fun _ => fun
  | [d1, d2] => { results := [.lit (.bool true)], args := [d1, d2] }
  | _ => none }
def evalConstRow : OpenClaim := { program := "ytlpmoklcdocmmaa", sum := "b338f762e6b14e1d9977a14d7a9f7efead288688481679c0cfd0714ace7c159a", func := "backstep/backsteplaw13.EvalConst", spec := "evalConst", inPlace := ["internal/bytealg.IndexByteString"], unfollowed := true, recurses := true, loops := true, apart := false }
def EvalConstSaid : Prop := evalConstRow.holds Try.pinned (OpenSpec.ofChange evalConstSpec)

/-- ITS FALSE NEIGHBOUR: 'it returns false'. Refute it at one input. -/
def evalConstWrong : ChangeSpec := { name := "evalConst", fn := fun _ => fun
  | [d1, d2] => { results := [.lit (.bool false)], args := [d1, d2] }
  | _ => none }
def EvalConstWrongFalsely : Prop := evalConstRow.holds Try.pinned (OpenSpec.ofChange evalConstWrong)

/-- 'backsteplaw13.EvalFolds': WHATEVER THE INPUT: true; the input reads as it did. -/
def evalFoldsSpec : ChangeSpec := { name := "evalFolds", fn := fun _ => fun
  | [d1, d2] => { results := [.lit (.bool true)], args := [d1, d2] }
  | _ => none }
def evalFoldsRow : OpenClaim := { program := "ytlpmoklcdocmmaa", sum := "b338f762e6b14e1d9977a14d7a9f7efead288688481679c0cfd0714ace7c159a", func := "backstep/backsteplaw13.EvalFolds", spec := "evalFolds", inPlace := ["internal/bytealg.IndexByteString"], unfollowed := true, recurses := true, loops := true, apart := false }
def EvalFoldsSaid : Prop := evalFoldsRow.holds Try.pinned (OpenSpec.ofChange evalFoldsSpec)

/-- ITS FALSE NEIGHBOUR: 'it returns false'. Refute it at one input. -/
def evalFoldsWrong : ChangeSpec := { name := "evalFolds", fn := fun _ => fun
  | [d1, d2] => { results := [.lit (.bool false)], args := [d1, d2] }
  | _ => none }
def EvalFoldsWrongFalsely : Prop := evalFoldsRow.holds Try.pinned (OpenSpec.ofChange evalFoldsWrong)

/- THE SECOND FORM. 'bulk': how many values and letters a reading holds, each counted each time it is reached (what is shared counts as often as it is met; a slice's spare places count too). A statement '..UptoSaid' is the law's where the arguments, and the package variables that the reading takes, are together of bulk at most 1048576: NARROWER than '..Said'. Prove '..Said' where nothing that the law and all that it calls make is longer than what came in: it says more and counts as full. Else prove '..UptoSaid'. A law counts once. -/
mutual
def uptoBulk {H : Type} : DataW H → Nat
  | .lit (.string bytes) => bytes.length + 1
  | .lit _ => 1
  | .nil => 1
  | .ptr d => uptoBulk d + 1
  | .slice elems spare => uptoBulkAll elems + uptoBulkAll spare + 1
  | .agg parts => uptoBulkAll parts + 1
  | .iface _ d => uptoBulk d + 1
  | .map entries => uptoBulkEntries entries + 1
  | .held _ => 1
def uptoBulkAll {H : Type} : List (DataW H) → Nat
  | [] => 0
  | d :: r => uptoBulk d + uptoBulkAll r
def uptoBulkEntries {H : Type} : List (Lit × DataW H) → Nat
  | [] => 0
  | x :: r => uptoBulkEntry x + uptoBulkEntries r
def uptoBulkEntry {H : Type} : Lit × DataW H → Nat
  | (.string bytes, d) => bytes.length + uptoBulk d + 1
  | (_, d) => uptoBulk d + 1
 end
def uptoSmall : (H : Type) → List (DataW H) → Bool := fun _ ds => decide (uptoBulkAll ds ≤ 1048576)
def OpenSpec.upto (s : _root_.Go.ChangeSpec) : _root_.Go.OpenSpec := { _root_.Go.OpenSpec.ofChange s with cond := some uptoSmall }

/-- 'backsteplaw13.EvalMentioned', WHERE WHAT IT READS IS OF BULK AT MOST 1048576: true; the input reads as it did. -/
def evalMentionedUptoRow : OpenClaim := { program := "ytlpmoklcdocmmaa", sum := "b338f762e6b14e1d9977a14d7a9f7efead288688481679c0cfd0714ace7c159a", func := "backstep/backsteplaw13.EvalMentioned", spec := "evalMentioned", inPlace := ["internal/bytealg.IndexByteString"], unfollowed := true, recurses := true, loops := true, apart := false, narrowed := true }
def EvalMentionedUptoSaid : Prop := evalMentionedUptoRow.holds Try.pinned (OpenSpec.upto evalMentionedSpec)

/-- 'backsteplaw13.EvalStrict', WHERE WHAT IT READS IS OF BULK AT MOST 1048576: true; the input reads as it did. -/
def evalStrictUptoRow : OpenClaim := { program := "ytlpmoklcdocmmaa", sum := "b338f762e6b14e1d9977a14d7a9f7efead288688481679c0cfd0714ace7c159a", func := "backstep/backsteplaw13.EvalStrict", spec := "evalStrict", inPlace := ["internal/bytealg.IndexByteString"], unfollowed := true, recurses := true, loops := true, apart := false, narrowed := true }
def EvalStrictUptoSaid : Prop := evalStrictUptoRow.holds Try.pinned (OpenSpec.upto evalStrictSpec)

/-- 'backsteplaw13.EvalItems', WHERE WHAT IT READS IS OF BULK AT MOST 1048576: true; the input reads as it did. -/
def evalItemsUptoRow : OpenClaim := { program := "ytlpmoklcdocmmaa", sum := "b338f762e6b14e1d9977a14d7a9f7efead288688481679c0cfd0714ace7c159a", func := "backstep/backsteplaw13.EvalItems", spec := "evalItems", inPlace := ["internal/bytealg.IndexByteString"], unfollowed := true, recurses := true, apart := false, narrowed := true }
def EvalItemsUptoSaid : Prop := evalItemsUptoRow.holds Try.pinned (OpenSpec.upto evalItemsSpec)

/-- 'backsteplaw13.EvalExprs', WHERE WHAT IT READS IS OF BULK AT MOST 1048576: true; the input reads as it did. -/
def evalExprsUptoRow : OpenClaim := { program := "ytlpmoklcdocmmaa", sum := "b338f762e6b14e1d9977a14d7a9f7efead288688481679c0cfd0714ace7c159a", func := "backstep/backsteplaw13.EvalExprs", spec := "evalExprs", inPlace := ["internal/bytealg.IndexByteString"], unfollowed := true, recurses := true, loops := true, apart := false, narrowed := true }
def EvalExprsUptoSaid : Prop := evalExprsUptoRow.holds Try.pinned (OpenSpec.upto evalExprsSpec)

/-- 'backsteplaw13.EvalIndex', WHERE WHAT IT READS IS OF BULK AT MOST 1048576: true; the input reads as it did. -/
def evalIndexUptoRow : OpenClaim := { program := "ytlpmoklcdocmmaa", sum := "b338f762e6b14e1d9977a14d7a9f7efead288688481679c0cfd0714ace7c159a", func := "backstep/backsteplaw13.EvalIndex", spec := "evalIndex", inPlace := ["internal/bytealg.IndexByteString"], unfollowed := true, recurses := true, loops := true, apart := false, narrowed := true }
def EvalIndexUptoSaid : Prop := evalIndexUptoRow.holds Try.pinned (OpenSpec.upto evalIndexSpec)

/-- 'backsteplaw13.EvalOwn', WHERE WHAT IT READS IS OF BULK AT MOST 1048576: true; the input reads as it did. -/
def evalOwnUptoRow : OpenClaim := { program := "ytlpmoklcdocmmaa", sum := "b338f762e6b14e1d9977a14d7a9f7efead288688481679c0cfd0714ace7c159a", func := "backstep/backsteplaw13.EvalOwn", spec := "evalOwn", inPlace := ["internal/bytealg.IndexByteString"], unfollowed := true, recurses := true, loops := true, apart := false, narrowed := true }
def EvalOwnUptoSaid : Prop := evalOwnUptoRow.holds Try.pinned (OpenSpec.upto evalOwnSpec)

/-- 'backsteplaw13.EvalConst', WHERE WHAT IT READS IS OF BULK AT MOST 1048576: true; the input reads as it did. -/
def evalConstUptoRow : OpenClaim := { program := "ytlpmoklcdocmmaa", sum := "b338f762e6b14e1d9977a14d7a9f7efead288688481679c0cfd0714ace7c159a", func := "backstep/backsteplaw13.EvalConst", spec := "evalConst", inPlace := ["internal/bytealg.IndexByteString"], unfollowed := true, recurses := true, loops := true, apart := false, narrowed := true }
def EvalConstUptoSaid : Prop := evalConstUptoRow.holds Try.pinned (OpenSpec.upto evalConstSpec)

/-- 'backsteplaw13.EvalFolds', WHERE WHAT IT READS IS OF BULK AT MOST 1048576: true; the input reads as it did. -/
def evalFoldsUptoRow : OpenClaim := { program := "ytlpmoklcdocmmaa", sum := "b338f762e6b14e1d9977a14d7a9f7efead288688481679c0cfd0714ace7c159a", func := "backstep/backsteplaw13.EvalFolds", spec := "evalFolds", inPlace := ["internal/bytealg.IndexByteString"], unfollowed := true, recurses := true, loops := true, apart := false, narrowed := true }
def EvalFoldsUptoSaid : Prop := evalFoldsUptoRow.holds Try.pinned (OpenSpec.upto evalFoldsSpec)

end Rows
end Go.Proofs.Ytlpmoklcdocmmaa
