/-
  No cell of these rows narrows 'for every input' (looked for: loops, veiled, ifaces, maps, wideKeys, modest, calm, conditions, laid).
  DERIVED. THE GIVEN ROWS OF THIS SEAT. 9 by the template 'for every input the law returns true; each argument reads behind the call as it read before'; 0 by the template 'total and deterministic' (their statements: YtognfedcnciafaaTotals.lean).
  GIVEN WITH THE SEED: the statements are not yours to turn. If you find one false, say at which input.
  Laid BY PROGRAM, IN A SANDBOX (cutbox-rows.mjs): the forced cells as the released guide's own fill.sh prints them over the translation 51d34ba47f0b1f73… (all of the seat's roots in one cut). By AI agents, Wed Nov 11 2026. No macro, syntax, notation, axiom, sorry.
-/
import Derived.Test.YtognfedcnciafaaChecked
import GoSem.Claim
import GoSem.ClaimJoined
import GoSem.ClaimMapViews
import Derived.JoinedTies
import Derived.KernelRfl
namespace Go.Proofs.Ytognfedcnciafaa
/- THE CELL 'sum', in the pinned program and in every row, IS THE sha256 OF THE DUMP (.gsa) THAT YtognfedcnciafaaProg.lean LOADS. Nothing in Lean hashes anything: it is a label: what it is worth is what the hold of that sum in a sandbox is worth. -/
noncomputable def Try.pinned : Pinned := { name := "ytognfedcnciafaa", sum := "51d34ba47f0b1f737697ccb8bb550828bd4d907fdf18f0d6020e04c363cfbddb", checked := Try.checked }
namespace Rows
def none {H : Type} : Left H := { results := [], args := [] }

/-- 'selvedgelaw1.LineNumbers': WHATEVER THE INPUT: true; the input reads as it did. -/
def lineNumbersSpec : ChangeSpec := { name := "lineNumbers", fn := fun _ => fun
  | [] => { results := [.lit (.bool true)], args := [] }
  | _ => none }
def lineNumbersRow : OpenClaim := { program := "ytognfedcnciafaa", sum := "51d34ba47f0b1f737697ccb8bb550828bd4d907fdf18f0d6020e04c363cfbddb", func := "selvedge/selvedgelaw1.LineNumbers", spec := "lineNumbers", apart := false }
def LineNumbersSaid : Prop := lineNumbersRow.holds Try.pinned (OpenSpec.ofChange lineNumbersSpec)

/-- ITS FALSE NEIGHBOUR: 'it returns false'. Refute it at one input. -/
def lineNumbersWrong : ChangeSpec := { name := "lineNumbers", fn := fun _ => fun
  | [] => { results := [.lit (.bool false)], args := [] }
  | _ => none }
def LineNumbersWrongFalsely : Prop := lineNumbersRow.holds Try.pinned (OpenSpec.ofChange lineNumbersWrong)

/-- 'selvedgelaw1.LineTells': WHATEVER THE INPUT: true; the input reads as it did. -/
def lineTellsSpec : ChangeSpec := { name := "lineTells", fn := fun _ => fun
  | [d1, d2, d3, d4] => { results := [.lit (.bool true)], args := [d1, d2, d3, d4] }
  | _ => none }
def lineTellsRow : OpenClaim := { program := "ytognfedcnciafaa", sum := "51d34ba47f0b1f737697ccb8bb550828bd4d907fdf18f0d6020e04c363cfbddb", func := "selvedge/selvedgelaw1.LineTells", spec := "lineTells", apart := false }
def LineTellsSaid : Prop := lineTellsRow.holds Try.pinned (OpenSpec.ofChange lineTellsSpec)

/-- ITS FALSE NEIGHBOUR: 'it returns false'. Refute it at one input. -/
def lineTellsWrong : ChangeSpec := { name := "lineTells", fn := fun _ => fun
  | [d1, d2, d3, d4] => { results := [.lit (.bool false)], args := [d1, d2, d3, d4] }
  | _ => none }
def LineTellsWrongFalsely : Prop := lineTellsRow.holds Try.pinned (OpenSpec.ofChange lineTellsWrong)

/-- 'selvedgelaw1.LineWhole': WHATEVER THE INPUT: true; the input reads as it did. -/
def lineWholeSpec : ChangeSpec := { name := "lineWhole", fn := fun _ => fun
  | [d1, d2] => { results := [.lit (.bool true)], args := [d1, d2] }
  | _ => none }
def lineWholeRow : OpenClaim := { program := "ytognfedcnciafaa", sum := "51d34ba47f0b1f737697ccb8bb550828bd4d907fdf18f0d6020e04c363cfbddb", func := "selvedge/selvedgelaw1.LineWhole", spec := "lineWhole", apart := false }
def LineWholeSaid : Prop := lineWholeRow.holds Try.pinned (OpenSpec.ofChange lineWholeSpec)

/-- ITS FALSE NEIGHBOUR: 'it returns false'. Refute it at one input. -/
def lineWholeWrong : ChangeSpec := { name := "lineWhole", fn := fun _ => fun
  | [d1, d2] => { results := [.lit (.bool false)], args := [d1, d2] }
  | _ => none }
def LineWholeWrongFalsely : Prop := lineWholeRow.holds Try.pinned (OpenSpec.ofChange lineWholeWrong)

/-- 'selvedgelaw1.LineEnds': WHATEVER THE INPUT: true; the input reads as it did. -/
def lineEndsSpec : ChangeSpec := { name := "lineEnds", fn := fun _ => fun
  | [d] => { results := [.lit (.bool true)], args := [d] }
  | _ => none }
def lineEndsRow : OpenClaim := { program := "ytognfedcnciafaa", sum := "51d34ba47f0b1f737697ccb8bb550828bd4d907fdf18f0d6020e04c363cfbddb", func := "selvedge/selvedgelaw1.LineEnds", spec := "lineEnds", apart := false }
def LineEndsSaid : Prop := lineEndsRow.holds Try.pinned (OpenSpec.ofChange lineEndsSpec)

/-- ITS FALSE NEIGHBOUR: 'it returns false'. Refute it at one input. -/
def lineEndsWrong : ChangeSpec := { name := "lineEnds", fn := fun _ => fun
  | [d] => { results := [.lit (.bool false)], args := [d] }
  | _ => none }
def LineEndsWrongFalsely : Prop := lineEndsRow.holds Try.pinned (OpenSpec.ofChange lineEndsWrong)

/-- 'selvedgelaw1.LineJoined': WHATEVER THE INPUT: true; the input reads as it did. -/
def lineJoinedSpec : ChangeSpec := { name := "lineJoined", fn := fun _ => fun
  | [d1, d2, d3] => { results := [.lit (.bool true)], args := [d1, d2, d3] }
  | _ => none }
def lineJoinedRow : OpenClaim := { program := "ytognfedcnciafaa", sum := "51d34ba47f0b1f737697ccb8bb550828bd4d907fdf18f0d6020e04c363cfbddb", func := "selvedge/selvedgelaw1.LineJoined", spec := "lineJoined", apart := false }
def LineJoinedSaid : Prop := lineJoinedRow.holds Try.pinned (OpenSpec.ofChange lineJoinedSpec)

/-- ITS FALSE NEIGHBOUR: 'it returns false'. Refute it at one input. -/
def lineJoinedWrong : ChangeSpec := { name := "lineJoined", fn := fun _ => fun
  | [d1, d2, d3] => { results := [.lit (.bool false)], args := [d1, d2, d3] }
  | _ => none }
def LineJoinedWrongFalsely : Prop := lineJoinedRow.holds Try.pinned (OpenSpec.ofChange lineJoinedWrong)

/-- 'selvedgelaw8.EscNumbers': WHATEVER THE INPUT: true; the input reads as it did. -/
def escNumbersSpec : ChangeSpec := { name := "escNumbers", fn := fun _ => fun
  | [] => { results := [.lit (.bool true)], args := [] }
  | _ => none }
def escNumbersRow : OpenClaim := { program := "ytognfedcnciafaa", sum := "51d34ba47f0b1f737697ccb8bb550828bd4d907fdf18f0d6020e04c363cfbddb", func := "selvedge/selvedgelaw8.EscNumbers", spec := "escNumbers", inPlace := ["internal/abi.NoEscape"], apart := false }
def EscNumbersSaid : Prop := escNumbersRow.holds Try.pinned (OpenSpec.ofChange escNumbersSpec)

/-- ITS FALSE NEIGHBOUR: 'it returns false'. Refute it at one input. -/
def escNumbersWrong : ChangeSpec := { name := "escNumbers", fn := fun _ => fun
  | [] => { results := [.lit (.bool false)], args := [] }
  | _ => none }
def EscNumbersWrongFalsely : Prop := escNumbersRow.holds Try.pinned (OpenSpec.ofChange escNumbersWrong)

/-- 'selvedgelaw8.EscTells': WHATEVER THE INPUT: true; the input reads as it did. -/
def escTellsSpec : ChangeSpec := { name := "escTells", fn := fun _ => fun
  | [d1, d2, d3] => { results := [.lit (.bool true)], args := [d1, d2, d3] }
  | _ => none }
def escTellsRow : OpenClaim := { program := "ytognfedcnciafaa", sum := "51d34ba47f0b1f737697ccb8bb550828bd4d907fdf18f0d6020e04c363cfbddb", func := "selvedge/selvedgelaw8.EscTells", spec := "escTells", inPlace := ["internal/abi.NoEscape"], apart := false }
def EscTellsSaid : Prop := escTellsRow.holds Try.pinned (OpenSpec.ofChange escTellsSpec)

/-- ITS FALSE NEIGHBOUR: 'it returns false'. Refute it at one input. -/
def escTellsWrong : ChangeSpec := { name := "escTells", fn := fun _ => fun
  | [d1, d2, d3] => { results := [.lit (.bool false)], args := [d1, d2, d3] }
  | _ => none }
def EscTellsWrongFalsely : Prop := escTellsRow.holds Try.pinned (OpenSpec.ofChange escTellsWrong)

/-- 'selvedgelaw8.EscBack': WHATEVER THE INPUT: true; the input reads as it did. -/
def escBackSpec : ChangeSpec := { name := "escBack", fn := fun _ => fun
  | [d1, d2] => { results := [.lit (.bool true)], args := [d1, d2] }
  | _ => none }
def escBackRow : OpenClaim := { program := "ytognfedcnciafaa", sum := "51d34ba47f0b1f737697ccb8bb550828bd4d907fdf18f0d6020e04c363cfbddb", func := "selvedge/selvedgelaw8.EscBack", spec := "escBack", inPlace := ["internal/abi.NoEscape"], apart := false }
def EscBackSaid : Prop := escBackRow.holds Try.pinned (OpenSpec.ofChange escBackSpec)

/-- ITS FALSE NEIGHBOUR: 'it returns false'. Refute it at one input. -/
def escBackWrong : ChangeSpec := { name := "escBack", fn := fun _ => fun
  | [d1, d2] => { results := [.lit (.bool false)], args := [d1, d2] }
  | _ => none }
def EscBackWrongFalsely : Prop := escBackRow.holds Try.pinned (OpenSpec.ofChange escBackWrong)

/-- 'selvedgelaw8.EscSteps': WHATEVER THE INPUT: true; the input reads as it did. -/
def escStepsSpec : ChangeSpec := { name := "escSteps", fn := fun _ => fun
  | [d1, d2] => { results := [.lit (.bool true)], args := [d1, d2] }
  | _ => none }
def escStepsRow : OpenClaim := { program := "ytognfedcnciafaa", sum := "51d34ba47f0b1f737697ccb8bb550828bd4d907fdf18f0d6020e04c363cfbddb", func := "selvedge/selvedgelaw8.EscSteps", spec := "escSteps", inPlace := ["internal/abi.NoEscape"], apart := false }
def EscStepsSaid : Prop := escStepsRow.holds Try.pinned (OpenSpec.ofChange escStepsSpec)

/-- ITS FALSE NEIGHBOUR: 'it returns false'. Refute it at one input. -/
def escStepsWrong : ChangeSpec := { name := "escSteps", fn := fun _ => fun
  | [d1, d2] => { results := [.lit (.bool false)], args := [d1, d2] }
  | _ => none }
def EscStepsWrongFalsely : Prop := escStepsRow.holds Try.pinned (OpenSpec.ofChange escStepsWrong)

/- THE SECOND FORM. 'bulk': how many values and letters a reading holds, each counted each time it is reached (what is shared counts as often as it is met; a slice's spare places count too). A statement '..UptoSaid' is the law's where the arguments, and the package variables that the reading takes, are together of bulk at most 1048576: NARROWER than '..Said'. Prove '..Said' where nothing that the law and all that it calls make is longer than what came in: it says more and counts as full. Else prove '..UptoSaid'. A law counts once. -/
mutual
def uptoBulk {H : Type} : DataW H → Nat
  | .lit (.string bytes) => bytes.length + 1
  | .lit _ => 1
  | .nil => 1
  | .ptr d => uptoBulk d + 1
  | .slice elems spare => uptoBulkAll elems + uptoBulkAll spare + 1
  | .agg parts => uptoBulkAll parts + 1
  | .iface _ d => uptoBulk d + 1
  | .map entries => uptoBulkEntries entries + 1
  | .held _ => 1
def uptoBulkAll {H : Type} : List (DataW H) → Nat
  | [] => 0
  | d :: r => uptoBulk d + uptoBulkAll r
def uptoBulkEntries {H : Type} : List (Lit × DataW H) → Nat
  | [] => 0
  | x :: r => uptoBulkEntry x + uptoBulkEntries r
def uptoBulkEntry {H : Type} : Lit × DataW H → Nat
  | (.string bytes, d) => bytes.length + uptoBulk d + 1
  | (_, d) => uptoBulk d + 1
 end
def uptoSmall : (H : Type) → List (DataW H) → Bool := fun _ ds => decide (uptoBulkAll ds ≤ 1048576)
def OpenSpec.upto (s : _root_.Go.ChangeSpec) : _root_.Go.OpenSpec := { _root_.Go.OpenSpec.ofChange s with cond := some uptoSmall }

/-- 'selvedgelaw1.LineNumbers', WHERE WHAT IT READS IS OF BULK AT MOST 1048576: true; the input reads as it did. -/
def lineNumbersUptoRow : OpenClaim := { program := "ytognfedcnciafaa", sum := "51d34ba47f0b1f737697ccb8bb550828bd4d907fdf18f0d6020e04c363cfbddb", func := "selvedge/selvedgelaw1.LineNumbers", spec := "lineNumbers", apart := false, narrowed := true }
def LineNumbersUptoSaid : Prop := lineNumbersUptoRow.holds Try.pinned (OpenSpec.upto lineNumbersSpec)

/-- 'selvedgelaw1.LineTells', WHERE WHAT IT READS IS OF BULK AT MOST 1048576: true; the input reads as it did. -/
def lineTellsUptoRow : OpenClaim := { program := "ytognfedcnciafaa", sum := "51d34ba47f0b1f737697ccb8bb550828bd4d907fdf18f0d6020e04c363cfbddb", func := "selvedge/selvedgelaw1.LineTells", spec := "lineTells", apart := false, narrowed := true }
def LineTellsUptoSaid : Prop := lineTellsUptoRow.holds Try.pinned (OpenSpec.upto lineTellsSpec)

/-- 'selvedgelaw1.LineWhole', WHERE WHAT IT READS IS OF BULK AT MOST 1048576: true; the input reads as it did. -/
def lineWholeUptoRow : OpenClaim := { program := "ytognfedcnciafaa", sum := "51d34ba47f0b1f737697ccb8bb550828bd4d907fdf18f0d6020e04c363cfbddb", func := "selvedge/selvedgelaw1.LineWhole", spec := "lineWhole", apart := false, narrowed := true }
def LineWholeUptoSaid : Prop := lineWholeUptoRow.holds Try.pinned (OpenSpec.upto lineWholeSpec)

/-- 'selvedgelaw1.LineEnds', WHERE WHAT IT READS IS OF BULK AT MOST 1048576: true; the input reads as it did. -/
def lineEndsUptoRow : OpenClaim := { program := "ytognfedcnciafaa", sum := "51d34ba47f0b1f737697ccb8bb550828bd4d907fdf18f0d6020e04c363cfbddb", func := "selvedge/selvedgelaw1.LineEnds", spec := "lineEnds", apart := false, narrowed := true }
def LineEndsUptoSaid : Prop := lineEndsUptoRow.holds Try.pinned (OpenSpec.upto lineEndsSpec)

/-- 'selvedgelaw1.LineJoined', WHERE WHAT IT READS IS OF BULK AT MOST 1048576: true; the input reads as it did. -/
def lineJoinedUptoRow : OpenClaim := { program := "ytognfedcnciafaa", sum := "51d34ba47f0b1f737697ccb8bb550828bd4d907fdf18f0d6020e04c363cfbddb", func := "selvedge/selvedgelaw1.LineJoined", spec := "lineJoined", apart := false, narrowed := true }
def LineJoinedUptoSaid : Prop := lineJoinedUptoRow.holds Try.pinned (OpenSpec.upto lineJoinedSpec)

/-- 'selvedgelaw8.EscNumbers', WHERE WHAT IT READS IS OF BULK AT MOST 1048576: true; the input reads as it did. -/
def escNumbersUptoRow : OpenClaim := { program := "ytognfedcnciafaa", sum := "51d34ba47f0b1f737697ccb8bb550828bd4d907fdf18f0d6020e04c363cfbddb", func := "selvedge/selvedgelaw8.EscNumbers", spec := "escNumbers", inPlace := ["internal/abi.NoEscape"], apart := false, narrowed := true }
def EscNumbersUptoSaid : Prop := escNumbersUptoRow.holds Try.pinned (OpenSpec.upto escNumbersSpec)

/-- 'selvedgelaw8.EscTells', WHERE WHAT IT READS IS OF BULK AT MOST 1048576: true; the input reads as it did. -/
def escTellsUptoRow : OpenClaim := { program := "ytognfedcnciafaa", sum := "51d34ba47f0b1f737697ccb8bb550828bd4d907fdf18f0d6020e04c363cfbddb", func := "selvedge/selvedgelaw8.EscTells", spec := "escTells", inPlace := ["internal/abi.NoEscape"], apart := false, narrowed := true }
def EscTellsUptoSaid : Prop := escTellsUptoRow.holds Try.pinned (OpenSpec.upto escTellsSpec)

/-- 'selvedgelaw8.EscBack', WHERE WHAT IT READS IS OF BULK AT MOST 1048576: true; the input reads as it did. -/
def escBackUptoRow : OpenClaim := { program := "ytognfedcnciafaa", sum := "51d34ba47f0b1f737697ccb8bb550828bd4d907fdf18f0d6020e04c363cfbddb", func := "selvedge/selvedgelaw8.EscBack", spec := "escBack", inPlace := ["internal/abi.NoEscape"], apart := false, narrowed := true }
def EscBackUptoSaid : Prop := escBackUptoRow.holds Try.pinned (OpenSpec.upto escBackSpec)

/-- 'selvedgelaw8.EscSteps', WHERE WHAT IT READS IS OF BULK AT MOST 1048576: true; the input reads as it did. -/
def escStepsUptoRow : OpenClaim := { program := "ytognfedcnciafaa", sum := "51d34ba47f0b1f737697ccb8bb550828bd4d907fdf18f0d6020e04c363cfbddb", func := "selvedge/selvedgelaw8.EscSteps", spec := "escSteps", inPlace := ["internal/abi.NoEscape"], apart := false, narrowed := true }
def EscStepsUptoSaid : Prop := escStepsUptoRow.holds Try.pinned (OpenSpec.upto escStepsSpec)

end Rows
end Go.Proofs.Ytognfedcnciafaa
