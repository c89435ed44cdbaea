/-
  No cell of these rows narrows 'for every input' (looked for: loops, veiled, ifaces, maps, wideKeys, modest, calm, conditions, laid).
  DERIVED. THE GIVEN ROWS OF THIS SEAT. 4 by the template 'for every input the law returns true; each argument reads behind the call as it read before'; 0 by the template 'total and deterministic' (their statements: YtdjfcjlpemckoaaTotals.lean).
  GIVEN WITH THE SEED: the statements are not yours to turn. If you find one false, say at which input.
  Laid BY PROGRAM, IN A SANDBOX (cutbox-rows.mjs): the forced cells as the released guide's own fill.sh prints them over the translation 8e1f730b759cc010… (all of the seat's roots in one cut). By AI agents, Wed Nov 11 2026. No macro, syntax, notation, axiom, sorry.
-/
import Derived.Test.YtdjfcjlpemckoaaChecked
import GoSem.Claim
import GoSem.ClaimJoined
import GoSem.ClaimMapViews
import Derived.JoinedTies
import Derived.KernelRfl
namespace Go.Proofs.Ytdjfcjlpemckoaa
/- THE CELL 'sum', in the pinned program and in every row, IS THE sha256 OF THE DUMP (.gsa) THAT YtdjfcjlpemckoaaProg.lean LOADS. Nothing in Lean hashes anything: it is a label: what it is worth is what the hold of that sum in a sandbox is worth. -/
noncomputable def Try.pinned : Pinned := { name := "ytdjfcjlpemckoaa", sum := "8e1f730b759cc010d96ba2b097afaf1fb33c14339fe5663162475338c4c592c6", checked := Try.checked }
namespace Rows
def none {H : Type} : Left H := { results := [], args := [] }

/-- 'selvedgelaw3.ColsNumbers': WHATEVER THE INPUT: true; the input reads as it did. -/
def colsNumbersSpec : ChangeSpec := { name := "colsNumbers", fn := fun _ => fun
  | [] => { results := [.lit (.bool true)], args := [] }
  | _ => none }
def colsNumbersRow : OpenClaim := { program := "ytdjfcjlpemckoaa", sum := "8e1f730b759cc010d96ba2b097afaf1fb33c14339fe5663162475338c4c592c6", func := "selvedge/selvedgelaw3.ColsNumbers", spec := "colsNumbers", inPlace := ["internal/abi.NoEscape", "internal/bytealg.MakeNoZero"], apart := false }
def ColsNumbersSaid : Prop := colsNumbersRow.holds Try.pinned (OpenSpec.ofChange colsNumbersSpec)

/-- ITS FALSE NEIGHBOUR: 'it returns false'. Refute it at one input. -/
def colsNumbersWrong : ChangeSpec := { name := "colsNumbers", fn := fun _ => fun
  | [] => { results := [.lit (.bool false)], args := [] }
  | _ => none }
def ColsNumbersWrongFalsely : Prop := colsNumbersRow.holds Try.pinned (OpenSpec.ofChange colsNumbersWrong)

/-- 'selvedgelaw3.ColsTells': WHATEVER THE INPUT: true; the input reads as it did. -/
def colsTellsSpec : ChangeSpec := { name := "colsTells", fn := fun _ => fun
  | [d1, d2, d3] => { results := [.lit (.bool true)], args := [d1, d2, d3] }
  | _ => none }
def colsTellsRow : OpenClaim := { program := "ytdjfcjlpemckoaa", sum := "8e1f730b759cc010d96ba2b097afaf1fb33c14339fe5663162475338c4c592c6", func := "selvedge/selvedgelaw3.ColsTells", spec := "colsTells", inPlace := ["internal/abi.NoEscape", "internal/bytealg.MakeNoZero"], apart := false }
def ColsTellsSaid : Prop := colsTellsRow.holds Try.pinned (OpenSpec.ofChange colsTellsSpec)

/-- ITS FALSE NEIGHBOUR: 'it returns false'. Refute it at one input. -/
def colsTellsWrong : ChangeSpec := { name := "colsTells", fn := fun _ => fun
  | [d1, d2, d3] => { results := [.lit (.bool false)], args := [d1, d2, d3] }
  | _ => none }
def ColsTellsWrongFalsely : Prop := colsTellsRow.holds Try.pinned (OpenSpec.ofChange colsTellsWrong)

/-- 'selvedgelaw3.ColsStrips': WHATEVER THE INPUT: true; the input reads as it did. -/
def colsStripsSpec : ChangeSpec := { name := "colsStrips", fn := fun _ => fun
  | [d1, d2, d3] => { results := [.lit (.bool true)], args := [d1, d2, d3] }
  | _ => none }
def colsStripsRow : OpenClaim := { program := "ytdjfcjlpemckoaa", sum := "8e1f730b759cc010d96ba2b097afaf1fb33c14339fe5663162475338c4c592c6", func := "selvedge/selvedgelaw3.ColsStrips", spec := "colsStrips", inPlace := ["internal/abi.NoEscape", "internal/bytealg.MakeNoZero"], apart := false }
def ColsStripsSaid : Prop := colsStripsRow.holds Try.pinned (OpenSpec.ofChange colsStripsSpec)

/-- ITS FALSE NEIGHBOUR: 'it returns false'. Refute it at one input. -/
def colsStripsWrong : ChangeSpec := { name := "colsStrips", fn := fun _ => fun
  | [d1, d2, d3] => { results := [.lit (.bool false)], args := [d1, d2, d3] }
  | _ => none }
def ColsStripsWrongFalsely : Prop := colsStripsRow.holds Try.pinned (OpenSpec.ofChange colsStripsWrong)

/-- 'selvedgelaw3.ColsFlat': WHATEVER THE INPUT: true; the input reads as it did. -/
def colsFlatSpec : ChangeSpec := { name := "colsFlat", fn := fun _ => fun
  | [d] => { results := [.lit (.bool true)], args := [d] }
  | _ => none }
def colsFlatRow : OpenClaim := { program := "ytdjfcjlpemckoaa", sum := "8e1f730b759cc010d96ba2b097afaf1fb33c14339fe5663162475338c4c592c6", func := "selvedge/selvedgelaw3.ColsFlat", spec := "colsFlat", inPlace := ["internal/abi.NoEscape", "internal/bytealg.MakeNoZero"], apart := false }
def ColsFlatSaid : Prop := colsFlatRow.holds Try.pinned (OpenSpec.ofChange colsFlatSpec)

/-- ITS FALSE NEIGHBOUR: 'it returns false'. Refute it at one input. -/
def colsFlatWrong : ChangeSpec := { name := "colsFlat", fn := fun _ => fun
  | [d] => { results := [.lit (.bool false)], args := [d] }
  | _ => none }
def ColsFlatWrongFalsely : Prop := colsFlatRow.holds Try.pinned (OpenSpec.ofChange colsFlatWrong)

/- THE SECOND FORM. 'bulk': how many values and letters a reading holds, each counted each time it is reached (what is shared counts as often as it is met; a slice's spare places count too). A statement '..UptoSaid' is the law's where the arguments, and the package variables that the reading takes, are together of bulk at most 1048576: NARROWER than '..Said'. Prove '..Said' where nothing that the law and all that it calls make is longer than what came in: it says more and counts as full. Else prove '..UptoSaid'. A law counts once. -/
mutual
def uptoBulk {H : Type} : DataW H → Nat
  | .lit (.string bytes) => bytes.length + 1
  | .lit _ => 1
  | .nil => 1
  | .ptr d => uptoBulk d + 1
  | .slice elems spare => uptoBulkAll elems + uptoBulkAll spare + 1
  | .agg parts => uptoBulkAll parts + 1
  | .iface _ d => uptoBulk d + 1
  | .map entries => uptoBulkEntries entries + 1
  | .held _ => 1
def uptoBulkAll {H : Type} : List (DataW H) → Nat
  | [] => 0
  | d :: r => uptoBulk d + uptoBulkAll r
def uptoBulkEntries {H : Type} : List (Lit × DataW H) → Nat
  | [] => 0
  | x :: r => uptoBulkEntry x + uptoBulkEntries r
def uptoBulkEntry {H : Type} : Lit × DataW H → Nat
  | (.string bytes, d) => bytes.length + uptoBulk d + 1
  | (_, d) => uptoBulk d + 1
 end
def uptoSmall : (H : Type) → List (DataW H) → Bool := fun _ ds => decide (uptoBulkAll ds ≤ 1048576)
def OpenSpec.upto (s : _root_.Go.ChangeSpec) : _root_.Go.OpenSpec := { _root_.Go.OpenSpec.ofChange s with cond := some uptoSmall }

/-- 'selvedgelaw3.ColsNumbers', WHERE WHAT IT READS IS OF BULK AT MOST 1048576: true; the input reads as it did. -/
def colsNumbersUptoRow : OpenClaim := { program := "ytdjfcjlpemckoaa", sum := "8e1f730b759cc010d96ba2b097afaf1fb33c14339fe5663162475338c4c592c6", func := "selvedge/selvedgelaw3.ColsNumbers", spec := "colsNumbers", inPlace := ["internal/abi.NoEscape", "internal/bytealg.MakeNoZero"], apart := false, narrowed := true }
def ColsNumbersUptoSaid : Prop := colsNumbersUptoRow.holds Try.pinned (OpenSpec.upto colsNumbersSpec)

/-- 'selvedgelaw3.ColsTells', WHERE WHAT IT READS IS OF BULK AT MOST 1048576: true; the input reads as it did. -/
def colsTellsUptoRow : OpenClaim := { program := "ytdjfcjlpemckoaa", sum := "8e1f730b759cc010d96ba2b097afaf1fb33c14339fe5663162475338c4c592c6", func := "selvedge/selvedgelaw3.ColsTells", spec := "colsTells", inPlace := ["internal/abi.NoEscape", "internal/bytealg.MakeNoZero"], apart := false, narrowed := true }
def ColsTellsUptoSaid : Prop := colsTellsUptoRow.holds Try.pinned (OpenSpec.upto colsTellsSpec)

/-- 'selvedgelaw3.ColsStrips', WHERE WHAT IT READS IS OF BULK AT MOST 1048576: true; the input reads as it did. -/
def colsStripsUptoRow : OpenClaim := { program := "ytdjfcjlpemckoaa", sum := "8e1f730b759cc010d96ba2b097afaf1fb33c14339fe5663162475338c4c592c6", func := "selvedge/selvedgelaw3.ColsStrips", spec := "colsStrips", inPlace := ["internal/abi.NoEscape", "internal/bytealg.MakeNoZero"], apart := false, narrowed := true }
def ColsStripsUptoSaid : Prop := colsStripsUptoRow.holds Try.pinned (OpenSpec.upto colsStripsSpec)

/-- 'selvedgelaw3.ColsFlat', WHERE WHAT IT READS IS OF BULK AT MOST 1048576: true; the input reads as it did. -/
def colsFlatUptoRow : OpenClaim := { program := "ytdjfcjlpemckoaa", sum := "8e1f730b759cc010d96ba2b097afaf1fb33c14339fe5663162475338c4c592c6", func := "selvedge/selvedgelaw3.ColsFlat", spec := "colsFlat", inPlace := ["internal/abi.NoEscape", "internal/bytealg.MakeNoZero"], apart := false, narrowed := true }
def ColsFlatUptoSaid : Prop := colsFlatUptoRow.holds Try.pinned (OpenSpec.upto colsFlatSpec)

end Rows
end Go.Proofs.Ytdjfcjlpemckoaa
