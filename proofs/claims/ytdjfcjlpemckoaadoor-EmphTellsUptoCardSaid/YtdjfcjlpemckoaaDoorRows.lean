/-
  NARROWER THAN 'FOR EVERY INPUT', by the rows' own cells (each row's printed sentence says how): EmphNumbers: laid · EmphTells: laid · EmphNests: laid · EmphPlain: laid · EmphCounts: laid.
  DERIVED. THE GIVEN ROWS OF THIS SEAT. 5 by the template 'for every input the law returns true; each argument reads behind the call as it read before'; 0 by the template 'total and deterministic' (their statements: YtdjfcjlpemckoaaDoorTotals.lean).
  GIVEN WITH THE SEED: the statements are not yours to turn. If you find one false, say at which input.
  Laid BY PROGRAM, IN A SANDBOX (cutbox-rows.mjs): the forced cells as the released guide's own fill.sh prints them over the translation e833914c72270316… (all of the seat's roots in one cut). By AI agents, Wed Nov 11 2026. No macro, syntax, notation, axiom, sorry.
-/
import Derived.Test.YtdjfcjlpemckoaaDoorChecked
import GoSem.PinnedTables
import GoSem.Claim
import GoSem.ClaimJoined
import GoSem.ClaimMapViews
import Derived.JoinedTies
import Derived.KernelRfl
namespace Go.Proofs.YtdjfcjlpemckoaaDoor
/- THE CELL 'sum', in the pinned program and in every row, IS THE sha256 OF THE DUMP (.gsa) THAT YtdjfcjlpemckoaaDoorProg.lean LOADS. Nothing in Lean hashes anything: it is a label: what it is worth is what the hold of that sum in a sandbox is worth. -/
noncomputable def Tryd.pinned : Pinned := { name := "ytdjfcjlpemckoaadoor", sum := "e833914c72270316dfa7e13a67cc9ab814d655d437bda2a6c6a73ff31ab67f28", checked := Tryd.checked }
namespace Rows
def none {H : Type} : Left H := { results := [], args := [] }

/- WHAT THE LISTED PACKAGE-LEVEL VARIABLES READ AS WHEN THE CALL BEGINS. Each datum BY PROGRAM (the guide's laid-datum.mjs) off the statement by which the dump's own 'gosem.cut.vars' lays the variable. In a bare row this is a premise. The card (YtdjfcjlpemckoaaDoorCards.lean) ties it to the program's text. -/
def laid_unicode_utf8_acceptRanges {H : Type} : DataW H := .agg [.agg [.lit (.int .u8 128), .lit (.int .u8 191)], .agg [.lit (.int .u8 160), .lit (.int .u8 191)], .agg [.lit (.int .u8 128), .lit (.int .u8 159)], .agg [.lit (.int .u8 144), .lit (.int .u8 191)], .agg [.lit (.int .u8 128), .lit (.int .u8 143)], .agg [.lit (.int .u8 0), .lit (.int .u8 0)], .agg [.lit (.int .u8 0), .lit (.int .u8 0)], .agg [.lit (.int .u8 0), .lit (.int .u8 0)], .agg [.lit (.int .u8 0), .lit (.int .u8 0)], .agg [.lit (.int .u8 0), .lit (.int .u8 0)], .agg [.lit (.int .u8 0), .lit (.int .u8 0)], .agg [.lit (.int .u8 0), .lit (.int .u8 0)], .agg [.lit (.int .u8 0), .lit (.int .u8 0)], .agg [.lit (.int .u8 0), .lit (.int .u8 0)], .agg [.lit (.int .u8 0), .lit (.int .u8 0)], .agg [.lit (.int .u8 0), .lit (.int .u8 0)]]
/-- One of Go's own tables, pinned by name: the form's constant. -/
def laid_unicode_utf8_first : DataW Unit := Go.Pinned.utf8First

/-- 'selvedgelaw10.EmphNumbers': WHATEVER THE INPUT: true; the input reads as it did. -/
def emphNumbersSpec : ChangeSpec := { name := "emphNumbers", fn := fun _ => fun
  | [] => { results := [.lit (.bool true)], args := [] }
  | _ => none }
def emphNumbersRow : OpenClaim := { program := "ytdjfcjlpemckoaadoor", sum := "e833914c72270316dfa7e13a67cc9ab814d655d437bda2a6c6a73ff31ab67f28", func := "selvedge/selvedgelaw10.EmphNumbers", spec := "emphNumbers", named := ["unicode/utf8.first", "unicode/utf8.acceptRanges"], apart := false, laid := [("unicode/utf8.acceptRanges", laid_unicode_utf8_acceptRanges), ("unicode/utf8.first", laid_unicode_utf8_first)] }
def EmphNumbersSaid : Prop := emphNumbersRow.holds Tryd.pinned (OpenSpec.ofChange emphNumbersSpec)

/-- ITS FALSE NEIGHBOUR: 'it returns false'. Refute it at one input. -/
def emphNumbersWrong : ChangeSpec := { name := "emphNumbers", fn := fun _ => fun
  | [] => { results := [.lit (.bool false)], args := [] }
  | _ => none }
def EmphNumbersWrongFalsely : Prop := emphNumbersRow.holds Tryd.pinned (OpenSpec.ofChange emphNumbersWrong)

/-- 'selvedgelaw10.EmphTells': WHATEVER THE INPUT: true; the input reads as it did. -/
def emphTellsSpec : ChangeSpec := { name := "emphTells", fn := fun _ => fun
  | [d1, d2, d3, d4, d5] => { results := [.lit (.bool true)], args := [d1, d2, d3, d4, d5] }
  | _ => none }
def emphTellsRow : OpenClaim := { program := "ytdjfcjlpemckoaadoor", sum := "e833914c72270316dfa7e13a67cc9ab814d655d437bda2a6c6a73ff31ab67f28", func := "selvedge/selvedgelaw10.EmphTells", spec := "emphTells", named := ["unicode/utf8.first", "unicode/utf8.acceptRanges"], apart := false, laid := [("unicode/utf8.acceptRanges", laid_unicode_utf8_acceptRanges), ("unicode/utf8.first", laid_unicode_utf8_first)] }
def EmphTellsSaid : Prop := emphTellsRow.holds Tryd.pinned (OpenSpec.ofChange emphTellsSpec)

/-- ITS FALSE NEIGHBOUR: 'it returns false'. Refute it at one input. -/
def emphTellsWrong : ChangeSpec := { name := "emphTells", fn := fun _ => fun
  | [d1, d2, d3, d4, d5] => { results := [.lit (.bool false)], args := [d1, d2, d3, d4, d5] }
  | _ => none }
def EmphTellsWrongFalsely : Prop := emphTellsRow.holds Tryd.pinned (OpenSpec.ofChange emphTellsWrong)

/-- 'selvedgelaw10.EmphNests': WHATEVER THE INPUT: true; the input reads as it did. -/
def emphNestsSpec : ChangeSpec := { name := "emphNests", fn := fun _ => fun
  | [d] => { results := [.lit (.bool true)], args := [d] }
  | _ => none }
def emphNestsRow : OpenClaim := { program := "ytdjfcjlpemckoaadoor", sum := "e833914c72270316dfa7e13a67cc9ab814d655d437bda2a6c6a73ff31ab67f28", func := "selvedge/selvedgelaw10.EmphNests", spec := "emphNests", named := ["unicode/utf8.first", "unicode/utf8.acceptRanges"], apart := false, laid := [("unicode/utf8.acceptRanges", laid_unicode_utf8_acceptRanges), ("unicode/utf8.first", laid_unicode_utf8_first)] }
def EmphNestsSaid : Prop := emphNestsRow.holds Tryd.pinned (OpenSpec.ofChange emphNestsSpec)

/-- ITS FALSE NEIGHBOUR: 'it returns false'. Refute it at one input. -/
def emphNestsWrong : ChangeSpec := { name := "emphNests", fn := fun _ => fun
  | [d] => { results := [.lit (.bool false)], args := [d] }
  | _ => none }
def EmphNestsWrongFalsely : Prop := emphNestsRow.holds Tryd.pinned (OpenSpec.ofChange emphNestsWrong)

/-- 'selvedgelaw10.EmphPlain': WHATEVER THE INPUT: true; the input reads as it did. -/
def emphPlainSpec : ChangeSpec := { name := "emphPlain", fn := fun _ => fun
  | [d1, d2] => { results := [.lit (.bool true)], args := [d1, d2] }
  | _ => none }
def emphPlainRow : OpenClaim := { program := "ytdjfcjlpemckoaadoor", sum := "e833914c72270316dfa7e13a67cc9ab814d655d437bda2a6c6a73ff31ab67f28", func := "selvedge/selvedgelaw10.EmphPlain", spec := "emphPlain", named := ["unicode/utf8.first", "unicode/utf8.acceptRanges"], apart := false, laid := [("unicode/utf8.acceptRanges", laid_unicode_utf8_acceptRanges), ("unicode/utf8.first", laid_unicode_utf8_first)] }
def EmphPlainSaid : Prop := emphPlainRow.holds Tryd.pinned (OpenSpec.ofChange emphPlainSpec)

/-- ITS FALSE NEIGHBOUR: 'it returns false'. Refute it at one input. -/
def emphPlainWrong : ChangeSpec := { name := "emphPlain", fn := fun _ => fun
  | [d1, d2] => { results := [.lit (.bool false)], args := [d1, d2] }
  | _ => none }
def EmphPlainWrongFalsely : Prop := emphPlainRow.holds Tryd.pinned (OpenSpec.ofChange emphPlainWrong)

/-- 'selvedgelaw10.EmphCounts': WHATEVER THE INPUT: true; the input reads as it did. -/
def emphCountsSpec : ChangeSpec := { name := "emphCounts", fn := fun _ => fun
  | [d1, d2] => { results := [.lit (.bool true)], args := [d1, d2] }
  | _ => none }
def emphCountsRow : OpenClaim := { program := "ytdjfcjlpemckoaadoor", sum := "e833914c72270316dfa7e13a67cc9ab814d655d437bda2a6c6a73ff31ab67f28", func := "selvedge/selvedgelaw10.EmphCounts", spec := "emphCounts", named := ["unicode/utf8.first", "unicode/utf8.acceptRanges"], apart := false, laid := [("unicode/utf8.acceptRanges", laid_unicode_utf8_acceptRanges), ("unicode/utf8.first", laid_unicode_utf8_first)] }
def EmphCountsSaid : Prop := emphCountsRow.holds Tryd.pinned (OpenSpec.ofChange emphCountsSpec)

/-- ITS FALSE NEIGHBOUR: 'it returns false'. Refute it at one input. -/
def emphCountsWrong : ChangeSpec := { name := "emphCounts", fn := fun _ => fun
  | [d1, d2] => { results := [.lit (.bool false)], args := [d1, d2] }
  | _ => none }
def EmphCountsWrongFalsely : Prop := emphCountsRow.holds Tryd.pinned (OpenSpec.ofChange emphCountsWrong)

/- THE SECOND FORM. 'bulk': how many values and letters a reading holds, each counted each time it is reached (what is shared counts as often as it is met; a slice's spare places count too). A statement '..UptoSaid' is the law's where the arguments, and the package variables that the reading takes, are together of bulk at most 1048576: NARROWER than '..Said'. Prove '..Said' where nothing that the law and all that it calls make is longer than what came in: it says more and counts as full. Else prove '..UptoSaid'. A law counts once. -/
mutual
def uptoBulk {H : Type} : DataW H → Nat
  | .lit (.string bytes) => bytes.length + 1
  | .lit _ => 1
  | .nil => 1
  | .ptr d => uptoBulk d + 1
  | .slice elems spare => uptoBulkAll elems + uptoBulkAll spare + 1
  | .agg parts => uptoBulkAll parts + 1
  | .iface _ d => uptoBulk d + 1
  | .map entries => uptoBulkEntries entries + 1
  | .held _ => 1
def uptoBulkAll {H : Type} : List (DataW H) → Nat
  | [] => 0
  | d :: r => uptoBulk d + uptoBulkAll r
def uptoBulkEntries {H : Type} : List (Lit × DataW H) → Nat
  | [] => 0
  | x :: r => uptoBulkEntry x + uptoBulkEntries r
def uptoBulkEntry {H : Type} : Lit × DataW H → Nat
  | (.string bytes, d) => bytes.length + uptoBulk d + 1
  | (_, d) => uptoBulk d + 1
 end
def uptoSmall : (H : Type) → List (DataW H) → Bool := fun _ ds => decide (uptoBulkAll ds ≤ 1048576)
def OpenSpec.upto (s : _root_.Go.ChangeSpec) : _root_.Go.OpenSpec := { _root_.Go.OpenSpec.ofChange s with cond := some uptoSmall }

/-- 'selvedgelaw10.EmphNumbers', WHERE WHAT IT READS IS OF BULK AT MOST 1048576: true; the input reads as it did. -/
def emphNumbersUptoRow : OpenClaim := { program := "ytdjfcjlpemckoaadoor", sum := "e833914c72270316dfa7e13a67cc9ab814d655d437bda2a6c6a73ff31ab67f28", func := "selvedge/selvedgelaw10.EmphNumbers", spec := "emphNumbers", named := ["unicode/utf8.first", "unicode/utf8.acceptRanges"], apart := false, laid := [("unicode/utf8.acceptRanges", laid_unicode_utf8_acceptRanges), ("unicode/utf8.first", laid_unicode_utf8_first)], narrowed := true }
def EmphNumbersUptoSaid : Prop := emphNumbersUptoRow.holds Tryd.pinned (OpenSpec.upto emphNumbersSpec)

/-- 'selvedgelaw10.EmphTells', WHERE WHAT IT READS IS OF BULK AT MOST 1048576: true; the input reads as it did. -/
def emphTellsUptoRow : OpenClaim := { program := "ytdjfcjlpemckoaadoor", sum := "e833914c72270316dfa7e13a67cc9ab814d655d437bda2a6c6a73ff31ab67f28", func := "selvedge/selvedgelaw10.EmphTells", spec := "emphTells", named := ["unicode/utf8.first", "unicode/utf8.acceptRanges"], apart := false, laid := [("unicode/utf8.acceptRanges", laid_unicode_utf8_acceptRanges), ("unicode/utf8.first", laid_unicode_utf8_first)], narrowed := true }
def EmphTellsUptoSaid : Prop := emphTellsUptoRow.holds Tryd.pinned (OpenSpec.upto emphTellsSpec)

/-- 'selvedgelaw10.EmphNests', WHERE WHAT IT READS IS OF BULK AT MOST 1048576: true; the input reads as it did. -/
def emphNestsUptoRow : OpenClaim := { program := "ytdjfcjlpemckoaadoor", sum := "e833914c72270316dfa7e13a67cc9ab814d655d437bda2a6c6a73ff31ab67f28", func := "selvedge/selvedgelaw10.EmphNests", spec := "emphNests", named := ["unicode/utf8.first", "unicode/utf8.acceptRanges"], apart := false, laid := [("unicode/utf8.acceptRanges", laid_unicode_utf8_acceptRanges), ("unicode/utf8.first", laid_unicode_utf8_first)], narrowed := true }
def EmphNestsUptoSaid : Prop := emphNestsUptoRow.holds Tryd.pinned (OpenSpec.upto emphNestsSpec)

/-- 'selvedgelaw10.EmphPlain', WHERE WHAT IT READS IS OF BULK AT MOST 1048576: true; the input reads as it did. -/
def emphPlainUptoRow : OpenClaim := { program := "ytdjfcjlpemckoaadoor", sum := "e833914c72270316dfa7e13a67cc9ab814d655d437bda2a6c6a73ff31ab67f28", func := "selvedge/selvedgelaw10.EmphPlain", spec := "emphPlain", named := ["unicode/utf8.first", "unicode/utf8.acceptRanges"], apart := false, laid := [("unicode/utf8.acceptRanges", laid_unicode_utf8_acceptRanges), ("unicode/utf8.first", laid_unicode_utf8_first)], narrowed := true }
def EmphPlainUptoSaid : Prop := emphPlainUptoRow.holds Tryd.pinned (OpenSpec.upto emphPlainSpec)

/-- 'selvedgelaw10.EmphCounts', WHERE WHAT IT READS IS OF BULK AT MOST 1048576: true; the input reads as it did. -/
def emphCountsUptoRow : OpenClaim := { program := "ytdjfcjlpemckoaadoor", sum := "e833914c72270316dfa7e13a67cc9ab814d655d437bda2a6c6a73ff31ab67f28", func := "selvedge/selvedgelaw10.EmphCounts", spec := "emphCounts", named := ["unicode/utf8.first", "unicode/utf8.acceptRanges"], apart := false, laid := [("unicode/utf8.acceptRanges", laid_unicode_utf8_acceptRanges), ("unicode/utf8.first", laid_unicode_utf8_first)], narrowed := true }
def EmphCountsUptoSaid : Prop := emphCountsUptoRow.holds Tryd.pinned (OpenSpec.upto emphCountsSpec)

end Rows
end Go.Proofs.YtdjfcjlpemckoaaDoor
