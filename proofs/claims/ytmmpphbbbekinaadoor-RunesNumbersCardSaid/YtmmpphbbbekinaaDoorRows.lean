/-
  NARROWER THAN 'FOR EVERY INPUT', by the rows' own cells (each row's printed sentence says how): RunesNumbers: laid · RunesTells: laid · RunesFold: laid · RunesKinds: laid · RunesText: laid · FenceNumbers: laid · FenceTells: laid · FenceLong: laid · FenceEnds: laid · FenceInfo: laid.
  DERIVED. THE GIVEN ROWS OF THIS SEAT. 10 by the template 'for every input the law returns true; each argument reads behind the call as it read before'; 0 by the template 'total and deterministic' (their statements: YtmmpphbbbekinaaDoorTotals.lean).
  GIVEN WITH THE SEED: the statements are not yours to turn. If you find one false, say at which input.
  Laid BY PROGRAM, IN A SANDBOX (cutbox-rows.mjs): the forced cells as the released guide's own fill.sh prints them over the translation 478e8279e6a63ffc… (all of the seat's roots in one cut). By AI agents, Wed Nov 11 2026. No macro, syntax, notation, axiom, sorry.
-/
import Derived.Test.YtmmpphbbbekinaaDoorChecked
import GoSem.PinnedTables
import GoSem.Claim
import GoSem.ClaimJoined
import GoSem.ClaimMapViews
import Derived.JoinedTies
import Derived.KernelRfl
namespace Go.Proofs.YtmmpphbbbekinaaDoor
/- THE CELL 'sum', in the pinned program and in every row, IS THE sha256 OF THE DUMP (.gsa) THAT YtmmpphbbbekinaaDoorProg.lean LOADS. Nothing in Lean hashes anything: it is a label: what it is worth is what the hold of that sum in a sandbox is worth. -/
noncomputable def Tryd.pinned : Pinned := { name := "ytmmpphbbbekinaadoor", sum := "478e8279e6a63ffc09a5df92670f2bfb48183c5f704618b42c67a0cb35d0f131", checked := Tryd.checked }
namespace Rows
def none {H : Type} : Left H := { results := [], args := [] }

/- WHAT THE LISTED PACKAGE-LEVEL VARIABLES READ AS WHEN THE CALL BEGINS. Each datum BY PROGRAM (the guide's laid-datum.mjs) off the statement by which the dump's own 'gosem.cut.vars' lays the variable. In a bare row this is a premise. The card (YtmmpphbbbekinaaDoorCards.lean) ties it to the program's text. -/
def laid_unicode_utf8_acceptRanges {H : Type} : DataW H := .agg [.agg [.lit (.int .u8 128), .lit (.int .u8 191)], .agg [.lit (.int .u8 160), .lit (.int .u8 191)], .agg [.lit (.int .u8 128), .lit (.int .u8 159)], .agg [.lit (.int .u8 144), .lit (.int .u8 191)], .agg [.lit (.int .u8 128), .lit (.int .u8 143)], .agg [.lit (.int .u8 0), .lit (.int .u8 0)], .agg [.lit (.int .u8 0), .lit (.int .u8 0)], .agg [.lit (.int .u8 0), .lit (.int .u8 0)], .agg [.lit (.int .u8 0), .lit (.int .u8 0)], .agg [.lit (.int .u8 0), .lit (.int .u8 0)], .agg [.lit (.int .u8 0), .lit (.int .u8 0)], .agg [.lit (.int .u8 0), .lit (.int .u8 0)], .agg [.lit (.int .u8 0), .lit (.int .u8 0)], .agg [.lit (.int .u8 0), .lit (.int .u8 0)], .agg [.lit (.int .u8 0), .lit (.int .u8 0)], .agg [.lit (.int .u8 0), .lit (.int .u8 0)]]
/-- One of Go's own tables, pinned by name: the form's constant. -/
def laid_unicode_utf8_first : DataW Unit := Go.Pinned.utf8First

/-- 'selvedgelaw2.RunesNumbers': WHATEVER THE INPUT: true; the input reads as it did. -/
def runesNumbersSpec : ChangeSpec := { name := "runesNumbers", fn := fun _ => fun
  | [] => { results := [.lit (.bool true)], args := [] }
  | _ => none }
def runesNumbersRow : OpenClaim := { program := "ytmmpphbbbekinaadoor", sum := "478e8279e6a63ffc09a5df92670f2bfb48183c5f704618b42c67a0cb35d0f131", func := "selvedge/selvedgelaw2.RunesNumbers", spec := "runesNumbers", inPlace := ["internal/abi.NoEscape"], named := ["unicode/utf8.first", "unicode/utf8.acceptRanges"], apart := false, laid := [("unicode/utf8.acceptRanges", laid_unicode_utf8_acceptRanges), ("unicode/utf8.first", laid_unicode_utf8_first)] }
def RunesNumbersSaid : Prop := runesNumbersRow.holds Tryd.pinned (OpenSpec.ofChange runesNumbersSpec)

/-- ITS FALSE NEIGHBOUR: 'it returns false'. Refute it at one input. -/
def runesNumbersWrong : ChangeSpec := { name := "runesNumbers", fn := fun _ => fun
  | [] => { results := [.lit (.bool false)], args := [] }
  | _ => none }
def RunesNumbersWrongFalsely : Prop := runesNumbersRow.holds Tryd.pinned (OpenSpec.ofChange runesNumbersWrong)

/-- 'selvedgelaw2.RunesTells': WHATEVER THE INPUT: true; the input reads as it did. -/
def runesTellsSpec : ChangeSpec := { name := "runesTells", fn := fun _ => fun
  | [d1, d2, d3] => { results := [.lit (.bool true)], args := [d1, d2, d3] }
  | _ => none }
def runesTellsRow : OpenClaim := { program := "ytmmpphbbbekinaadoor", sum := "478e8279e6a63ffc09a5df92670f2bfb48183c5f704618b42c67a0cb35d0f131", func := "selvedge/selvedgelaw2.RunesTells", spec := "runesTells", inPlace := ["internal/abi.NoEscape"], named := ["unicode/utf8.first", "unicode/utf8.acceptRanges"], apart := false, laid := [("unicode/utf8.acceptRanges", laid_unicode_utf8_acceptRanges), ("unicode/utf8.first", laid_unicode_utf8_first)] }
def RunesTellsSaid : Prop := runesTellsRow.holds Tryd.pinned (OpenSpec.ofChange runesTellsSpec)

/-- ITS FALSE NEIGHBOUR: 'it returns false'. Refute it at one input. -/
def runesTellsWrong : ChangeSpec := { name := "runesTells", fn := fun _ => fun
  | [d1, d2, d3] => { results := [.lit (.bool false)], args := [d1, d2, d3] }
  | _ => none }
def RunesTellsWrongFalsely : Prop := runesTellsRow.holds Tryd.pinned (OpenSpec.ofChange runesTellsWrong)

/-- 'selvedgelaw2.RunesFold': WHATEVER THE INPUT: true; the input reads as it did. -/
def runesFoldSpec : ChangeSpec := { name := "runesFold", fn := fun _ => fun
  | [d1, d2] => { results := [.lit (.bool true)], args := [d1, d2] }
  | _ => none }
def runesFoldRow : OpenClaim := { program := "ytmmpphbbbekinaadoor", sum := "478e8279e6a63ffc09a5df92670f2bfb48183c5f704618b42c67a0cb35d0f131", func := "selvedge/selvedgelaw2.RunesFold", spec := "runesFold", inPlace := ["internal/abi.NoEscape"], named := ["unicode/utf8.first", "unicode/utf8.acceptRanges"], apart := false, laid := [("unicode/utf8.acceptRanges", laid_unicode_utf8_acceptRanges), ("unicode/utf8.first", laid_unicode_utf8_first)] }
def RunesFoldSaid : Prop := runesFoldRow.holds Tryd.pinned (OpenSpec.ofChange runesFoldSpec)

/-- ITS FALSE NEIGHBOUR: 'it returns false'. Refute it at one input. -/
def runesFoldWrong : ChangeSpec := { name := "runesFold", fn := fun _ => fun
  | [d1, d2] => { results := [.lit (.bool false)], args := [d1, d2] }
  | _ => none }
def RunesFoldWrongFalsely : Prop := runesFoldRow.holds Tryd.pinned (OpenSpec.ofChange runesFoldWrong)

/-- 'selvedgelaw2.RunesKinds': WHATEVER THE INPUT: true; the input reads as it did. -/
def runesKindsSpec : ChangeSpec := { name := "runesKinds", fn := fun _ => fun
  | [d1, d2] => { results := [.lit (.bool true)], args := [d1, d2] }
  | _ => none }
def runesKindsRow : OpenClaim := { program := "ytmmpphbbbekinaadoor", sum := "478e8279e6a63ffc09a5df92670f2bfb48183c5f704618b42c67a0cb35d0f131", func := "selvedge/selvedgelaw2.RunesKinds", spec := "runesKinds", inPlace := ["internal/abi.NoEscape"], named := ["unicode/utf8.first", "unicode/utf8.acceptRanges"], apart := false, laid := [("unicode/utf8.acceptRanges", laid_unicode_utf8_acceptRanges), ("unicode/utf8.first", laid_unicode_utf8_first)] }
def RunesKindsSaid : Prop := runesKindsRow.holds Tryd.pinned (OpenSpec.ofChange runesKindsSpec)

/-- ITS FALSE NEIGHBOUR: 'it returns false'. Refute it at one input. -/
def runesKindsWrong : ChangeSpec := { name := "runesKinds", fn := fun _ => fun
  | [d1, d2] => { results := [.lit (.bool false)], args := [d1, d2] }
  | _ => none }
def RunesKindsWrongFalsely : Prop := runesKindsRow.holds Tryd.pinned (OpenSpec.ofChange runesKindsWrong)

/-- 'selvedgelaw2.RunesText': WHATEVER THE INPUT: true; the input reads as it did. -/
def runesTextSpec : ChangeSpec := { name := "runesText", fn := fun _ => fun
  | [d1, d2] => { results := [.lit (.bool true)], args := [d1, d2] }
  | _ => none }
def runesTextRow : OpenClaim := { program := "ytmmpphbbbekinaadoor", sum := "478e8279e6a63ffc09a5df92670f2bfb48183c5f704618b42c67a0cb35d0f131", func := "selvedge/selvedgelaw2.RunesText", spec := "runesText", inPlace := ["internal/abi.NoEscape"], named := ["unicode/utf8.first", "unicode/utf8.acceptRanges"], apart := false, laid := [("unicode/utf8.acceptRanges", laid_unicode_utf8_acceptRanges), ("unicode/utf8.first", laid_unicode_utf8_first)] }
def RunesTextSaid : Prop := runesTextRow.holds Tryd.pinned (OpenSpec.ofChange runesTextSpec)

/-- ITS FALSE NEIGHBOUR: 'it returns false'. Refute it at one input. -/
def runesTextWrong : ChangeSpec := { name := "runesText", fn := fun _ => fun
  | [d1, d2] => { results := [.lit (.bool false)], args := [d1, d2] }
  | _ => none }
def RunesTextWrongFalsely : Prop := runesTextRow.holds Tryd.pinned (OpenSpec.ofChange runesTextWrong)

/-- 'selvedgelaw4.FenceNumbers': WHATEVER THE INPUT: true; the input reads as it did. -/
def fenceNumbersSpec : ChangeSpec := { name := "fenceNumbers", fn := fun _ => fun
  | [] => { results := [.lit (.bool true)], args := [] }
  | _ => none }
def fenceNumbersRow : OpenClaim := { program := "ytmmpphbbbekinaadoor", sum := "478e8279e6a63ffc09a5df92670f2bfb48183c5f704618b42c67a0cb35d0f131", func := "selvedge/selvedgelaw4.FenceNumbers", spec := "fenceNumbers", inPlace := ["internal/bytealg.IndexByteString", "internal/bytealg.IndexString"], named := ["unicode/utf8.first", "unicode/utf8.acceptRanges", "internal/bytealg.MaxLen"], apart := false, laid := [("unicode/utf8.acceptRanges", laid_unicode_utf8_acceptRanges), ("unicode/utf8.first", laid_unicode_utf8_first)] }
def FenceNumbersSaid : Prop := fenceNumbersRow.holds Tryd.pinned (OpenSpec.ofChange fenceNumbersSpec)

/-- ITS FALSE NEIGHBOUR: 'it returns false'. Refute it at one input. -/
def fenceNumbersWrong : ChangeSpec := { name := "fenceNumbers", fn := fun _ => fun
  | [] => { results := [.lit (.bool false)], args := [] }
  | _ => none }
def FenceNumbersWrongFalsely : Prop := fenceNumbersRow.holds Tryd.pinned (OpenSpec.ofChange fenceNumbersWrong)

/-- 'selvedgelaw4.FenceTells': WHATEVER THE INPUT: true; the input reads as it did. -/
def fenceTellsSpec : ChangeSpec := { name := "fenceTells", fn := fun _ => fun
  | [d1, d2, d3, d4, d5, d6] => { results := [.lit (.bool true)], args := [d1, d2, d3, d4, d5, d6] }
  | _ => none }
def fenceTellsRow : OpenClaim := { program := "ytmmpphbbbekinaadoor", sum := "478e8279e6a63ffc09a5df92670f2bfb48183c5f704618b42c67a0cb35d0f131", func := "selvedge/selvedgelaw4.FenceTells", spec := "fenceTells", inPlace := ["internal/bytealg.IndexByteString", "internal/bytealg.IndexString"], named := ["unicode/utf8.first", "unicode/utf8.acceptRanges", "internal/bytealg.MaxLen"], apart := false, laid := [("unicode/utf8.acceptRanges", laid_unicode_utf8_acceptRanges), ("unicode/utf8.first", laid_unicode_utf8_first)] }
def FenceTellsSaid : Prop := fenceTellsRow.holds Tryd.pinned (OpenSpec.ofChange fenceTellsSpec)

/-- ITS FALSE NEIGHBOUR: 'it returns false'. Refute it at one input. -/
def fenceTellsWrong : ChangeSpec := { name := "fenceTells", fn := fun _ => fun
  | [d1, d2, d3, d4, d5, d6] => { results := [.lit (.bool false)], args := [d1, d2, d3, d4, d5, d6] }
  | _ => none }
def FenceTellsWrongFalsely : Prop := fenceTellsRow.holds Tryd.pinned (OpenSpec.ofChange fenceTellsWrong)

/-- 'selvedgelaw4.FenceLong': WHATEVER THE INPUT: true; the input reads as it did. -/
def fenceLongSpec : ChangeSpec := { name := "fenceLong", fn := fun _ => fun
  | [d1, d2] => { results := [.lit (.bool true)], args := [d1, d2] }
  | _ => none }
def fenceLongRow : OpenClaim := { program := "ytmmpphbbbekinaadoor", sum := "478e8279e6a63ffc09a5df92670f2bfb48183c5f704618b42c67a0cb35d0f131", func := "selvedge/selvedgelaw4.FenceLong", spec := "fenceLong", inPlace := ["internal/bytealg.IndexByteString", "internal/bytealg.IndexString"], named := ["unicode/utf8.first", "unicode/utf8.acceptRanges", "internal/bytealg.MaxLen"], apart := false, laid := [("unicode/utf8.acceptRanges", laid_unicode_utf8_acceptRanges), ("unicode/utf8.first", laid_unicode_utf8_first)] }
def FenceLongSaid : Prop := fenceLongRow.holds Tryd.pinned (OpenSpec.ofChange fenceLongSpec)

/-- ITS FALSE NEIGHBOUR: 'it returns false'. Refute it at one input. -/
def fenceLongWrong : ChangeSpec := { name := "fenceLong", fn := fun _ => fun
  | [d1, d2] => { results := [.lit (.bool false)], args := [d1, d2] }
  | _ => none }
def FenceLongWrongFalsely : Prop := fenceLongRow.holds Tryd.pinned (OpenSpec.ofChange fenceLongWrong)

/-- 'selvedgelaw4.FenceEnds': WHATEVER THE INPUT: true; the input reads as it did. -/
def fenceEndsSpec : ChangeSpec := { name := "fenceEnds", fn := fun _ => fun
  | [d1, d2, d3] => { results := [.lit (.bool true)], args := [d1, d2, d3] }
  | _ => none }
def fenceEndsRow : OpenClaim := { program := "ytmmpphbbbekinaadoor", sum := "478e8279e6a63ffc09a5df92670f2bfb48183c5f704618b42c67a0cb35d0f131", func := "selvedge/selvedgelaw4.FenceEnds", spec := "fenceEnds", inPlace := ["internal/bytealg.IndexByteString", "internal/bytealg.IndexString"], named := ["unicode/utf8.first", "unicode/utf8.acceptRanges", "internal/bytealg.MaxLen"], apart := false, laid := [("unicode/utf8.acceptRanges", laid_unicode_utf8_acceptRanges), ("unicode/utf8.first", laid_unicode_utf8_first)] }
def FenceEndsSaid : Prop := fenceEndsRow.holds Tryd.pinned (OpenSpec.ofChange fenceEndsSpec)

/-- ITS FALSE NEIGHBOUR: 'it returns false'. Refute it at one input. -/
def fenceEndsWrong : ChangeSpec := { name := "fenceEnds", fn := fun _ => fun
  | [d1, d2, d3] => { results := [.lit (.bool false)], args := [d1, d2, d3] }
  | _ => none }
def FenceEndsWrongFalsely : Prop := fenceEndsRow.holds Tryd.pinned (OpenSpec.ofChange fenceEndsWrong)

/-- 'selvedgelaw4.FenceInfo': WHATEVER THE INPUT: true; the input reads as it did. -/
def fenceInfoSpec : ChangeSpec := { name := "fenceInfo", fn := fun _ => fun
  | [d1, d2] => { results := [.lit (.bool true)], args := [d1, d2] }
  | _ => none }
def fenceInfoRow : OpenClaim := { program := "ytmmpphbbbekinaadoor", sum := "478e8279e6a63ffc09a5df92670f2bfb48183c5f704618b42c67a0cb35d0f131", func := "selvedge/selvedgelaw4.FenceInfo", spec := "fenceInfo", inPlace := ["internal/bytealg.IndexByteString", "internal/bytealg.IndexString"], named := ["unicode/utf8.first", "unicode/utf8.acceptRanges", "internal/bytealg.MaxLen"], apart := false, laid := [("unicode/utf8.acceptRanges", laid_unicode_utf8_acceptRanges), ("unicode/utf8.first", laid_unicode_utf8_first)] }
def FenceInfoSaid : Prop := fenceInfoRow.holds Tryd.pinned (OpenSpec.ofChange fenceInfoSpec)

/-- ITS FALSE NEIGHBOUR: 'it returns false'. Refute it at one input. -/
def fenceInfoWrong : ChangeSpec := { name := "fenceInfo", fn := fun _ => fun
  | [d1, d2] => { results := [.lit (.bool false)], args := [d1, d2] }
  | _ => none }
def FenceInfoWrongFalsely : Prop := fenceInfoRow.holds Tryd.pinned (OpenSpec.ofChange fenceInfoWrong)

/- THE SECOND FORM. 'bulk': how many values and letters a reading holds, each counted each time it is reached (what is shared counts as often as it is met; a slice's spare places count too). A statement '..UptoSaid' is the law's where the arguments, and the package variables that the reading takes, are together of bulk at most 1048576: NARROWER than '..Said'. Prove '..Said' where nothing that the law and all that it calls make is longer than what came in: it says more and counts as full. Else prove '..UptoSaid'. A law counts once. -/
mutual
def uptoBulk {H : Type} : DataW H → Nat
  | .lit (.string bytes) => bytes.length + 1
  | .lit _ => 1
  | .nil => 1
  | .ptr d => uptoBulk d + 1
  | .slice elems spare => uptoBulkAll elems + uptoBulkAll spare + 1
  | .agg parts => uptoBulkAll parts + 1
  | .iface _ d => uptoBulk d + 1
  | .map entries => uptoBulkEntries entries + 1
  | .held _ => 1
def uptoBulkAll {H : Type} : List (DataW H) → Nat
  | [] => 0
  | d :: r => uptoBulk d + uptoBulkAll r
def uptoBulkEntries {H : Type} : List (Lit × DataW H) → Nat
  | [] => 0
  | x :: r => uptoBulkEntry x + uptoBulkEntries r
def uptoBulkEntry {H : Type} : Lit × DataW H → Nat
  | (.string bytes, d) => bytes.length + uptoBulk d + 1
  | (_, d) => uptoBulk d + 1
 end
def uptoSmall : (H : Type) → List (DataW H) → Bool := fun _ ds => decide (uptoBulkAll ds ≤ 1048576)
def OpenSpec.upto (s : _root_.Go.ChangeSpec) : _root_.Go.OpenSpec := { _root_.Go.OpenSpec.ofChange s with cond := some uptoSmall }

/-- 'selvedgelaw2.RunesNumbers', WHERE WHAT IT READS IS OF BULK AT MOST 1048576: true; the input reads as it did. -/
def runesNumbersUptoRow : OpenClaim := { program := "ytmmpphbbbekinaadoor", sum := "478e8279e6a63ffc09a5df92670f2bfb48183c5f704618b42c67a0cb35d0f131", func := "selvedge/selvedgelaw2.RunesNumbers", spec := "runesNumbers", inPlace := ["internal/abi.NoEscape"], named := ["unicode/utf8.first", "unicode/utf8.acceptRanges"], apart := false, laid := [("unicode/utf8.acceptRanges", laid_unicode_utf8_acceptRanges), ("unicode/utf8.first", laid_unicode_utf8_first)], narrowed := true }
def RunesNumbersUptoSaid : Prop := runesNumbersUptoRow.holds Tryd.pinned (OpenSpec.upto runesNumbersSpec)

/-- 'selvedgelaw2.RunesTells', WHERE WHAT IT READS IS OF BULK AT MOST 1048576: true; the input reads as it did. -/
def runesTellsUptoRow : OpenClaim := { program := "ytmmpphbbbekinaadoor", sum := "478e8279e6a63ffc09a5df92670f2bfb48183c5f704618b42c67a0cb35d0f131", func := "selvedge/selvedgelaw2.RunesTells", spec := "runesTells", inPlace := ["internal/abi.NoEscape"], named := ["unicode/utf8.first", "unicode/utf8.acceptRanges"], apart := false, laid := [("unicode/utf8.acceptRanges", laid_unicode_utf8_acceptRanges), ("unicode/utf8.first", laid_unicode_utf8_first)], narrowed := true }
def RunesTellsUptoSaid : Prop := runesTellsUptoRow.holds Tryd.pinned (OpenSpec.upto runesTellsSpec)

/-- 'selvedgelaw2.RunesFold', WHERE WHAT IT READS IS OF BULK AT MOST 1048576: true; the input reads as it did. -/
def runesFoldUptoRow : OpenClaim := { program := "ytmmpphbbbekinaadoor", sum := "478e8279e6a63ffc09a5df92670f2bfb48183c5f704618b42c67a0cb35d0f131", func := "selvedge/selvedgelaw2.RunesFold", spec := "runesFold", inPlace := ["internal/abi.NoEscape"], named := ["unicode/utf8.first", "unicode/utf8.acceptRanges"], apart := false, laid := [("unicode/utf8.acceptRanges", laid_unicode_utf8_acceptRanges), ("unicode/utf8.first", laid_unicode_utf8_first)], narrowed := true }
def RunesFoldUptoSaid : Prop := runesFoldUptoRow.holds Tryd.pinned (OpenSpec.upto runesFoldSpec)

/-- 'selvedgelaw2.RunesKinds', WHERE WHAT IT READS IS OF BULK AT MOST 1048576: true; the input reads as it did. -/
def runesKindsUptoRow : OpenClaim := { program := "ytmmpphbbbekinaadoor", sum := "478e8279e6a63ffc09a5df92670f2bfb48183c5f704618b42c67a0cb35d0f131", func := "selvedge/selvedgelaw2.RunesKinds", spec := "runesKinds", inPlace := ["internal/abi.NoEscape"], named := ["unicode/utf8.first", "unicode/utf8.acceptRanges"], apart := false, laid := [("unicode/utf8.acceptRanges", laid_unicode_utf8_acceptRanges), ("unicode/utf8.first", laid_unicode_utf8_first)], narrowed := true }
def RunesKindsUptoSaid : Prop := runesKindsUptoRow.holds Tryd.pinned (OpenSpec.upto runesKindsSpec)

/-- 'selvedgelaw2.RunesText', WHERE WHAT IT READS IS OF BULK AT MOST 1048576: true; the input reads as it did. -/
def runesTextUptoRow : OpenClaim := { program := "ytmmpphbbbekinaadoor", sum := "478e8279e6a63ffc09a5df92670f2bfb48183c5f704618b42c67a0cb35d0f131", func := "selvedge/selvedgelaw2.RunesText", spec := "runesText", inPlace := ["internal/abi.NoEscape"], named := ["unicode/utf8.first", "unicode/utf8.acceptRanges"], apart := false, laid := [("unicode/utf8.acceptRanges", laid_unicode_utf8_acceptRanges), ("unicode/utf8.first", laid_unicode_utf8_first)], narrowed := true }
def RunesTextUptoSaid : Prop := runesTextUptoRow.holds Tryd.pinned (OpenSpec.upto runesTextSpec)

/-- 'selvedgelaw4.FenceNumbers', WHERE WHAT IT READS IS OF BULK AT MOST 1048576: true; the input reads as it did. -/
def fenceNumbersUptoRow : OpenClaim := { program := "ytmmpphbbbekinaadoor", sum := "478e8279e6a63ffc09a5df92670f2bfb48183c5f704618b42c67a0cb35d0f131", func := "selvedge/selvedgelaw4.FenceNumbers", spec := "fenceNumbers", inPlace := ["internal/bytealg.IndexByteString", "internal/bytealg.IndexString"], named := ["unicode/utf8.first", "unicode/utf8.acceptRanges", "internal/bytealg.MaxLen"], apart := false, laid := [("unicode/utf8.acceptRanges", laid_unicode_utf8_acceptRanges), ("unicode/utf8.first", laid_unicode_utf8_first)], narrowed := true }
def FenceNumbersUptoSaid : Prop := fenceNumbersUptoRow.holds Tryd.pinned (OpenSpec.upto fenceNumbersSpec)

/-- 'selvedgelaw4.FenceTells', WHERE WHAT IT READS IS OF BULK AT MOST 1048576: true; the input reads as it did. -/
def fenceTellsUptoRow : OpenClaim := { program := "ytmmpphbbbekinaadoor", sum := "478e8279e6a63ffc09a5df92670f2bfb48183c5f704618b42c67a0cb35d0f131", func := "selvedge/selvedgelaw4.FenceTells", spec := "fenceTells", inPlace := ["internal/bytealg.IndexByteString", "internal/bytealg.IndexString"], named := ["unicode/utf8.first", "unicode/utf8.acceptRanges", "internal/bytealg.MaxLen"], apart := false, laid := [("unicode/utf8.acceptRanges", laid_unicode_utf8_acceptRanges), ("unicode/utf8.first", laid_unicode_utf8_first)], narrowed := true }
def FenceTellsUptoSaid : Prop := fenceTellsUptoRow.holds Tryd.pinned (OpenSpec.upto fenceTellsSpec)

/-- 'selvedgelaw4.FenceLong', WHERE WHAT IT READS IS OF BULK AT MOST 1048576: true; the input reads as it did. -/
def fenceLongUptoRow : OpenClaim := { program := "ytmmpphbbbekinaadoor", sum := "478e8279e6a63ffc09a5df92670f2bfb48183c5f704618b42c67a0cb35d0f131", func := "selvedge/selvedgelaw4.FenceLong", spec := "fenceLong", inPlace := ["internal/bytealg.IndexByteString", "internal/bytealg.IndexString"], named := ["unicode/utf8.first", "unicode/utf8.acceptRanges", "internal/bytealg.MaxLen"], apart := false, laid := [("unicode/utf8.acceptRanges", laid_unicode_utf8_acceptRanges), ("unicode/utf8.first", laid_unicode_utf8_first)], narrowed := true }
def FenceLongUptoSaid : Prop := fenceLongUptoRow.holds Tryd.pinned (OpenSpec.upto fenceLongSpec)

/-- 'selvedgelaw4.FenceEnds', WHERE WHAT IT READS IS OF BULK AT MOST 1048576: true; the input reads as it did. -/
def fenceEndsUptoRow : OpenClaim := { program := "ytmmpphbbbekinaadoor", sum := "478e8279e6a63ffc09a5df92670f2bfb48183c5f704618b42c67a0cb35d0f131", func := "selvedge/selvedgelaw4.FenceEnds", spec := "fenceEnds", inPlace := ["internal/bytealg.IndexByteString", "internal/bytealg.IndexString"], named := ["unicode/utf8.first", "unicode/utf8.acceptRanges", "internal/bytealg.MaxLen"], apart := false, laid := [("unicode/utf8.acceptRanges", laid_unicode_utf8_acceptRanges), ("unicode/utf8.first", laid_unicode_utf8_first)], narrowed := true }
def FenceEndsUptoSaid : Prop := fenceEndsUptoRow.holds Tryd.pinned (OpenSpec.upto fenceEndsSpec)

/-- 'selvedgelaw4.FenceInfo', WHERE WHAT IT READS IS OF BULK AT MOST 1048576: true; the input reads as it did. -/
def fenceInfoUptoRow : OpenClaim := { program := "ytmmpphbbbekinaadoor", sum := "478e8279e6a63ffc09a5df92670f2bfb48183c5f704618b42c67a0cb35d0f131", func := "selvedge/selvedgelaw4.FenceInfo", spec := "fenceInfo", inPlace := ["internal/bytealg.IndexByteString", "internal/bytealg.IndexString"], named := ["unicode/utf8.first", "unicode/utf8.acceptRanges", "internal/bytealg.MaxLen"], apart := false, laid := [("unicode/utf8.acceptRanges", laid_unicode_utf8_acceptRanges), ("unicode/utf8.first", laid_unicode_utf8_first)], narrowed := true }
def FenceInfoUptoSaid : Prop := fenceInfoUptoRow.holds Tryd.pinned (OpenSpec.upto fenceInfoSpec)

end Rows
end Go.Proofs.YtmmpphbbbekinaaDoor
