/-
  NARROWER THAN 'FOR EVERY INPUT', by the rows' own cells (each row's printed sentence says how): CodeNumbers: laid · CodeTells: laid · CodeWhole: laid · CodeClean: laid · LinkNumbers: laid · LinkTells: laid · LinkClose: laid · LinkDest: laid · InlineRight: laid · InlineNested: laid.
  DERIVED. THE GIVEN ROWS OF THIS SEAT. 10 by the template 'for every input the law returns true; each argument reads behind the call as it read before'; 0 by the template 'total and deterministic' (their statements: YtfnhhkpnfficaaaDoorTotals.lean).
  GIVEN WITH THE SEED: the statements are not yours to turn. If you find one false, say at which input.
  Laid BY PROGRAM, IN A SANDBOX (cutbox-rows.mjs): the forced cells as the released guide's own fill.sh prints them over the translation 9e566b173bef8545… (all of the seat's roots in one cut). By AI agents, Wed Nov 11 2026. No macro, syntax, notation, axiom, sorry.
-/
import Derived.Test.YtfnhhkpnfficaaaDoorChecked
import GoSem.PinnedTables
import GoSem.Claim
import GoSem.ClaimJoined
import GoSem.ClaimMapViews
import Derived.JoinedTies
import Derived.KernelRfl
namespace Go.Proofs.YtfnhhkpnfficaaaDoor
/- THE CELL 'sum', in the pinned program and in every row, IS THE sha256 OF THE DUMP (.gsa) THAT YtfnhhkpnfficaaaDoorProg.lean LOADS. Nothing in Lean hashes anything: it is a label: what it is worth is what the hold of that sum in a sandbox is worth. -/
noncomputable def Tryd.pinned : Pinned := { name := "ytfnhhkpnfficaaadoor", sum := "9e566b173bef85455814df968182c11fdf64ec6e032ba38cef0bae8d5dead275", checked := Tryd.checked }
namespace Rows
def none {H : Type} : Left H := { results := [], args := [] }

/- WHAT THE LISTED PACKAGE-LEVEL VARIABLES READ AS WHEN THE CALL BEGINS. Each datum BY PROGRAM (the guide's laid-datum.mjs) off the statement by which the dump's own 'gosem.cut.vars' lays the variable. In a bare row this is a premise. The card (YtfnhhkpnfficaaaDoorCards.lean) ties it to the program's text. -/
def laid_unicode_utf8_acceptRanges {H : Type} : DataW H := .agg [.agg [.lit (.int .u8 128), .lit (.int .u8 191)], .agg [.lit (.int .u8 160), .lit (.int .u8 191)], .agg [.lit (.int .u8 128), .lit (.int .u8 159)], .agg [.lit (.int .u8 144), .lit (.int .u8 191)], .agg [.lit (.int .u8 128), .lit (.int .u8 143)], .agg [.lit (.int .u8 0), .lit (.int .u8 0)], .agg [.lit (.int .u8 0), .lit (.int .u8 0)], .agg [.lit (.int .u8 0), .lit (.int .u8 0)], .agg [.lit (.int .u8 0), .lit (.int .u8 0)], .agg [.lit (.int .u8 0), .lit (.int .u8 0)], .agg [.lit (.int .u8 0), .lit (.int .u8 0)], .agg [.lit (.int .u8 0), .lit (.int .u8 0)], .agg [.lit (.int .u8 0), .lit (.int .u8 0)], .agg [.lit (.int .u8 0), .lit (.int .u8 0)], .agg [.lit (.int .u8 0), .lit (.int .u8 0)], .agg [.lit (.int .u8 0), .lit (.int .u8 0)]]
/-- One of Go's own tables, pinned by name: the form's constant. -/
def laid_unicode_utf8_first : DataW Unit := Go.Pinned.utf8First

/-- 'selvedgelaw9.CodeNumbers': WHATEVER THE INPUT: true; the input reads as it did. -/
def codeNumbersSpec : ChangeSpec := { name := "codeNumbers", fn := fun _ => fun
  | [] => { results := [.lit (.bool true)], args := [] }
  | _ => none }
def codeNumbersRow : OpenClaim := { program := "ytfnhhkpnfficaaadoor", sum := "9e566b173bef85455814df968182c11fdf64ec6e032ba38cef0bae8d5dead275", func := "selvedge/selvedgelaw9.CodeNumbers", spec := "codeNumbers", inPlace := ["internal/bytealg.CountString", "internal/bytealg.IndexByteString", "internal/bytealg.IndexString", "internal/abi.NoEscape", "internal/bytealg.MakeNoZero"], named := ["internal/bytealg.MaxLen", "unicode/utf8.first", "unicode/utf8.acceptRanges"], apart := false, laid := [("unicode/utf8.acceptRanges", laid_unicode_utf8_acceptRanges), ("unicode/utf8.first", laid_unicode_utf8_first)] }
def CodeNumbersSaid : Prop := codeNumbersRow.holds Tryd.pinned (OpenSpec.ofChange codeNumbersSpec)

/-- ITS FALSE NEIGHBOUR: 'it returns false'. Refute it at one input. -/
def codeNumbersWrong : ChangeSpec := { name := "codeNumbers", fn := fun _ => fun
  | [] => { results := [.lit (.bool false)], args := [] }
  | _ => none }
def CodeNumbersWrongFalsely : Prop := codeNumbersRow.holds Tryd.pinned (OpenSpec.ofChange codeNumbersWrong)

/-- 'selvedgelaw9.CodeTells': WHATEVER THE INPUT: true; the input reads as it did. -/
def codeTellsSpec : ChangeSpec := { name := "codeTells", fn := fun _ => fun
  | [d1, d2, d3, d4, d5] => { results := [.lit (.bool true)], args := [d1, d2, d3, d4, d5] }
  | _ => none }
def codeTellsRow : OpenClaim := { program := "ytfnhhkpnfficaaadoor", sum := "9e566b173bef85455814df968182c11fdf64ec6e032ba38cef0bae8d5dead275", func := "selvedge/selvedgelaw9.CodeTells", spec := "codeTells", inPlace := ["internal/bytealg.CountString", "internal/bytealg.IndexByteString", "internal/bytealg.IndexString", "internal/abi.NoEscape", "internal/bytealg.MakeNoZero"], named := ["internal/bytealg.MaxLen", "unicode/utf8.first", "unicode/utf8.acceptRanges"], apart := false, laid := [("unicode/utf8.acceptRanges", laid_unicode_utf8_acceptRanges), ("unicode/utf8.first", laid_unicode_utf8_first)] }
def CodeTellsSaid : Prop := codeTellsRow.holds Tryd.pinned (OpenSpec.ofChange codeTellsSpec)

/-- ITS FALSE NEIGHBOUR: 'it returns false'. Refute it at one input. -/
def codeTellsWrong : ChangeSpec := { name := "codeTells", fn := fun _ => fun
  | [d1, d2, d3, d4, d5] => { results := [.lit (.bool false)], args := [d1, d2, d3, d4, d5] }
  | _ => none }
def CodeTellsWrongFalsely : Prop := codeTellsRow.holds Tryd.pinned (OpenSpec.ofChange codeTellsWrong)

/-- 'selvedgelaw9.CodeWhole': WHATEVER THE INPUT: true; the input reads as it did. -/
def codeWholeSpec : ChangeSpec := { name := "codeWhole", fn := fun _ => fun
  | [d1, d2] => { results := [.lit (.bool true)], args := [d1, d2] }
  | _ => none }
def codeWholeRow : OpenClaim := { program := "ytfnhhkpnfficaaadoor", sum := "9e566b173bef85455814df968182c11fdf64ec6e032ba38cef0bae8d5dead275", func := "selvedge/selvedgelaw9.CodeWhole", spec := "codeWhole", inPlace := ["internal/bytealg.CountString", "internal/bytealg.IndexByteString", "internal/bytealg.IndexString", "internal/abi.NoEscape", "internal/bytealg.MakeNoZero"], named := ["internal/bytealg.MaxLen", "unicode/utf8.first", "unicode/utf8.acceptRanges"], apart := false, laid := [("unicode/utf8.acceptRanges", laid_unicode_utf8_acceptRanges), ("unicode/utf8.first", laid_unicode_utf8_first)] }
def CodeWholeSaid : Prop := codeWholeRow.holds Tryd.pinned (OpenSpec.ofChange codeWholeSpec)

/-- ITS FALSE NEIGHBOUR: 'it returns false'. Refute it at one input. -/
def codeWholeWrong : ChangeSpec := { name := "codeWhole", fn := fun _ => fun
  | [d1, d2] => { results := [.lit (.bool false)], args := [d1, d2] }
  | _ => none }
def CodeWholeWrongFalsely : Prop := codeWholeRow.holds Tryd.pinned (OpenSpec.ofChange codeWholeWrong)

/-- 'selvedgelaw9.CodeClean': WHATEVER THE INPUT: true; the input reads as it did. -/
def codeCleanSpec : ChangeSpec := { name := "codeClean", fn := fun _ => fun
  | [d] => { results := [.lit (.bool true)], args := [d] }
  | _ => none }
def codeCleanRow : OpenClaim := { program := "ytfnhhkpnfficaaadoor", sum := "9e566b173bef85455814df968182c11fdf64ec6e032ba38cef0bae8d5dead275", func := "selvedge/selvedgelaw9.CodeClean", spec := "codeClean", inPlace := ["internal/bytealg.CountString", "internal/bytealg.IndexByteString", "internal/bytealg.IndexString", "internal/abi.NoEscape", "internal/bytealg.MakeNoZero"], named := ["internal/bytealg.MaxLen", "unicode/utf8.first", "unicode/utf8.acceptRanges"], apart := false, laid := [("unicode/utf8.acceptRanges", laid_unicode_utf8_acceptRanges), ("unicode/utf8.first", laid_unicode_utf8_first)] }
def CodeCleanSaid : Prop := codeCleanRow.holds Tryd.pinned (OpenSpec.ofChange codeCleanSpec)

/-- ITS FALSE NEIGHBOUR: 'it returns false'. Refute it at one input. -/
def codeCleanWrong : ChangeSpec := { name := "codeClean", fn := fun _ => fun
  | [d] => { results := [.lit (.bool false)], args := [d] }
  | _ => none }
def CodeCleanWrongFalsely : Prop := codeCleanRow.holds Tryd.pinned (OpenSpec.ofChange codeCleanWrong)

/-- 'selvedgelaw11.LinkNumbers': WHATEVER THE INPUT: true; the input reads as it did. -/
def linkNumbersSpec : ChangeSpec := { name := "linkNumbers", fn := fun _ => fun
  | [] => { results := [.lit (.bool true)], args := [] }
  | _ => none }
def linkNumbersRow : OpenClaim := { program := "ytfnhhkpnfficaaadoor", sum := "9e566b173bef85455814df968182c11fdf64ec6e032ba38cef0bae8d5dead275", func := "selvedge/selvedgelaw11.LinkNumbers", spec := "linkNumbers", inPlace := ["internal/bytealg.CountString", "internal/bytealg.IndexByteString", "internal/bytealg.IndexString", "internal/abi.NoEscape", "internal/bytealg.MakeNoZero"], named := ["internal/bytealg.MaxLen", "unicode/utf8.first", "unicode/utf8.acceptRanges"], apart := false, laid := [("unicode/utf8.acceptRanges", laid_unicode_utf8_acceptRanges), ("unicode/utf8.first", laid_unicode_utf8_first)] }
def LinkNumbersSaid : Prop := linkNumbersRow.holds Tryd.pinned (OpenSpec.ofChange linkNumbersSpec)

/-- ITS FALSE NEIGHBOUR: 'it returns false'. Refute it at one input. -/
def linkNumbersWrong : ChangeSpec := { name := "linkNumbers", fn := fun _ => fun
  | [] => { results := [.lit (.bool false)], args := [] }
  | _ => none }
def LinkNumbersWrongFalsely : Prop := linkNumbersRow.holds Tryd.pinned (OpenSpec.ofChange linkNumbersWrong)

/-- 'selvedgelaw11.LinkTells': WHATEVER THE INPUT: true; the input reads as it did. -/
def linkTellsSpec : ChangeSpec := { name := "linkTells", fn := fun _ => fun
  | [d1, d2, d3, d4] => { results := [.lit (.bool true)], args := [d1, d2, d3, d4] }
  | _ => none }
def linkTellsRow : OpenClaim := { program := "ytfnhhkpnfficaaadoor", sum := "9e566b173bef85455814df968182c11fdf64ec6e032ba38cef0bae8d5dead275", func := "selvedge/selvedgelaw11.LinkTells", spec := "linkTells", inPlace := ["internal/bytealg.CountString", "internal/bytealg.IndexByteString", "internal/bytealg.IndexString", "internal/abi.NoEscape", "internal/bytealg.MakeNoZero"], named := ["internal/bytealg.MaxLen", "unicode/utf8.first", "unicode/utf8.acceptRanges"], apart := false, laid := [("unicode/utf8.acceptRanges", laid_unicode_utf8_acceptRanges), ("unicode/utf8.first", laid_unicode_utf8_first)] }
def LinkTellsSaid : Prop := linkTellsRow.holds Tryd.pinned (OpenSpec.ofChange linkTellsSpec)

/-- ITS FALSE NEIGHBOUR: 'it returns false'. Refute it at one input. -/
def linkTellsWrong : ChangeSpec := { name := "linkTells", fn := fun _ => fun
  | [d1, d2, d3, d4] => { results := [.lit (.bool false)], args := [d1, d2, d3, d4] }
  | _ => none }
def LinkTellsWrongFalsely : Prop := linkTellsRow.holds Tryd.pinned (OpenSpec.ofChange linkTellsWrong)

/-- 'selvedgelaw11.LinkClose': WHATEVER THE INPUT: true; the input reads as it did. -/
def linkCloseSpec : ChangeSpec := { name := "linkClose", fn := fun _ => fun
  | [d1, d2] => { results := [.lit (.bool true)], args := [d1, d2] }
  | _ => none }
def linkCloseRow : OpenClaim := { program := "ytfnhhkpnfficaaadoor", sum := "9e566b173bef85455814df968182c11fdf64ec6e032ba38cef0bae8d5dead275", func := "selvedge/selvedgelaw11.LinkClose", spec := "linkClose", inPlace := ["internal/bytealg.CountString", "internal/bytealg.IndexByteString", "internal/bytealg.IndexString", "internal/abi.NoEscape", "internal/bytealg.MakeNoZero"], named := ["internal/bytealg.MaxLen", "unicode/utf8.first", "unicode/utf8.acceptRanges"], apart := false, laid := [("unicode/utf8.acceptRanges", laid_unicode_utf8_acceptRanges), ("unicode/utf8.first", laid_unicode_utf8_first)] }
def LinkCloseSaid : Prop := linkCloseRow.holds Tryd.pinned (OpenSpec.ofChange linkCloseSpec)

/-- ITS FALSE NEIGHBOUR: 'it returns false'. Refute it at one input. -/
def linkCloseWrong : ChangeSpec := { name := "linkClose", fn := fun _ => fun
  | [d1, d2] => { results := [.lit (.bool false)], args := [d1, d2] }
  | _ => none }
def LinkCloseWrongFalsely : Prop := linkCloseRow.holds Tryd.pinned (OpenSpec.ofChange linkCloseWrong)

/-- 'selvedgelaw11.LinkDest': WHATEVER THE INPUT: true; the input reads as it did. -/
def linkDestSpec : ChangeSpec := { name := "linkDest", fn := fun _ => fun
  | [d] => { results := [.lit (.bool true)], args := [d] }
  | _ => none }
def linkDestRow : OpenClaim := { program := "ytfnhhkpnfficaaadoor", sum := "9e566b173bef85455814df968182c11fdf64ec6e032ba38cef0bae8d5dead275", func := "selvedge/selvedgelaw11.LinkDest", spec := "linkDest", inPlace := ["internal/abi.NoEscape", "internal/bytealg.CountString", "internal/bytealg.IndexByteString", "internal/bytealg.IndexString", "internal/bytealg.MakeNoZero"], named := ["internal/bytealg.MaxLen", "unicode/utf8.first", "unicode/utf8.acceptRanges"], apart := false, laid := [("unicode/utf8.acceptRanges", laid_unicode_utf8_acceptRanges), ("unicode/utf8.first", laid_unicode_utf8_first)] }
def LinkDestSaid : Prop := linkDestRow.holds Tryd.pinned (OpenSpec.ofChange linkDestSpec)

/-- ITS FALSE NEIGHBOUR: 'it returns false'. Refute it at one input. -/
def linkDestWrong : ChangeSpec := { name := "linkDest", fn := fun _ => fun
  | [d] => { results := [.lit (.bool false)], args := [d] }
  | _ => none }
def LinkDestWrongFalsely : Prop := linkDestRow.holds Tryd.pinned (OpenSpec.ofChange linkDestWrong)

/-- 'selvedgelaw12.InlineRight': WHATEVER THE INPUT: true; the input reads as it did. -/
def inlineRightSpec : ChangeSpec := { name := "inlineRight", fn := fun _ => fun
  | [d1, d2, d3] => { results := [.lit (.bool true)], args := [d1, d2, d3] }
  | _ => none }
def inlineRightRow : OpenClaim := { program := "ytfnhhkpnfficaaadoor", sum := "9e566b173bef85455814df968182c11fdf64ec6e032ba38cef0bae8d5dead275", func := "selvedge/selvedgelaw12.InlineRight", spec := "inlineRight", inPlace := ["internal/bytealg.CountString", "internal/bytealg.IndexByteString", "internal/bytealg.IndexString", "internal/abi.NoEscape", "internal/bytealg.MakeNoZero"], unfollowed := true, recurses := true, named := ["internal/bytealg.MaxLen", "unicode/utf8.first", "unicode/utf8.acceptRanges"], apart := false, laid := [("unicode/utf8.acceptRanges", laid_unicode_utf8_acceptRanges), ("unicode/utf8.first", laid_unicode_utf8_first)] }
def InlineRightSaid : Prop := inlineRightRow.holds Tryd.pinned (OpenSpec.ofChange inlineRightSpec)

/-- ITS FALSE NEIGHBOUR: 'it returns false'. Refute it at one input. -/
def inlineRightWrong : ChangeSpec := { name := "inlineRight", fn := fun _ => fun
  | [d1, d2, d3] => { results := [.lit (.bool false)], args := [d1, d2, d3] }
  | _ => none }
def InlineRightWrongFalsely : Prop := inlineRightRow.holds Tryd.pinned (OpenSpec.ofChange inlineRightWrong)

/-- 'selvedgelaw12.InlineNested': WHATEVER THE INPUT: true; the input reads as it did. -/
def inlineNestedSpec : ChangeSpec := { name := "inlineNested", fn := fun _ => fun
  | [d1, d2] => { results := [.lit (.bool true)], args := [d1, d2] }
  | _ => none }
def inlineNestedRow : OpenClaim := { program := "ytfnhhkpnfficaaadoor", sum := "9e566b173bef85455814df968182c11fdf64ec6e032ba38cef0bae8d5dead275", func := "selvedge/selvedgelaw12.InlineNested", spec := "inlineNested", inPlace := ["internal/bytealg.CountString", "internal/bytealg.IndexByteString", "internal/bytealg.IndexString", "internal/abi.NoEscape", "internal/bytealg.MakeNoZero"], unfollowed := true, recurses := true, named := ["internal/bytealg.MaxLen", "unicode/utf8.first", "unicode/utf8.acceptRanges"], apart := false, laid := [("unicode/utf8.acceptRanges", laid_unicode_utf8_acceptRanges), ("unicode/utf8.first", laid_unicode_utf8_first)] }
def InlineNestedSaid : Prop := inlineNestedRow.holds Tryd.pinned (OpenSpec.ofChange inlineNestedSpec)

/-- ITS FALSE NEIGHBOUR: 'it returns false'. Refute it at one input. -/
def inlineNestedWrong : ChangeSpec := { name := "inlineNested", fn := fun _ => fun
  | [d1, d2] => { results := [.lit (.bool false)], args := [d1, d2] }
  | _ => none }
def InlineNestedWrongFalsely : Prop := inlineNestedRow.holds Tryd.pinned (OpenSpec.ofChange inlineNestedWrong)

/- THE SECOND FORM. 'bulk': how many values and letters a reading holds, each counted each time it is reached (what is shared counts as often as it is met; a slice's spare places count too). A statement '..UptoSaid' is the law's where the arguments, and the package variables that the reading takes, are together of bulk at most 1048576: NARROWER than '..Said'. Prove '..Said' where nothing that the law and all that it calls make is longer than what came in: it says more and counts as full. Else prove '..UptoSaid'. A law counts once. -/
mutual
def uptoBulk {H : Type} : DataW H → Nat
  | .lit (.string bytes) => bytes.length + 1
  | .lit _ => 1
  | .nil => 1
  | .ptr d => uptoBulk d + 1
  | .slice elems spare => uptoBulkAll elems + uptoBulkAll spare + 1
  | .agg parts => uptoBulkAll parts + 1
  | .iface _ d => uptoBulk d + 1
  | .map entries => uptoBulkEntries entries + 1
  | .held _ => 1
def uptoBulkAll {H : Type} : List (DataW H) → Nat
  | [] => 0
  | d :: r => uptoBulk d + uptoBulkAll r
def uptoBulkEntries {H : Type} : List (Lit × DataW H) → Nat
  | [] => 0
  | x :: r => uptoBulkEntry x + uptoBulkEntries r
def uptoBulkEntry {H : Type} : Lit × DataW H → Nat
  | (.string bytes, d) => bytes.length + uptoBulk d + 1
  | (_, d) => uptoBulk d + 1
 end
def uptoSmall : (H : Type) → List (DataW H) → Bool := fun _ ds => decide (uptoBulkAll ds ≤ 1048576)
def OpenSpec.upto (s : _root_.Go.ChangeSpec) : _root_.Go.OpenSpec := { _root_.Go.OpenSpec.ofChange s with cond := some uptoSmall }

/-- 'selvedgelaw9.CodeNumbers', WHERE WHAT IT READS IS OF BULK AT MOST 1048576: true; the input reads as it did. -/
def codeNumbersUptoRow : OpenClaim := { program := "ytfnhhkpnfficaaadoor", sum := "9e566b173bef85455814df968182c11fdf64ec6e032ba38cef0bae8d5dead275", func := "selvedge/selvedgelaw9.CodeNumbers", spec := "codeNumbers", inPlace := ["internal/bytealg.CountString", "internal/bytealg.IndexByteString", "internal/bytealg.IndexString", "internal/abi.NoEscape", "internal/bytealg.MakeNoZero"], named := ["internal/bytealg.MaxLen", "unicode/utf8.first", "unicode/utf8.acceptRanges"], apart := false, laid := [("unicode/utf8.acceptRanges", laid_unicode_utf8_acceptRanges), ("unicode/utf8.first", laid_unicode_utf8_first)], narrowed := true }
def CodeNumbersUptoSaid : Prop := codeNumbersUptoRow.holds Tryd.pinned (OpenSpec.upto codeNumbersSpec)

/-- 'selvedgelaw9.CodeTells', WHERE WHAT IT READS IS OF BULK AT MOST 1048576: true; the input reads as it did. -/
def codeTellsUptoRow : OpenClaim := { program := "ytfnhhkpnfficaaadoor", sum := "9e566b173bef85455814df968182c11fdf64ec6e032ba38cef0bae8d5dead275", func := "selvedge/selvedgelaw9.CodeTells", spec := "codeTells", inPlace := ["internal/bytealg.CountString", "internal/bytealg.IndexByteString", "internal/bytealg.IndexString", "internal/abi.NoEscape", "internal/bytealg.MakeNoZero"], named := ["internal/bytealg.MaxLen", "unicode/utf8.first", "unicode/utf8.acceptRanges"], apart := false, laid := [("unicode/utf8.acceptRanges", laid_unicode_utf8_acceptRanges), ("unicode/utf8.first", laid_unicode_utf8_first)], narrowed := true }
def CodeTellsUptoSaid : Prop := codeTellsUptoRow.holds Tryd.pinned (OpenSpec.upto codeTellsSpec)

/-- 'selvedgelaw9.CodeWhole', WHERE WHAT IT READS IS OF BULK AT MOST 1048576: true; the input reads as it did. -/
def codeWholeUptoRow : OpenClaim := { program := "ytfnhhkpnfficaaadoor", sum := "9e566b173bef85455814df968182c11fdf64ec6e032ba38cef0bae8d5dead275", func := "selvedge/selvedgelaw9.CodeWhole", spec := "codeWhole", inPlace := ["internal/bytealg.CountString", "internal/bytealg.IndexByteString", "internal/bytealg.IndexString", "internal/abi.NoEscape", "internal/bytealg.MakeNoZero"], named := ["internal/bytealg.MaxLen", "unicode/utf8.first", "unicode/utf8.acceptRanges"], apart := false, laid := [("unicode/utf8.acceptRanges", laid_unicode_utf8_acceptRanges), ("unicode/utf8.first", laid_unicode_utf8_first)], narrowed := true }
def CodeWholeUptoSaid : Prop := codeWholeUptoRow.holds Tryd.pinned (OpenSpec.upto codeWholeSpec)

/-- 'selvedgelaw9.CodeClean', WHERE WHAT IT READS IS OF BULK AT MOST 1048576: true; the input reads as it did. -/
def codeCleanUptoRow : OpenClaim := { program := "ytfnhhkpnfficaaadoor", sum := "9e566b173bef85455814df968182c11fdf64ec6e032ba38cef0bae8d5dead275", func := "selvedge/selvedgelaw9.CodeClean", spec := "codeClean", inPlace := ["internal/bytealg.CountString", "internal/bytealg.IndexByteString", "internal/bytealg.IndexString", "internal/abi.NoEscape", "internal/bytealg.MakeNoZero"], named := ["internal/bytealg.MaxLen", "unicode/utf8.first", "unicode/utf8.acceptRanges"], apart := false, laid := [("unicode/utf8.acceptRanges", laid_unicode_utf8_acceptRanges), ("unicode/utf8.first", laid_unicode_utf8_first)], narrowed := true }
def CodeCleanUptoSaid : Prop := codeCleanUptoRow.holds Tryd.pinned (OpenSpec.upto codeCleanSpec)

/-- 'selvedgelaw11.LinkNumbers', WHERE WHAT IT READS IS OF BULK AT MOST 1048576: true; the input reads as it did. -/
def linkNumbersUptoRow : OpenClaim := { program := "ytfnhhkpnfficaaadoor", sum := "9e566b173bef85455814df968182c11fdf64ec6e032ba38cef0bae8d5dead275", func := "selvedge/selvedgelaw11.LinkNumbers", spec := "linkNumbers", inPlace := ["internal/bytealg.CountString", "internal/bytealg.IndexByteString", "internal/bytealg.IndexString", "internal/abi.NoEscape", "internal/bytealg.MakeNoZero"], named := ["internal/bytealg.MaxLen", "unicode/utf8.first", "unicode/utf8.acceptRanges"], apart := false, laid := [("unicode/utf8.acceptRanges", laid_unicode_utf8_acceptRanges), ("unicode/utf8.first", laid_unicode_utf8_first)], narrowed := true }
def LinkNumbersUptoSaid : Prop := linkNumbersUptoRow.holds Tryd.pinned (OpenSpec.upto linkNumbersSpec)

/-- 'selvedgelaw11.LinkTells', WHERE WHAT IT READS IS OF BULK AT MOST 1048576: true; the input reads as it did. -/
def linkTellsUptoRow : OpenClaim := { program := "ytfnhhkpnfficaaadoor", sum := "9e566b173bef85455814df968182c11fdf64ec6e032ba38cef0bae8d5dead275", func := "selvedge/selvedgelaw11.LinkTells", spec := "linkTells", inPlace := ["internal/bytealg.CountString", "internal/bytealg.IndexByteString", "internal/bytealg.IndexString", "internal/abi.NoEscape", "internal/bytealg.MakeNoZero"], named := ["internal/bytealg.MaxLen", "unicode/utf8.first", "unicode/utf8.acceptRanges"], apart := false, laid := [("unicode/utf8.acceptRanges", laid_unicode_utf8_acceptRanges), ("unicode/utf8.first", laid_unicode_utf8_first)], narrowed := true }
def LinkTellsUptoSaid : Prop := linkTellsUptoRow.holds Tryd.pinned (OpenSpec.upto linkTellsSpec)

/-- 'selvedgelaw11.LinkClose', WHERE WHAT IT READS IS OF BULK AT MOST 1048576: true; the input reads as it did. -/
def linkCloseUptoRow : OpenClaim := { program := "ytfnhhkpnfficaaadoor", sum := "9e566b173bef85455814df968182c11fdf64ec6e032ba38cef0bae8d5dead275", func := "selvedge/selvedgelaw11.LinkClose", spec := "linkClose", inPlace := ["internal/bytealg.CountString", "internal/bytealg.IndexByteString", "internal/bytealg.IndexString", "internal/abi.NoEscape", "internal/bytealg.MakeNoZero"], named := ["internal/bytealg.MaxLen", "unicode/utf8.first", "unicode/utf8.acceptRanges"], apart := false, laid := [("unicode/utf8.acceptRanges", laid_unicode_utf8_acceptRanges), ("unicode/utf8.first", laid_unicode_utf8_first)], narrowed := true }
def LinkCloseUptoSaid : Prop := linkCloseUptoRow.holds Tryd.pinned (OpenSpec.upto linkCloseSpec)

/-- 'selvedgelaw11.LinkDest', WHERE WHAT IT READS IS OF BULK AT MOST 1048576: true; the input reads as it did. -/
def linkDestUptoRow : OpenClaim := { program := "ytfnhhkpnfficaaadoor", sum := "9e566b173bef85455814df968182c11fdf64ec6e032ba38cef0bae8d5dead275", func := "selvedge/selvedgelaw11.LinkDest", spec := "linkDest", inPlace := ["internal/abi.NoEscape", "internal/bytealg.CountString", "internal/bytealg.IndexByteString", "internal/bytealg.IndexString", "internal/bytealg.MakeNoZero"], named := ["internal/bytealg.MaxLen", "unicode/utf8.first", "unicode/utf8.acceptRanges"], apart := false, laid := [("unicode/utf8.acceptRanges", laid_unicode_utf8_acceptRanges), ("unicode/utf8.first", laid_unicode_utf8_first)], narrowed := true }
def LinkDestUptoSaid : Prop := linkDestUptoRow.holds Tryd.pinned (OpenSpec.upto linkDestSpec)

/-- 'selvedgelaw12.InlineRight', WHERE WHAT IT READS IS OF BULK AT MOST 1048576: true; the input reads as it did. -/
def inlineRightUptoRow : OpenClaim := { program := "ytfnhhkpnfficaaadoor", sum := "9e566b173bef85455814df968182c11fdf64ec6e032ba38cef0bae8d5dead275", func := "selvedge/selvedgelaw12.InlineRight", spec := "inlineRight", inPlace := ["internal/bytealg.CountString", "internal/bytealg.IndexByteString", "internal/bytealg.IndexString", "internal/abi.NoEscape", "internal/bytealg.MakeNoZero"], unfollowed := true, recurses := true, named := ["internal/bytealg.MaxLen", "unicode/utf8.first", "unicode/utf8.acceptRanges"], apart := false, laid := [("unicode/utf8.acceptRanges", laid_unicode_utf8_acceptRanges), ("unicode/utf8.first", laid_unicode_utf8_first)], narrowed := true }
def InlineRightUptoSaid : Prop := inlineRightUptoRow.holds Tryd.pinned (OpenSpec.upto inlineRightSpec)

/-- 'selvedgelaw12.InlineNested', WHERE WHAT IT READS IS OF BULK AT MOST 1048576: true; the input reads as it did. -/
def inlineNestedUptoRow : OpenClaim := { program := "ytfnhhkpnfficaaadoor", sum := "9e566b173bef85455814df968182c11fdf64ec6e032ba38cef0bae8d5dead275", func := "selvedge/selvedgelaw12.InlineNested", spec := "inlineNested", inPlace := ["internal/bytealg.CountString", "internal/bytealg.IndexByteString", "internal/bytealg.IndexString", "internal/abi.NoEscape", "internal/bytealg.MakeNoZero"], unfollowed := true, recurses := true, named := ["internal/bytealg.MaxLen", "unicode/utf8.first", "unicode/utf8.acceptRanges"], apart := false, laid := [("unicode/utf8.acceptRanges", laid_unicode_utf8_acceptRanges), ("unicode/utf8.first", laid_unicode_utf8_first)], narrowed := true }
def InlineNestedUptoSaid : Prop := inlineNestedUptoRow.holds Tryd.pinned (OpenSpec.upto inlineNestedSpec)

end Rows
end Go.Proofs.YtfnhhkpnfficaaaDoor
