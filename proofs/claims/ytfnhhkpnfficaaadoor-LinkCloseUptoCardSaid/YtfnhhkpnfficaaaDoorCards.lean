/-
  DERIVED. GIVEN WITH THE SEED: THE CARDS: each row of YtfnhhkpnfficaaaDoorRows.lean that lists a variable, with what it lists TIED to the program's text (the seventh form; the later family's looks); each row that meets fmt, with fmt's text TOLD by the authors' own Lean function (tested against real Go, not proved from fmt's source: count such statements apart). THE CARD IS WHAT COUNTS. Prove the row's statement (the work); the ties are given (YtfnhhkpnfficaaaDoorTie.lean); close each card by the builder's one call (the guide's Derived/Test/ToyasCard.lean, 'card_holds'). Laid BY PROGRAM, IN A SANDBOX (cutbox-door.mjs). By AI agents, Wed Nov 11 2026. No macro, syntax, notation, axiom, sorry.
-/
import Derived.Test.YtfnhhkpnfficaaaDoorRows
import GoSem.ClaimSeven
namespace Go.Proofs.YtfnhhkpnfficaaaDoor
namespace Rows

/-- THE TIED CARD OF 'selvedgelaw9.CodeNumbers'. -/
def codeNumbersCard : Claim7 := { stood := { row := codeNumbersRow, standIns := [], harness := (true, "99e34602a43008eb6c337f4912e636a6f8a19e1e7b666e8fea48465a2ffc71d7"), looks := false }, kinds := [], alts := [], laidByText := true, laidKinds := [.data, .pinned], laidTests := true, laidLooks := .later }
def CodeNumbersCardSaid : Prop := Claim7.holds Tryd.pinned (.plain (OpenSpec.ofChange codeNumbersSpec)) codeNumbersCard

/-- THE TIED CARD OF 'selvedgelaw9.CodeTells'. -/
def codeTellsCard : Claim7 := { stood := { row := codeTellsRow, standIns := [], harness := (true, "99e34602a43008eb6c337f4912e636a6f8a19e1e7b666e8fea48465a2ffc71d7"), looks := false }, kinds := [], alts := [], laidByText := true, laidKinds := [.data, .pinned], laidTests := true, laidLooks := .later }
def CodeTellsCardSaid : Prop := Claim7.holds Tryd.pinned (.plain (OpenSpec.ofChange codeTellsSpec)) codeTellsCard

/-- THE TIED CARD OF 'selvedgelaw9.CodeWhole'. -/
def codeWholeCard : Claim7 := { stood := { row := codeWholeRow, standIns := [], harness := (true, "99e34602a43008eb6c337f4912e636a6f8a19e1e7b666e8fea48465a2ffc71d7"), looks := false }, kinds := [], alts := [], laidByText := true, laidKinds := [.data, .pinned], laidTests := true, laidLooks := .later }
def CodeWholeCardSaid : Prop := Claim7.holds Tryd.pinned (.plain (OpenSpec.ofChange codeWholeSpec)) codeWholeCard

/-- THE TIED CARD OF 'selvedgelaw9.CodeClean'. -/
def codeCleanCard : Claim7 := { stood := { row := codeCleanRow, standIns := [], harness := (true, "99e34602a43008eb6c337f4912e636a6f8a19e1e7b666e8fea48465a2ffc71d7"), looks := false }, kinds := [], alts := [], laidByText := true, laidKinds := [.data, .pinned], laidTests := true, laidLooks := .later }
def CodeCleanCardSaid : Prop := Claim7.holds Tryd.pinned (.plain (OpenSpec.ofChange codeCleanSpec)) codeCleanCard

/-- THE TIED CARD OF 'selvedgelaw11.LinkNumbers'. -/
def linkNumbersCard : Claim7 := { stood := { row := linkNumbersRow, standIns := [], harness := (true, "99e34602a43008eb6c337f4912e636a6f8a19e1e7b666e8fea48465a2ffc71d7"), looks := false }, kinds := [], alts := [], laidByText := true, laidKinds := [.data, .pinned], laidTests := true, laidLooks := .later }
def LinkNumbersCardSaid : Prop := Claim7.holds Tryd.pinned (.plain (OpenSpec.ofChange linkNumbersSpec)) linkNumbersCard

/-- THE TIED CARD OF 'selvedgelaw11.LinkTells'. -/
def linkTellsCard : Claim7 := { stood := { row := linkTellsRow, standIns := [], harness := (true, "99e34602a43008eb6c337f4912e636a6f8a19e1e7b666e8fea48465a2ffc71d7"), looks := false }, kinds := [], alts := [], laidByText := true, laidKinds := [.data, .pinned], laidTests := true, laidLooks := .later }
def LinkTellsCardSaid : Prop := Claim7.holds Tryd.pinned (.plain (OpenSpec.ofChange linkTellsSpec)) linkTellsCard

/-- THE TIED CARD OF 'selvedgelaw11.LinkClose'. -/
def linkCloseCard : Claim7 := { stood := { row := linkCloseRow, standIns := [], harness := (true, "99e34602a43008eb6c337f4912e636a6f8a19e1e7b666e8fea48465a2ffc71d7"), looks := false }, kinds := [], alts := [], laidByText := true, laidKinds := [.data, .pinned], laidTests := true, laidLooks := .later }
def LinkCloseCardSaid : Prop := Claim7.holds Tryd.pinned (.plain (OpenSpec.ofChange linkCloseSpec)) linkCloseCard

/-- THE TIED CARD OF 'selvedgelaw11.LinkDest'. -/
def linkDestCard : Claim7 := { stood := { row := linkDestRow, standIns := [], harness := (true, "99e34602a43008eb6c337f4912e636a6f8a19e1e7b666e8fea48465a2ffc71d7"), looks := false }, kinds := [], alts := [], laidByText := true, laidKinds := [.data, .pinned], laidTests := true, laidLooks := .later }
def LinkDestCardSaid : Prop := Claim7.holds Tryd.pinned (.plain (OpenSpec.ofChange linkDestSpec)) linkDestCard

/-- THE TIED CARD OF 'selvedgelaw12.InlineRight'. -/
def inlineRightCard : Claim7 := { stood := { row := inlineRightRow, standIns := [], harness := (true, "99e34602a43008eb6c337f4912e636a6f8a19e1e7b666e8fea48465a2ffc71d7"), looks := false }, kinds := [], alts := [], laidByText := true, laidKinds := [.data, .pinned], laidTests := true, laidLooks := .later }
def InlineRightCardSaid : Prop := Claim7.holds Tryd.pinned (.plain (OpenSpec.ofChange inlineRightSpec)) inlineRightCard

/-- THE TIED CARD OF 'selvedgelaw12.InlineNested'. -/
def inlineNestedCard : Claim7 := { stood := { row := inlineNestedRow, standIns := [], harness := (true, "99e34602a43008eb6c337f4912e636a6f8a19e1e7b666e8fea48465a2ffc71d7"), looks := false }, kinds := [], alts := [], laidByText := true, laidKinds := [.data, .pinned], laidTests := true, laidLooks := .later }
def InlineNestedCardSaid : Prop := Claim7.holds Tryd.pinned (.plain (OpenSpec.ofChange inlineNestedSpec)) inlineNestedCard

/-- THE SECOND FORM's CARD OF 'selvedgelaw9.CodeNumbers'. -/
def codeNumbersUptoCard : Claim7 := { stood := { row := codeNumbersUptoRow, standIns := [], harness := (true, "99e34602a43008eb6c337f4912e636a6f8a19e1e7b666e8fea48465a2ffc71d7"), looks := false }, kinds := [], alts := [], laidByText := true, laidKinds := [.data, .pinned], laidTests := true, laidLooks := .later }
def CodeNumbersUptoCardSaid : Prop := Claim7.holds Tryd.pinned (.plain (OpenSpec.upto codeNumbersSpec)) codeNumbersUptoCard

/-- THE SECOND FORM's CARD OF 'selvedgelaw9.CodeTells'. -/
def codeTellsUptoCard : Claim7 := { stood := { row := codeTellsUptoRow, standIns := [], harness := (true, "99e34602a43008eb6c337f4912e636a6f8a19e1e7b666e8fea48465a2ffc71d7"), looks := false }, kinds := [], alts := [], laidByText := true, laidKinds := [.data, .pinned], laidTests := true, laidLooks := .later }
def CodeTellsUptoCardSaid : Prop := Claim7.holds Tryd.pinned (.plain (OpenSpec.upto codeTellsSpec)) codeTellsUptoCard

/-- THE SECOND FORM's CARD OF 'selvedgelaw9.CodeWhole'. -/
def codeWholeUptoCard : Claim7 := { stood := { row := codeWholeUptoRow, standIns := [], harness := (true, "99e34602a43008eb6c337f4912e636a6f8a19e1e7b666e8fea48465a2ffc71d7"), looks := false }, kinds := [], alts := [], laidByText := true, laidKinds := [.data, .pinned], laidTests := true, laidLooks := .later }
def CodeWholeUptoCardSaid : Prop := Claim7.holds Tryd.pinned (.plain (OpenSpec.upto codeWholeSpec)) codeWholeUptoCard

/-- THE SECOND FORM's CARD OF 'selvedgelaw9.CodeClean'. -/
def codeCleanUptoCard : Claim7 := { stood := { row := codeCleanUptoRow, standIns := [], harness := (true, "99e34602a43008eb6c337f4912e636a6f8a19e1e7b666e8fea48465a2ffc71d7"), looks := false }, kinds := [], alts := [], laidByText := true, laidKinds := [.data, .pinned], laidTests := true, laidLooks := .later }
def CodeCleanUptoCardSaid : Prop := Claim7.holds Tryd.pinned (.plain (OpenSpec.upto codeCleanSpec)) codeCleanUptoCard

/-- THE SECOND FORM's CARD OF 'selvedgelaw11.LinkNumbers'. -/
def linkNumbersUptoCard : Claim7 := { stood := { row := linkNumbersUptoRow, standIns := [], harness := (true, "99e34602a43008eb6c337f4912e636a6f8a19e1e7b666e8fea48465a2ffc71d7"), looks := false }, kinds := [], alts := [], laidByText := true, laidKinds := [.data, .pinned], laidTests := true, laidLooks := .later }
def LinkNumbersUptoCardSaid : Prop := Claim7.holds Tryd.pinned (.plain (OpenSpec.upto linkNumbersSpec)) linkNumbersUptoCard

/-- THE SECOND FORM's CARD OF 'selvedgelaw11.LinkTells'. -/
def linkTellsUptoCard : Claim7 := { stood := { row := linkTellsUptoRow, standIns := [], harness := (true, "99e34602a43008eb6c337f4912e636a6f8a19e1e7b666e8fea48465a2ffc71d7"), looks := false }, kinds := [], alts := [], laidByText := true, laidKinds := [.data, .pinned], laidTests := true, laidLooks := .later }
def LinkTellsUptoCardSaid : Prop := Claim7.holds Tryd.pinned (.plain (OpenSpec.upto linkTellsSpec)) linkTellsUptoCard

/-- THE SECOND FORM's CARD OF 'selvedgelaw11.LinkClose'. -/
def linkCloseUptoCard : Claim7 := { stood := { row := linkCloseUptoRow, standIns := [], harness := (true, "99e34602a43008eb6c337f4912e636a6f8a19e1e7b666e8fea48465a2ffc71d7"), looks := false }, kinds := [], alts := [], laidByText := true, laidKinds := [.data, .pinned], laidTests := true, laidLooks := .later }
def LinkCloseUptoCardSaid : Prop := Claim7.holds Tryd.pinned (.plain (OpenSpec.upto linkCloseSpec)) linkCloseUptoCard

/-- THE SECOND FORM's CARD OF 'selvedgelaw11.LinkDest'. -/
def linkDestUptoCard : Claim7 := { stood := { row := linkDestUptoRow, standIns := [], harness := (true, "99e34602a43008eb6c337f4912e636a6f8a19e1e7b666e8fea48465a2ffc71d7"), looks := false }, kinds := [], alts := [], laidByText := true, laidKinds := [.data, .pinned], laidTests := true, laidLooks := .later }
def LinkDestUptoCardSaid : Prop := Claim7.holds Tryd.pinned (.plain (OpenSpec.upto linkDestSpec)) linkDestUptoCard

/-- THE SECOND FORM's CARD OF 'selvedgelaw12.InlineRight'. -/
def inlineRightUptoCard : Claim7 := { stood := { row := inlineRightUptoRow, standIns := [], harness := (true, "99e34602a43008eb6c337f4912e636a6f8a19e1e7b666e8fea48465a2ffc71d7"), looks := false }, kinds := [], alts := [], laidByText := true, laidKinds := [.data, .pinned], laidTests := true, laidLooks := .later }
def InlineRightUptoCardSaid : Prop := Claim7.holds Tryd.pinned (.plain (OpenSpec.upto inlineRightSpec)) inlineRightUptoCard

/-- THE SECOND FORM's CARD OF 'selvedgelaw12.InlineNested'. -/
def inlineNestedUptoCard : Claim7 := { stood := { row := inlineNestedUptoRow, standIns := [], harness := (true, "99e34602a43008eb6c337f4912e636a6f8a19e1e7b666e8fea48465a2ffc71d7"), looks := false }, kinds := [], alts := [], laidByText := true, laidKinds := [.data, .pinned], laidTests := true, laidLooks := .later }
def InlineNestedUptoCardSaid : Prop := Claim7.holds Tryd.pinned (.plain (OpenSpec.upto inlineNestedSpec)) inlineNestedUptoCard
end Rows
end Go.Proofs.YtfnhhkpnfficaaaDoor
