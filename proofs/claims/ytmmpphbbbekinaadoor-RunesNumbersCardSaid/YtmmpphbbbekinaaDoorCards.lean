/-
  DERIVED. GIVEN WITH THE SEED: THE CARDS: each row of YtmmpphbbbekinaaDoorRows.lean that lists a variable, with what it lists TIED to the program's text (the seventh form; the later family's looks); each row that meets fmt, with fmt's text TOLD by the authors' own Lean function (tested against real Go, not proved from fmt's source: count such statements apart). THE CARD IS WHAT COUNTS. Prove the row's statement (the work); the ties are given (YtmmpphbbbekinaaDoorTie.lean); close each card by the builder's one call (the guide's Derived/Test/ToyasCard.lean, 'card_holds'). Laid BY PROGRAM, IN A SANDBOX (cutbox-door.mjs). By AI agents, Wed Nov 11 2026. No macro, syntax, notation, axiom, sorry.
-/
import Derived.Test.YtmmpphbbbekinaaDoorRows
import GoSem.ClaimSeven
namespace Go.Proofs.YtmmpphbbbekinaaDoor
namespace Rows

/-- THE TIED CARD OF 'selvedgelaw2.RunesNumbers'. -/
def runesNumbersCard : Claim7 := { stood := { row := runesNumbersRow, standIns := [], harness := (true, "ccdd1b0e858c29ab8c1de91a6845483f3bd5a4c312efaa0a84407033d90731a3"), looks := false }, kinds := [], alts := [], laidByText := true, laidKinds := [.data, .pinned], laidTests := true, laidLooks := .later }
def RunesNumbersCardSaid : Prop := Claim7.holds Tryd.pinned (.plain (OpenSpec.ofChange runesNumbersSpec)) runesNumbersCard

/-- THE TIED CARD OF 'selvedgelaw2.RunesTells'. -/
def runesTellsCard : Claim7 := { stood := { row := runesTellsRow, standIns := [], harness := (true, "ccdd1b0e858c29ab8c1de91a6845483f3bd5a4c312efaa0a84407033d90731a3"), looks := false }, kinds := [], alts := [], laidByText := true, laidKinds := [.data, .pinned], laidTests := true, laidLooks := .later }
def RunesTellsCardSaid : Prop := Claim7.holds Tryd.pinned (.plain (OpenSpec.ofChange runesTellsSpec)) runesTellsCard

/-- THE TIED CARD OF 'selvedgelaw2.RunesFold'. -/
def runesFoldCard : Claim7 := { stood := { row := runesFoldRow, standIns := [], harness := (true, "ccdd1b0e858c29ab8c1de91a6845483f3bd5a4c312efaa0a84407033d90731a3"), looks := false }, kinds := [], alts := [], laidByText := true, laidKinds := [.data, .pinned], laidTests := true, laidLooks := .later }
def RunesFoldCardSaid : Prop := Claim7.holds Tryd.pinned (.plain (OpenSpec.ofChange runesFoldSpec)) runesFoldCard

/-- THE TIED CARD OF 'selvedgelaw2.RunesKinds'. -/
def runesKindsCard : Claim7 := { stood := { row := runesKindsRow, standIns := [], harness := (true, "ccdd1b0e858c29ab8c1de91a6845483f3bd5a4c312efaa0a84407033d90731a3"), looks := false }, kinds := [], alts := [], laidByText := true, laidKinds := [.data, .pinned], laidTests := true, laidLooks := .later }
def RunesKindsCardSaid : Prop := Claim7.holds Tryd.pinned (.plain (OpenSpec.ofChange runesKindsSpec)) runesKindsCard

/-- THE TIED CARD OF 'selvedgelaw2.RunesText'. -/
def runesTextCard : Claim7 := { stood := { row := runesTextRow, standIns := [], harness := (true, "ccdd1b0e858c29ab8c1de91a6845483f3bd5a4c312efaa0a84407033d90731a3"), looks := false }, kinds := [], alts := [], laidByText := true, laidKinds := [.data, .pinned], laidTests := true, laidLooks := .later }
def RunesTextCardSaid : Prop := Claim7.holds Tryd.pinned (.plain (OpenSpec.ofChange runesTextSpec)) runesTextCard

/-- THE TIED CARD OF 'selvedgelaw4.FenceNumbers'. -/
def fenceNumbersCard : Claim7 := { stood := { row := fenceNumbersRow, standIns := [], harness := (true, "ccdd1b0e858c29ab8c1de91a6845483f3bd5a4c312efaa0a84407033d90731a3"), looks := false }, kinds := [], alts := [], laidByText := true, laidKinds := [.data, .pinned], laidTests := true, laidLooks := .later }
def FenceNumbersCardSaid : Prop := Claim7.holds Tryd.pinned (.plain (OpenSpec.ofChange fenceNumbersSpec)) fenceNumbersCard

/-- THE TIED CARD OF 'selvedgelaw4.FenceTells'. -/
def fenceTellsCard : Claim7 := { stood := { row := fenceTellsRow, standIns := [], harness := (true, "ccdd1b0e858c29ab8c1de91a6845483f3bd5a4c312efaa0a84407033d90731a3"), looks := false }, kinds := [], alts := [], laidByText := true, laidKinds := [.data, .pinned], laidTests := true, laidLooks := .later }
def FenceTellsCardSaid : Prop := Claim7.holds Tryd.pinned (.plain (OpenSpec.ofChange fenceTellsSpec)) fenceTellsCard

/-- THE TIED CARD OF 'selvedgelaw4.FenceLong'. -/
def fenceLongCard : Claim7 := { stood := { row := fenceLongRow, standIns := [], harness := (true, "ccdd1b0e858c29ab8c1de91a6845483f3bd5a4c312efaa0a84407033d90731a3"), looks := false }, kinds := [], alts := [], laidByText := true, laidKinds := [.data, .pinned], laidTests := true, laidLooks := .later }
def FenceLongCardSaid : Prop := Claim7.holds Tryd.pinned (.plain (OpenSpec.ofChange fenceLongSpec)) fenceLongCard

/-- THE TIED CARD OF 'selvedgelaw4.FenceEnds'. -/
def fenceEndsCard : Claim7 := { stood := { row := fenceEndsRow, standIns := [], harness := (true, "ccdd1b0e858c29ab8c1de91a6845483f3bd5a4c312efaa0a84407033d90731a3"), looks := false }, kinds := [], alts := [], laidByText := true, laidKinds := [.data, .pinned], laidTests := true, laidLooks := .later }
def FenceEndsCardSaid : Prop := Claim7.holds Tryd.pinned (.plain (OpenSpec.ofChange fenceEndsSpec)) fenceEndsCard

/-- THE TIED CARD OF 'selvedgelaw4.FenceInfo'. -/
def fenceInfoCard : Claim7 := { stood := { row := fenceInfoRow, standIns := [], harness := (true, "ccdd1b0e858c29ab8c1de91a6845483f3bd5a4c312efaa0a84407033d90731a3"), looks := false }, kinds := [], alts := [], laidByText := true, laidKinds := [.data, .pinned], laidTests := true, laidLooks := .later }
def FenceInfoCardSaid : Prop := Claim7.holds Tryd.pinned (.plain (OpenSpec.ofChange fenceInfoSpec)) fenceInfoCard

/-- THE SECOND FORM's CARD OF 'selvedgelaw2.RunesNumbers'. -/
def runesNumbersUptoCard : Claim7 := { stood := { row := runesNumbersUptoRow, standIns := [], harness := (true, "ccdd1b0e858c29ab8c1de91a6845483f3bd5a4c312efaa0a84407033d90731a3"), looks := false }, kinds := [], alts := [], laidByText := true, laidKinds := [.data, .pinned], laidTests := true, laidLooks := .later }
def RunesNumbersUptoCardSaid : Prop := Claim7.holds Tryd.pinned (.plain (OpenSpec.upto runesNumbersSpec)) runesNumbersUptoCard

/-- THE SECOND FORM's CARD OF 'selvedgelaw2.RunesTells'. -/
def runesTellsUptoCard : Claim7 := { stood := { row := runesTellsUptoRow, standIns := [], harness := (true, "ccdd1b0e858c29ab8c1de91a6845483f3bd5a4c312efaa0a84407033d90731a3"), looks := false }, kinds := [], alts := [], laidByText := true, laidKinds := [.data, .pinned], laidTests := true, laidLooks := .later }
def RunesTellsUptoCardSaid : Prop := Claim7.holds Tryd.pinned (.plain (OpenSpec.upto runesTellsSpec)) runesTellsUptoCard

/-- THE SECOND FORM's CARD OF 'selvedgelaw2.RunesFold'. -/
def runesFoldUptoCard : Claim7 := { stood := { row := runesFoldUptoRow, standIns := [], harness := (true, "ccdd1b0e858c29ab8c1de91a6845483f3bd5a4c312efaa0a84407033d90731a3"), looks := false }, kinds := [], alts := [], laidByText := true, laidKinds := [.data, .pinned], laidTests := true, laidLooks := .later }
def RunesFoldUptoCardSaid : Prop := Claim7.holds Tryd.pinned (.plain (OpenSpec.upto runesFoldSpec)) runesFoldUptoCard

/-- THE SECOND FORM's CARD OF 'selvedgelaw2.RunesKinds'. -/
def runesKindsUptoCard : Claim7 := { stood := { row := runesKindsUptoRow, standIns := [], harness := (true, "ccdd1b0e858c29ab8c1de91a6845483f3bd5a4c312efaa0a84407033d90731a3"), looks := false }, kinds := [], alts := [], laidByText := true, laidKinds := [.data, .pinned], laidTests := true, laidLooks := .later }
def RunesKindsUptoCardSaid : Prop := Claim7.holds Tryd.pinned (.plain (OpenSpec.upto runesKindsSpec)) runesKindsUptoCard

/-- THE SECOND FORM's CARD OF 'selvedgelaw2.RunesText'. -/
def runesTextUptoCard : Claim7 := { stood := { row := runesTextUptoRow, standIns := [], harness := (true, "ccdd1b0e858c29ab8c1de91a6845483f3bd5a4c312efaa0a84407033d90731a3"), looks := false }, kinds := [], alts := [], laidByText := true, laidKinds := [.data, .pinned], laidTests := true, laidLooks := .later }
def RunesTextUptoCardSaid : Prop := Claim7.holds Tryd.pinned (.plain (OpenSpec.upto runesTextSpec)) runesTextUptoCard

/-- THE SECOND FORM's CARD OF 'selvedgelaw4.FenceNumbers'. -/
def fenceNumbersUptoCard : Claim7 := { stood := { row := fenceNumbersUptoRow, standIns := [], harness := (true, "ccdd1b0e858c29ab8c1de91a6845483f3bd5a4c312efaa0a84407033d90731a3"), looks := false }, kinds := [], alts := [], laidByText := true, laidKinds := [.data, .pinned], laidTests := true, laidLooks := .later }
def FenceNumbersUptoCardSaid : Prop := Claim7.holds Tryd.pinned (.plain (OpenSpec.upto fenceNumbersSpec)) fenceNumbersUptoCard

/-- THE SECOND FORM's CARD OF 'selvedgelaw4.FenceTells'. -/
def fenceTellsUptoCard : Claim7 := { stood := { row := fenceTellsUptoRow, standIns := [], harness := (true, "ccdd1b0e858c29ab8c1de91a6845483f3bd5a4c312efaa0a84407033d90731a3"), looks := false }, kinds := [], alts := [], laidByText := true, laidKinds := [.data, .pinned], laidTests := true, laidLooks := .later }
def FenceTellsUptoCardSaid : Prop := Claim7.holds Tryd.pinned (.plain (OpenSpec.upto fenceTellsSpec)) fenceTellsUptoCard

/-- THE SECOND FORM's CARD OF 'selvedgelaw4.FenceLong'. -/
def fenceLongUptoCard : Claim7 := { stood := { row := fenceLongUptoRow, standIns := [], harness := (true, "ccdd1b0e858c29ab8c1de91a6845483f3bd5a4c312efaa0a84407033d90731a3"), looks := false }, kinds := [], alts := [], laidByText := true, laidKinds := [.data, .pinned], laidTests := true, laidLooks := .later }
def FenceLongUptoCardSaid : Prop := Claim7.holds Tryd.pinned (.plain (OpenSpec.upto fenceLongSpec)) fenceLongUptoCard

/-- THE SECOND FORM's CARD OF 'selvedgelaw4.FenceEnds'. -/
def fenceEndsUptoCard : Claim7 := { stood := { row := fenceEndsUptoRow, standIns := [], harness := (true, "ccdd1b0e858c29ab8c1de91a6845483f3bd5a4c312efaa0a84407033d90731a3"), looks := false }, kinds := [], alts := [], laidByText := true, laidKinds := [.data, .pinned], laidTests := true, laidLooks := .later }
def FenceEndsUptoCardSaid : Prop := Claim7.holds Tryd.pinned (.plain (OpenSpec.upto fenceEndsSpec)) fenceEndsUptoCard

/-- THE SECOND FORM's CARD OF 'selvedgelaw4.FenceInfo'. -/
def fenceInfoUptoCard : Claim7 := { stood := { row := fenceInfoUptoRow, standIns := [], harness := (true, "ccdd1b0e858c29ab8c1de91a6845483f3bd5a4c312efaa0a84407033d90731a3"), looks := false }, kinds := [], alts := [], laidByText := true, laidKinds := [.data, .pinned], laidTests := true, laidLooks := .later }
def FenceInfoUptoCardSaid : Prop := Claim7.holds Tryd.pinned (.plain (OpenSpec.upto fenceInfoSpec)) fenceInfoUptoCard
end Rows
end Go.Proofs.YtmmpphbbbekinaaDoor
