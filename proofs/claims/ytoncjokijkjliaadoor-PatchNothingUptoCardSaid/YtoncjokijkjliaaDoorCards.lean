/-
  DERIVED. GIVEN WITH THE SEED: THE CARDS: each row of YtoncjokijkjliaaDoorRows.lean that lists a variable, with what it lists TIED to the program's text (the seventh form; the later family's looks); each row that meets fmt, with fmt's text TOLD by the authors' own Lean function (tested against real Go, not proved from fmt's source: count such statements apart). THE CARD IS WHAT COUNTS. Prove the row's statement (the work); the ties are given (YtoncjokijkjliaaDoorTie.lean); close each card by the builder's one call (the guide's Derived/Test/ToyasCard.lean, 'card_holds'). Laid BY PROGRAM, IN A SANDBOX (cutbox-door.mjs). By AI agents, Wed Nov 11 2026. No macro, syntax, notation, axiom, sorry.
-/
import Derived.Test.YtoncjokijkjliaaDoorRows
import GoSem.ClaimSeven
namespace Go.Proofs.YtoncjokijkjliaaDoor
namespace Rows

/-- THE TIED CARD OF 'selvedgelaw22.PatchNumbers'. -/
def patchNumbersCard : Claim7 := { stood := { row := patchNumbersRow, standIns := [], harness := (true, "c7e2667d07419a9b0ee83f387270b36115acc8ce3b4bce5fce528490fd431f9f"), looks := false }, kinds := [], alts := [], laidByText := true, laidKinds := [.data, .pinned], laidTests := true, laidLooks := .later }
def PatchNumbersCardSaid : Prop := Claim7.holds Tryd.pinned (.plain (OpenSpec.ofChange patchNumbersSpec)) patchNumbersCard

/-- THE TIED CARD OF 'selvedgelaw22.PatchTells'. -/
def patchTellsCard : Claim7 := { stood := { row := patchTellsRow, standIns := [], harness := (true, "c7e2667d07419a9b0ee83f387270b36115acc8ce3b4bce5fce528490fd431f9f"), looks := false }, kinds := [], alts := [], laidByText := true, laidKinds := [.data, .pinned], laidTests := true, laidLooks := .later }
def PatchTellsCardSaid : Prop := Claim7.holds Tryd.pinned (.plain (OpenSpec.ofChange patchTellsSpec)) patchTellsCard

/-- THE TIED CARD OF 'selvedgelaw22.PatchRest'. -/
def patchRestCard : Claim7 := { stood := { row := patchRestRow, standIns := [], harness := (true, "c7e2667d07419a9b0ee83f387270b36115acc8ce3b4bce5fce528490fd431f9f"), looks := false }, kinds := [], alts := [], laidByText := true, laidKinds := [.data, .pinned], laidTests := true, laidLooks := .later }
def PatchRestCardSaid : Prop := Claim7.holds Tryd.pinned (.plain (OpenSpec.ofChange patchRestSpec)) patchRestCard

/-- THE TIED CARD OF 'selvedgelaw22.PatchNothing'. -/
def patchNothingCard : Claim7 := { stood := { row := patchNothingRow, standIns := [], harness := (true, "c7e2667d07419a9b0ee83f387270b36115acc8ce3b4bce5fce528490fd431f9f"), looks := false }, kinds := [], alts := [], laidByText := true, laidKinds := [.data, .pinned], laidTests := true, laidLooks := .later }
def PatchNothingCardSaid : Prop := Claim7.holds Tryd.pinned (.plain (OpenSpec.ofChange patchNothingSpec)) patchNothingCard

/-- THE SECOND FORM's CARD OF 'selvedgelaw22.PatchNumbers'. -/
def patchNumbersUptoCard : Claim7 := { stood := { row := patchNumbersUptoRow, standIns := [], harness := (true, "c7e2667d07419a9b0ee83f387270b36115acc8ce3b4bce5fce528490fd431f9f"), looks := false }, kinds := [], alts := [], laidByText := true, laidKinds := [.data, .pinned], laidTests := true, laidLooks := .later }
def PatchNumbersUptoCardSaid : Prop := Claim7.holds Tryd.pinned (.plain (OpenSpec.upto patchNumbersSpec)) patchNumbersUptoCard

/-- THE SECOND FORM's CARD OF 'selvedgelaw22.PatchTells'. -/
def patchTellsUptoCard : Claim7 := { stood := { row := patchTellsUptoRow, standIns := [], harness := (true, "c7e2667d07419a9b0ee83f387270b36115acc8ce3b4bce5fce528490fd431f9f"), looks := false }, kinds := [], alts := [], laidByText := true, laidKinds := [.data, .pinned], laidTests := true, laidLooks := .later }
def PatchTellsUptoCardSaid : Prop := Claim7.holds Tryd.pinned (.plain (OpenSpec.upto patchTellsSpec)) patchTellsUptoCard

/-- THE SECOND FORM's CARD OF 'selvedgelaw22.PatchRest'. -/
def patchRestUptoCard : Claim7 := { stood := { row := patchRestUptoRow, standIns := [], harness := (true, "c7e2667d07419a9b0ee83f387270b36115acc8ce3b4bce5fce528490fd431f9f"), looks := false }, kinds := [], alts := [], laidByText := true, laidKinds := [.data, .pinned], laidTests := true, laidLooks := .later }
def PatchRestUptoCardSaid : Prop := Claim7.holds Tryd.pinned (.plain (OpenSpec.upto patchRestSpec)) patchRestUptoCard

/-- THE SECOND FORM's CARD OF 'selvedgelaw22.PatchNothing'. -/
def patchNothingUptoCard : Claim7 := { stood := { row := patchNothingUptoRow, standIns := [], harness := (true, "c7e2667d07419a9b0ee83f387270b36115acc8ce3b4bce5fce528490fd431f9f"), looks := false }, kinds := [], alts := [], laidByText := true, laidKinds := [.data, .pinned], laidTests := true, laidLooks := .later }
def PatchNothingUptoCardSaid : Prop := Claim7.holds Tryd.pinned (.plain (OpenSpec.upto patchNothingSpec)) patchNothingUptoCard
end Rows
end Go.Proofs.YtoncjokijkjliaaDoor
