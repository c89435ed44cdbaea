/-
  DERIVED. GIVEN WITH THE SEED: THE CARDS: each row of YtdjfcjlpemckoaaDoorRows.lean that lists a variable, with what it lists TIED to the program's text (the seventh form; the later family's looks); each row that meets fmt, with fmt's text TOLD by the authors' own Lean function (tested against real Go, not proved from fmt's source: count such statements apart). THE CARD IS WHAT COUNTS. Prove the row's statement (the work); the ties are given (YtdjfcjlpemckoaaDoorTie.lean); close each card by the builder's one call (the guide's Derived/Test/ToyasCard.lean, 'card_holds'). Laid BY PROGRAM, IN A SANDBOX (cutbox-door.mjs). By AI agents, Wed Nov 11 2026. No macro, syntax, notation, axiom, sorry.
-/
import Derived.Test.YtdjfcjlpemckoaaDoorRows
import GoSem.ClaimSeven
namespace Go.Proofs.YtdjfcjlpemckoaaDoor
namespace Rows

/-- THE TIED CARD OF 'selvedgelaw10.EmphNumbers'. -/
def emphNumbersCard : Claim7 := { stood := { row := emphNumbersRow, standIns := [], harness := (true, "8fe571c5b9bbbf236237c1f4ea636e5f130f26cfa93955fb74fbef88f61ea581"), looks := false }, kinds := [], alts := [], laidByText := true, laidKinds := [.data, .pinned], laidTests := true, laidLooks := .later }
def EmphNumbersCardSaid : Prop := Claim7.holds Tryd.pinned (.plain (OpenSpec.ofChange emphNumbersSpec)) emphNumbersCard

/-- THE TIED CARD OF 'selvedgelaw10.EmphTells'. -/
def emphTellsCard : Claim7 := { stood := { row := emphTellsRow, standIns := [], harness := (true, "8fe571c5b9bbbf236237c1f4ea636e5f130f26cfa93955fb74fbef88f61ea581"), looks := false }, kinds := [], alts := [], laidByText := true, laidKinds := [.data, .pinned], laidTests := true, laidLooks := .later }
def EmphTellsCardSaid : Prop := Claim7.holds Tryd.pinned (.plain (OpenSpec.ofChange emphTellsSpec)) emphTellsCard

/-- THE TIED CARD OF 'selvedgelaw10.EmphNests'. -/
def emphNestsCard : Claim7 := { stood := { row := emphNestsRow, standIns := [], harness := (true, "8fe571c5b9bbbf236237c1f4ea636e5f130f26cfa93955fb74fbef88f61ea581"), looks := false }, kinds := [], alts := [], laidByText := true, laidKinds := [.data, .pinned], laidTests := true, laidLooks := .later }
def EmphNestsCardSaid : Prop := Claim7.holds Tryd.pinned (.plain (OpenSpec.ofChange emphNestsSpec)) emphNestsCard

/-- THE TIED CARD OF 'selvedgelaw10.EmphPlain'. -/
def emphPlainCard : Claim7 := { stood := { row := emphPlainRow, standIns := [], harness := (true, "8fe571c5b9bbbf236237c1f4ea636e5f130f26cfa93955fb74fbef88f61ea581"), looks := false }, kinds := [], alts := [], laidByText := true, laidKinds := [.data, .pinned], laidTests := true, laidLooks := .later }
def EmphPlainCardSaid : Prop := Claim7.holds Tryd.pinned (.plain (OpenSpec.ofChange emphPlainSpec)) emphPlainCard

/-- THE TIED CARD OF 'selvedgelaw10.EmphCounts'. -/
def emphCountsCard : Claim7 := { stood := { row := emphCountsRow, standIns := [], harness := (true, "8fe571c5b9bbbf236237c1f4ea636e5f130f26cfa93955fb74fbef88f61ea581"), looks := false }, kinds := [], alts := [], laidByText := true, laidKinds := [.data, .pinned], laidTests := true, laidLooks := .later }
def EmphCountsCardSaid : Prop := Claim7.holds Tryd.pinned (.plain (OpenSpec.ofChange emphCountsSpec)) emphCountsCard

/-- THE SECOND FORM's CARD OF 'selvedgelaw10.EmphNumbers'. -/
def emphNumbersUptoCard : Claim7 := { stood := { row := emphNumbersUptoRow, standIns := [], harness := (true, "8fe571c5b9bbbf236237c1f4ea636e5f130f26cfa93955fb74fbef88f61ea581"), looks := false }, kinds := [], alts := [], laidByText := true, laidKinds := [.data, .pinned], laidTests := true, laidLooks := .later }
def EmphNumbersUptoCardSaid : Prop := Claim7.holds Tryd.pinned (.plain (OpenSpec.upto emphNumbersSpec)) emphNumbersUptoCard

/-- THE SECOND FORM's CARD OF 'selvedgelaw10.EmphTells'. -/
def emphTellsUptoCard : Claim7 := { stood := { row := emphTellsUptoRow, standIns := [], harness := (true, "8fe571c5b9bbbf236237c1f4ea636e5f130f26cfa93955fb74fbef88f61ea581"), looks := false }, kinds := [], alts := [], laidByText := true, laidKinds := [.data, .pinned], laidTests := true, laidLooks := .later }
def EmphTellsUptoCardSaid : Prop := Claim7.holds Tryd.pinned (.plain (OpenSpec.upto emphTellsSpec)) emphTellsUptoCard

/-- THE SECOND FORM's CARD OF 'selvedgelaw10.EmphNests'. -/
def emphNestsUptoCard : Claim7 := { stood := { row := emphNestsUptoRow, standIns := [], harness := (true, "8fe571c5b9bbbf236237c1f4ea636e5f130f26cfa93955fb74fbef88f61ea581"), looks := false }, kinds := [], alts := [], laidByText := true, laidKinds := [.data, .pinned], laidTests := true, laidLooks := .later }
def EmphNestsUptoCardSaid : Prop := Claim7.holds Tryd.pinned (.plain (OpenSpec.upto emphNestsSpec)) emphNestsUptoCard

/-- THE SECOND FORM's CARD OF 'selvedgelaw10.EmphPlain'. -/
def emphPlainUptoCard : Claim7 := { stood := { row := emphPlainUptoRow, standIns := [], harness := (true, "8fe571c5b9bbbf236237c1f4ea636e5f130f26cfa93955fb74fbef88f61ea581"), looks := false }, kinds := [], alts := [], laidByText := true, laidKinds := [.data, .pinned], laidTests := true, laidLooks := .later }
def EmphPlainUptoCardSaid : Prop := Claim7.holds Tryd.pinned (.plain (OpenSpec.upto emphPlainSpec)) emphPlainUptoCard

/-- THE SECOND FORM's CARD OF 'selvedgelaw10.EmphCounts'. -/
def emphCountsUptoCard : Claim7 := { stood := { row := emphCountsUptoRow, standIns := [], harness := (true, "8fe571c5b9bbbf236237c1f4ea636e5f130f26cfa93955fb74fbef88f61ea581"), looks := false }, kinds := [], alts := [], laidByText := true, laidKinds := [.data, .pinned], laidTests := true, laidLooks := .later }
def EmphCountsUptoCardSaid : Prop := Claim7.holds Tryd.pinned (.plain (OpenSpec.upto emphCountsSpec)) emphCountsUptoCard
end Rows
end Go.Proofs.YtdjfcjlpemckoaaDoor
