/-
  DERIVED. GIVEN WITH THE SEED: THE CARDS: each row of YtggbohdgcalblaaDoorRows.lean that lists a variable, with what it lists TIED to the program's text (the seventh form; the later family's looks); each row that meets fmt, with fmt's text TOLD by the authors' own Lean function (tested against real Go, not proved from fmt's source: count such statements apart). THE CARD IS WHAT COUNTS. Prove the row's statement (the work); the ties are given (YtggbohdgcalblaaDoorTie.lean); close each card by the builder's one call (the guide's Derived/Test/ToyasCard.lean, 'card_holds'). Laid BY PROGRAM, IN A SANDBOX (cutbox-door.mjs). By AI agents, Wed Nov 11 2026. No macro, syntax, notation, axiom, sorry.
-/
import Derived.Test.YtggbohdgcalblaaDoorRows
import GoSem.ClaimSeven
namespace Go.Proofs.YtggbohdgcalblaaDoor
namespace Rows

/-- THE TIED CARD OF 'gussetlaw04.RankNumbers'. -/
def rankNumbersCard : Claim7 := { stood := { row := rankNumbersRow, standIns := [], harness := (true, "603cb3cf9f500a255d2531ef9c13c483dc11b291982fd90a50692461749571a9"), looks := false }, kinds := [], alts := [], laidByText := true, laidKinds := [.data, .pinned], laidTests := true, laidLooks := .later }
def RankNumbersCardSaid : Prop := Claim7.holds Tryd.pinned (.plain (OpenSpec.ofChange rankNumbersSpec)) rankNumbersCard

/-- THE TIED CARD OF 'gussetlaw04.RankTexts'. -/
def rankTextsCard : Claim7 := { stood := { row := rankTextsRow, standIns := [], harness := (true, "603cb3cf9f500a255d2531ef9c13c483dc11b291982fd90a50692461749571a9"), looks := false }, kinds := [], alts := [], laidByText := true, laidKinds := [.data, .pinned], laidTests := true, laidLooks := .later }
def RankTextsCardSaid : Prop := Claim7.holds Tryd.pinned (.plain (OpenSpec.ofChange rankTextsSpec)) rankTextsCard

/-- THE TIED CARD OF 'gussetlaw04.RankRows'. -/
def rankRowsCard : Claim7 := { stood := { row := rankRowsRow, standIns := [], harness := (true, "603cb3cf9f500a255d2531ef9c13c483dc11b291982fd90a50692461749571a9"), looks := false }, kinds := [], alts := [], laidByText := true, laidKinds := [.data, .pinned], laidTests := true, laidLooks := .later }
def RankRowsCardSaid : Prop := Claim7.holds Tryd.pinned (.plain (OpenSpec.ofChange rankRowsSpec)) rankRowsCard

/-- THE TIED CARD OF 'gussetlaw04.RankWrites'. -/
def rankWritesCard : Claim7 := { stood := { row := rankWritesRow, standIns := [], harness := (true, "603cb3cf9f500a255d2531ef9c13c483dc11b291982fd90a50692461749571a9"), looks := false }, kinds := [], alts := [], laidByText := true, laidKinds := [.data, .pinned], laidTests := true, laidLooks := .later }
def RankWritesCardSaid : Prop := Claim7.holds Tryd.pinned (.plain (OpenSpec.ofChange rankWritesSpec)) rankWritesCard

/-- THE TIED CARD OF 'gussetlaw04.RankReads'. -/
def rankReadsCard : Claim7 := { stood := { row := rankReadsRow, standIns := [], harness := (true, "603cb3cf9f500a255d2531ef9c13c483dc11b291982fd90a50692461749571a9"), looks := false }, kinds := [], alts := [], laidByText := true, laidKinds := [.data, .pinned], laidTests := true, laidLooks := .later }
def RankReadsCardSaid : Prop := Claim7.holds Tryd.pinned (.plain (OpenSpec.ofChange rankReadsSpec)) rankReadsCard

/-- THE TIED CARD OF 'gussetlaw04.RankApart'. -/
def rankApartCard : Claim7 := { stood := { row := rankApartRow, standIns := [], harness := (true, "603cb3cf9f500a255d2531ef9c13c483dc11b291982fd90a50692461749571a9"), looks := false }, kinds := [], alts := [], laidByText := true, laidKinds := [.data, .pinned], laidTests := true, laidLooks := .later }
def RankApartCardSaid : Prop := Claim7.holds Tryd.pinned (.plain (OpenSpec.ofChange rankApartSpec)) rankApartCard

/-- THE SECOND FORM's CARD OF 'gussetlaw04.RankNumbers'. -/
def rankNumbersUptoCard : Claim7 := { stood := { row := rankNumbersUptoRow, standIns := [], harness := (true, "603cb3cf9f500a255d2531ef9c13c483dc11b291982fd90a50692461749571a9"), looks := false }, kinds := [], alts := [], laidByText := true, laidKinds := [.data, .pinned], laidTests := true, laidLooks := .later }
def RankNumbersUptoCardSaid : Prop := Claim7.holds Tryd.pinned (.plain (OpenSpec.upto rankNumbersSpec)) rankNumbersUptoCard

/-- THE SECOND FORM's CARD OF 'gussetlaw04.RankTexts'. -/
def rankTextsUptoCard : Claim7 := { stood := { row := rankTextsUptoRow, standIns := [], harness := (true, "603cb3cf9f500a255d2531ef9c13c483dc11b291982fd90a50692461749571a9"), looks := false }, kinds := [], alts := [], laidByText := true, laidKinds := [.data, .pinned], laidTests := true, laidLooks := .later }
def RankTextsUptoCardSaid : Prop := Claim7.holds Tryd.pinned (.plain (OpenSpec.upto rankTextsSpec)) rankTextsUptoCard

/-- THE SECOND FORM's CARD OF 'gussetlaw04.RankRows'. -/
def rankRowsUptoCard : Claim7 := { stood := { row := rankRowsUptoRow, standIns := [], harness := (true, "603cb3cf9f500a255d2531ef9c13c483dc11b291982fd90a50692461749571a9"), looks := false }, kinds := [], alts := [], laidByText := true, laidKinds := [.data, .pinned], laidTests := true, laidLooks := .later }
def RankRowsUptoCardSaid : Prop := Claim7.holds Tryd.pinned (.plain (OpenSpec.upto rankRowsSpec)) rankRowsUptoCard

/-- THE SECOND FORM's CARD OF 'gussetlaw04.RankWrites'. -/
def rankWritesUptoCard : Claim7 := { stood := { row := rankWritesUptoRow, standIns := [], harness := (true, "603cb3cf9f500a255d2531ef9c13c483dc11b291982fd90a50692461749571a9"), looks := false }, kinds := [], alts := [], laidByText := true, laidKinds := [.data, .pinned], laidTests := true, laidLooks := .later }
def RankWritesUptoCardSaid : Prop := Claim7.holds Tryd.pinned (.plain (OpenSpec.upto rankWritesSpec)) rankWritesUptoCard

/-- THE SECOND FORM's CARD OF 'gussetlaw04.RankReads'. -/
def rankReadsUptoCard : Claim7 := { stood := { row := rankReadsUptoRow, standIns := [], harness := (true, "603cb3cf9f500a255d2531ef9c13c483dc11b291982fd90a50692461749571a9"), looks := false }, kinds := [], alts := [], laidByText := true, laidKinds := [.data, .pinned], laidTests := true, laidLooks := .later }
def RankReadsUptoCardSaid : Prop := Claim7.holds Tryd.pinned (.plain (OpenSpec.upto rankReadsSpec)) rankReadsUptoCard

/-- THE SECOND FORM's CARD OF 'gussetlaw04.RankApart'. -/
def rankApartUptoCard : Claim7 := { stood := { row := rankApartUptoRow, standIns := [], harness := (true, "603cb3cf9f500a255d2531ef9c13c483dc11b291982fd90a50692461749571a9"), looks := false }, kinds := [], alts := [], laidByText := true, laidKinds := [.data, .pinned], laidTests := true, laidLooks := .later }
def RankApartUptoCardSaid : Prop := Claim7.holds Tryd.pinned (.plain (OpenSpec.upto rankApartSpec)) rankApartUptoCard
end Rows
end Go.Proofs.YtggbohdgcalblaaDoor
