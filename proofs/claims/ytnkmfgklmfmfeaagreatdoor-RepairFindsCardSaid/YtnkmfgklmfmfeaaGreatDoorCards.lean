/-
  DERIVED. GIVEN WITH THE SEED: THE CARDS: each row of YtnkmfgklmfmfeaaGreatDoorRows.lean that lists a variable, with what it lists TIED to the program's text (the seventh form; the later family's looks); each row that meets fmt, with fmt's text TOLD by the authors' own Lean function (tested against real Go, not proved from fmt's source: count such statements apart). THE CARD IS WHAT COUNTS. Prove the row's statement (the work); the ties are given (YtnkmfgklmfmfeaaGreatDoorTie.lean); close each card by the builder's one call (the guide's Derived/Test/ToyasCard.lean, 'card_holds'). Laid BY PROGRAM, IN A SANDBOX (cutbox-door.mjs). By AI agents, Wed Nov 11 2026. No macro, syntax, notation, axiom, sorry.
-/
import Derived.Test.YtnkmfgklmfmfeaaGreatDoorRows
import GoSem.ClaimSeven
namespace Go.Proofs.YtnkmfgklmfmfeaaGreatDoor
namespace Rows

/-- THE TIED CARD OF 'gussetlaw23.RepairWhole'. -/
def repairWholeCard : Claim7 := { stood := { row := repairWholeRow, standIns := [], harness := (true, "8c3b8c6795c3beda10388483bdfa9de939308c220f1a230efa09a7207769d4e7"), looks := true }, kinds := [], alts := [], laidByText := true, laidKinds := [.handle], laidTests := true, laidLooks := .later }
def RepairWholeCardSaid : Prop := Claim7.holds Tryz.pinned (.plain (OpenSpec.ofChange repairWholeSpec)) repairWholeCard

/-- THE TIED CARD OF 'gussetlaw23.RepairFinds'. -/
def repairFindsCard : Claim7 := { stood := { row := repairFindsRow, standIns := [], harness := (true, "8c3b8c6795c3beda10388483bdfa9de939308c220f1a230efa09a7207769d4e7"), looks := true }, kinds := [], alts := [], laidByText := true, laidKinds := [.handle], laidTests := true, laidLooks := .later }
def RepairFindsCardSaid : Prop := Claim7.holds Tryz.pinned (.plain (OpenSpec.ofChange repairFindsSpec)) repairFindsCard

/-- THE TIED CARD OF 'gussetlaw23.RepairTwice'. -/
def repairTwiceCard : Claim7 := { stood := { row := repairTwiceRow, standIns := [], harness := (true, "8c3b8c6795c3beda10388483bdfa9de939308c220f1a230efa09a7207769d4e7"), looks := true }, kinds := [], alts := [], laidByText := true, laidKinds := [.handle], laidTests := true, laidLooks := .later }
def RepairTwiceCardSaid : Prop := Claim7.holds Tryz.pinned (.plain (OpenSpec.ofChange repairTwiceSpec)) repairTwiceCard

/-- THE SECOND FORM's CARD OF 'gussetlaw23.RepairWhole'. -/
def repairWholeUptoCard : Claim7 := { stood := { row := repairWholeUptoRow, standIns := [], harness := (true, "8c3b8c6795c3beda10388483bdfa9de939308c220f1a230efa09a7207769d4e7"), looks := true }, kinds := [], alts := [], laidByText := true, laidKinds := [.handle], laidTests := true, laidLooks := .later }
def RepairWholeUptoCardSaid : Prop := Claim7.holds Tryz.pinned (.plain (OpenSpec.upto repairWholeSpec)) repairWholeUptoCard

/-- THE SECOND FORM's CARD OF 'gussetlaw23.RepairFinds'. -/
def repairFindsUptoCard : Claim7 := { stood := { row := repairFindsUptoRow, standIns := [], harness := (true, "8c3b8c6795c3beda10388483bdfa9de939308c220f1a230efa09a7207769d4e7"), looks := true }, kinds := [], alts := [], laidByText := true, laidKinds := [.handle], laidTests := true, laidLooks := .later }
def RepairFindsUptoCardSaid : Prop := Claim7.holds Tryz.pinned (.plain (OpenSpec.upto repairFindsSpec)) repairFindsUptoCard

/-- THE SECOND FORM's CARD OF 'gussetlaw23.RepairTwice'. -/
def repairTwiceUptoCard : Claim7 := { stood := { row := repairTwiceUptoRow, standIns := [], harness := (true, "8c3b8c6795c3beda10388483bdfa9de939308c220f1a230efa09a7207769d4e7"), looks := true }, kinds := [], alts := [], laidByText := true, laidKinds := [.handle], laidTests := true, laidLooks := .later }
def RepairTwiceUptoCardSaid : Prop := Claim7.holds Tryz.pinned (.plain (OpenSpec.upto repairTwiceSpec)) repairTwiceUptoCard
end Rows
end Go.Proofs.YtnkmfgklmfmfeaaGreatDoor
