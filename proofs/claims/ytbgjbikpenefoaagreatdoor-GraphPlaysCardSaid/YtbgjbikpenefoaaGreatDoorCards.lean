/-
  DERIVED. GIVEN WITH THE SEED: THE CARDS: each row of YtbgjbikpenefoaaGreatDoorRows.lean that lists a variable, with what it lists TIED to the program's text (the seventh form; the later family's looks); each row that meets fmt, with fmt's text TOLD by the authors' own Lean function (tested against real Go, not proved from fmt's source: count such statements apart). THE CARD IS WHAT COUNTS. Prove the row's statement (the work); the ties are given (YtbgjbikpenefoaaGreatDoorTie.lean); close each card by the builder's one call (the guide's Derived/Test/ToyasCard.lean, 'card_holds'). Laid BY PROGRAM, IN A SANDBOX (cutbox-door.mjs). By AI agents, Wed Nov 11 2026. No macro, syntax, notation, axiom, sorry.
-/
import Derived.Test.YtbgjbikpenefoaaGreatDoorRows
import GoSem.ClaimSeven
namespace Go.Proofs.YtbgjbikpenefoaaGreatDoor
namespace Rows

/-- THE TIED CARD OF 'gussetlaw03.GraphHops'. -/
def graphHopsCard : Claim7 := { stood := { row := graphHopsRow, standIns := [], harness := (true, "07142b8771c21a79cd0b3503939eca8d83a5ed768f24d91e4ed6d5a9442b607d"), looks := true }, kinds := [], alts := [], laidByText := true, laidKinds := [.handle], laidTests := true, laidLooks := .later }
def GraphHopsCardSaid : Prop := Claim7.holds Tryz.pinned (.plain (OpenSpec.ofChange graphHopsSpec)) graphHopsCard

/-- THE TIED CARD OF 'gussetlaw03.GraphPlays'. -/
def graphPlaysCard : Claim7 := { stood := { row := graphPlaysRow, standIns := [], harness := (true, "07142b8771c21a79cd0b3503939eca8d83a5ed768f24d91e4ed6d5a9442b607d"), looks := true }, kinds := [], alts := [], laidByText := true, laidKinds := [.handle], laidTests := true, laidLooks := .later }
def GraphPlaysCardSaid : Prop := Claim7.holds Tryz.pinned (.plain (OpenSpec.ofChange graphPlaysSpec)) graphPlaysCard

/-- THE TIED CARD OF 'gussetlaw03.GraphPairs'. -/
def graphPairsCard : Claim7 := { stood := { row := graphPairsRow, standIns := [], harness := (true, "07142b8771c21a79cd0b3503939eca8d83a5ed768f24d91e4ed6d5a9442b607d"), looks := true }, kinds := [], alts := [], laidByText := true, laidKinds := [.handle], laidTests := true, laidLooks := .later }
def GraphPairsCardSaid : Prop := Claim7.holds Tryz.pinned (.plain (OpenSpec.ofChange graphPairsSpec)) graphPairsCard

/-- THE TIED CARD OF 'gussetlaw03.GraphAll'. -/
def graphAllCard : Claim7 := { stood := { row := graphAllRow, standIns := [], harness := (true, "07142b8771c21a79cd0b3503939eca8d83a5ed768f24d91e4ed6d5a9442b607d"), looks := true }, kinds := [], alts := [], laidByText := true, laidKinds := [.handle], laidTests := true, laidLooks := .later }
def GraphAllCardSaid : Prop := Claim7.holds Tryz.pinned (.plain (OpenSpec.ofChange graphAllSpec)) graphAllCard

/-- THE TIED CARD OF 'gussetlaw03.GraphParts'. -/
def graphPartsCard : Claim7 := { stood := { row := graphPartsRow, standIns := [], harness := (true, "07142b8771c21a79cd0b3503939eca8d83a5ed768f24d91e4ed6d5a9442b607d"), looks := true }, kinds := [], alts := [], laidByText := true, laidKinds := [.handle], laidTests := true, laidLooks := .later }
def GraphPartsCardSaid : Prop := Claim7.holds Tryz.pinned (.plain (OpenSpec.ofChange graphPartsSpec)) graphPartsCard

/-- THE TIED CARD OF 'gussetlaw03.GraphBack'. -/
def graphBackCard : Claim7 := { stood := { row := graphBackRow, standIns := [], harness := (true, "07142b8771c21a79cd0b3503939eca8d83a5ed768f24d91e4ed6d5a9442b607d"), looks := true }, kinds := [], alts := [], laidByText := true, laidKinds := [.handle], laidTests := true, laidLooks := .later }
def GraphBackCardSaid : Prop := Claim7.holds Tryz.pinned (.plain (OpenSpec.ofChange graphBackSpec)) graphBackCard

/-- THE TIED CARD OF 'gussetlaw03.GraphNil'. -/
def graphNilCard : Claim7 := { stood := { row := graphNilRow, standIns := [], harness := (true, "07142b8771c21a79cd0b3503939eca8d83a5ed768f24d91e4ed6d5a9442b607d"), looks := true }, kinds := [], alts := [], laidByText := true, laidKinds := [.handle], laidTests := true, laidLooks := .later }
def GraphNilCardSaid : Prop := Claim7.holds Tryz.pinned (.plain (OpenSpec.ofChange graphNilSpec)) graphNilCard

/-- THE SECOND FORM's CARD OF 'gussetlaw03.GraphHops'. -/
def graphHopsUptoCard : Claim7 := { stood := { row := graphHopsUptoRow, standIns := [], harness := (true, "07142b8771c21a79cd0b3503939eca8d83a5ed768f24d91e4ed6d5a9442b607d"), looks := true }, kinds := [], alts := [], laidByText := true, laidKinds := [.handle], laidTests := true, laidLooks := .later }
def GraphHopsUptoCardSaid : Prop := Claim7.holds Tryz.pinned (.plain (OpenSpec.upto graphHopsSpec)) graphHopsUptoCard

/-- THE SECOND FORM's CARD OF 'gussetlaw03.GraphPlays'. -/
def graphPlaysUptoCard : Claim7 := { stood := { row := graphPlaysUptoRow, standIns := [], harness := (true, "07142b8771c21a79cd0b3503939eca8d83a5ed768f24d91e4ed6d5a9442b607d"), looks := true }, kinds := [], alts := [], laidByText := true, laidKinds := [.handle], laidTests := true, laidLooks := .later }
def GraphPlaysUptoCardSaid : Prop := Claim7.holds Tryz.pinned (.plain (OpenSpec.upto graphPlaysSpec)) graphPlaysUptoCard

/-- THE SECOND FORM's CARD OF 'gussetlaw03.GraphPairs'. -/
def graphPairsUptoCard : Claim7 := { stood := { row := graphPairsUptoRow, standIns := [], harness := (true, "07142b8771c21a79cd0b3503939eca8d83a5ed768f24d91e4ed6d5a9442b607d"), looks := true }, kinds := [], alts := [], laidByText := true, laidKinds := [.handle], laidTests := true, laidLooks := .later }
def GraphPairsUptoCardSaid : Prop := Claim7.holds Tryz.pinned (.plain (OpenSpec.upto graphPairsSpec)) graphPairsUptoCard

/-- THE SECOND FORM's CARD OF 'gussetlaw03.GraphAll'. -/
def graphAllUptoCard : Claim7 := { stood := { row := graphAllUptoRow, standIns := [], harness := (true, "07142b8771c21a79cd0b3503939eca8d83a5ed768f24d91e4ed6d5a9442b607d"), looks := true }, kinds := [], alts := [], laidByText := true, laidKinds := [.handle], laidTests := true, laidLooks := .later }
def GraphAllUptoCardSaid : Prop := Claim7.holds Tryz.pinned (.plain (OpenSpec.upto graphAllSpec)) graphAllUptoCard

/-- THE SECOND FORM's CARD OF 'gussetlaw03.GraphParts'. -/
def graphPartsUptoCard : Claim7 := { stood := { row := graphPartsUptoRow, standIns := [], harness := (true, "07142b8771c21a79cd0b3503939eca8d83a5ed768f24d91e4ed6d5a9442b607d"), looks := true }, kinds := [], alts := [], laidByText := true, laidKinds := [.handle], laidTests := true, laidLooks := .later }
def GraphPartsUptoCardSaid : Prop := Claim7.holds Tryz.pinned (.plain (OpenSpec.upto graphPartsSpec)) graphPartsUptoCard

/-- THE SECOND FORM's CARD OF 'gussetlaw03.GraphBack'. -/
def graphBackUptoCard : Claim7 := { stood := { row := graphBackUptoRow, standIns := [], harness := (true, "07142b8771c21a79cd0b3503939eca8d83a5ed768f24d91e4ed6d5a9442b607d"), looks := true }, kinds := [], alts := [], laidByText := true, laidKinds := [.handle], laidTests := true, laidLooks := .later }
def GraphBackUptoCardSaid : Prop := Claim7.holds Tryz.pinned (.plain (OpenSpec.upto graphBackSpec)) graphBackUptoCard

/-- THE SECOND FORM's CARD OF 'gussetlaw03.GraphNil'. -/
def graphNilUptoCard : Claim7 := { stood := { row := graphNilUptoRow, standIns := [], harness := (true, "07142b8771c21a79cd0b3503939eca8d83a5ed768f24d91e4ed6d5a9442b607d"), looks := true }, kinds := [], alts := [], laidByText := true, laidKinds := [.handle], laidTests := true, laidLooks := .later }
def GraphNilUptoCardSaid : Prop := Claim7.holds Tryz.pinned (.plain (OpenSpec.upto graphNilSpec)) graphNilUptoCard
end Rows
end Go.Proofs.YtbgjbikpenefoaaGreatDoor
