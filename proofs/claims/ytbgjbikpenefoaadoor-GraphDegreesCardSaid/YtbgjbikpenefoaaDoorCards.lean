/-
  DERIVED. GIVEN WITH THE SEED: THE CARDS: each row of YtbgjbikpenefoaaDoorRows.lean that lists a variable, with what it lists TIED to the program's text (the seventh form; the later family's looks); each row that meets fmt, with fmt's text TOLD by the authors' own Lean function (tested against real Go, not proved from fmt's source: count such statements apart). THE CARD IS WHAT COUNTS. Prove the row's statement (the work); the ties are given (YtbgjbikpenefoaaDoorTie.lean); close each card by the builder's one call (the guide's Derived/Test/ToyasCard.lean, 'card_holds'). Laid BY PROGRAM, IN A SANDBOX (cutbox-door.mjs). By AI agents, Wed Nov 11 2026. No macro, syntax, notation, axiom, sorry.
-/
import Derived.Test.YtbgjbikpenefoaaDoorRows
import GoSem.ClaimSeven
namespace Go.Proofs.YtbgjbikpenefoaaDoor
namespace Rows

/-- THE TIED CARD OF 'gussetlaw03.GraphDegrees'. -/
def graphDegreesCard : Claim7 := { stood := { row := graphDegreesRow, standIns := [], harness := (true, "6c7963e7503345b355e46c7c3fa88704ea3d8a7752f396bf682aa7aa68b3ecf5"), looks := true }, kinds := [], alts := [], laidByText := true, laidKinds := [.handle], laidTests := true, laidLooks := .later }
def GraphDegreesCardSaid : Prop := Claim7.holds Tryd.pinned (.plain (OpenSpec.ofChange graphDegreesSpec)) graphDegreesCard

/-- THE SECOND FORM's CARD OF 'gussetlaw03.GraphDegrees'. -/
def graphDegreesUptoCard : Claim7 := { stood := { row := graphDegreesUptoRow, standIns := [], harness := (true, "6c7963e7503345b355e46c7c3fa88704ea3d8a7752f396bf682aa7aa68b3ecf5"), looks := true }, kinds := [], alts := [], laidByText := true, laidKinds := [.handle], laidTests := true, laidLooks := .later }
def GraphDegreesUptoCardSaid : Prop := Claim7.holds Tryd.pinned (.plain (OpenSpec.upto graphDegreesSpec)) graphDegreesUptoCard
end Rows
end Go.Proofs.YtbgjbikpenefoaaDoor
