/-
  DERIVED. GIVEN WITH THE SEED: THE CARDS: each row of YtpigipgoopeeoaaGreatDoorRows.lean that lists a variable, with what it lists TIED to the program's text (the seventh form; the later family's looks); each row that meets fmt, with fmt's text TOLD by the authors' own Lean function (tested against real Go, not proved from fmt's source: count such statements apart). THE CARD IS WHAT COUNTS. Prove the row's statement (the work); the ties are given (YtpigipgoopeeoaaGreatDoorTie.lean); close each card by the builder's one call (the guide's Derived/Test/ToyasCard.lean, 'card_holds'). Laid BY PROGRAM, IN A SANDBOX (cutbox-door.mjs). By AI agents, Wed Nov 11 2026. No macro, syntax, notation, axiom, sorry.
-/
import Derived.Test.YtpigipgoopeeoaaGreatDoorRows
import GoSem.ClaimSeven
namespace Go.Proofs.YtpigipgoopeeoaaGreatDoor
namespace Rows

/-- THE TIED CARD OF 'gussetlaw24.CheckHolds'. -/
def checkHoldsCard : Claim7 := { stood := { row := checkHoldsRow, standIns := [], harness := (true, "acdf7ecf2d8fbd292e7659688171f87747dbffe2bed764f9d49c764b5483bb49"), looks := true }, kinds := [], alts := [], laidByText := true, laidKinds := [.handle], laidTests := true, laidLooks := .later }
def CheckHoldsCardSaid : Prop := Claim7.holds Tryz.pinned (.plain (OpenSpec.ofChange checkHoldsSpec)) checkHoldsCard

/-- THE TIED CARD OF 'gussetlaw24.CheckBegins'. -/
def checkBeginsCard : Claim7 := { stood := { row := checkBeginsRow, standIns := [], harness := (true, "acdf7ecf2d8fbd292e7659688171f87747dbffe2bed764f9d49c764b5483bb49"), looks := true }, kinds := [], alts := [], laidByText := true, laidKinds := [.handle], laidTests := true, laidLooks := .later }
def CheckBeginsCardSaid : Prop := Claim7.holds Tryz.pinned (.plain (OpenSpec.ofChange checkBeginsSpec)) checkBeginsCard

/-- THE TIED CARD OF 'gussetlaw24.CheckVerifies'. -/
def checkVerifiesCard : Claim7 := { stood := { row := checkVerifiesRow, standIns := [], harness := (true, "acdf7ecf2d8fbd292e7659688171f87747dbffe2bed764f9d49c764b5483bb49"), looks := true }, kinds := [], alts := [], laidByText := true, laidKinds := [.handle], laidTests := true, laidLooks := .later }
def CheckVerifiesCardSaid : Prop := Claim7.holds Tryz.pinned (.plain (OpenSpec.ofChange checkVerifiesSpec)) checkVerifiesCard

/-- THE TIED CARD OF 'gussetlaw24.CheckOnce'. -/
def checkOnceCard : Claim7 := { stood := { row := checkOnceRow, standIns := [], harness := (true, "acdf7ecf2d8fbd292e7659688171f87747dbffe2bed764f9d49c764b5483bb49"), looks := true }, kinds := [], alts := [], laidByText := true, laidKinds := [.handle], laidTests := true, laidLooks := .later }
def CheckOnceCardSaid : Prop := Claim7.holds Tryz.pinned (.plain (OpenSpec.ofChange checkOnceSpec)) checkOnceCard

/-- THE TIED CARD OF 'gussetlaw24.CheckOrders'. -/
def checkOrdersCard : Claim7 := { stood := { row := checkOrdersRow, standIns := [], harness := (true, "acdf7ecf2d8fbd292e7659688171f87747dbffe2bed764f9d49c764b5483bb49"), looks := true }, kinds := [], alts := [], laidByText := true, laidKinds := [.handle], laidTests := true, laidLooks := .later }
def CheckOrdersCardSaid : Prop := Claim7.holds Tryz.pinned (.plain (OpenSpec.ofChange checkOrdersSpec)) checkOrdersCard

/-- THE SECOND FORM's CARD OF 'gussetlaw24.CheckHolds'. -/
def checkHoldsUptoCard : Claim7 := { stood := { row := checkHoldsUptoRow, standIns := [], harness := (true, "acdf7ecf2d8fbd292e7659688171f87747dbffe2bed764f9d49c764b5483bb49"), looks := true }, kinds := [], alts := [], laidByText := true, laidKinds := [.handle], laidTests := true, laidLooks := .later }
def CheckHoldsUptoCardSaid : Prop := Claim7.holds Tryz.pinned (.plain (OpenSpec.upto checkHoldsSpec)) checkHoldsUptoCard

/-- THE SECOND FORM's CARD OF 'gussetlaw24.CheckBegins'. -/
def checkBeginsUptoCard : Claim7 := { stood := { row := checkBeginsUptoRow, standIns := [], harness := (true, "acdf7ecf2d8fbd292e7659688171f87747dbffe2bed764f9d49c764b5483bb49"), looks := true }, kinds := [], alts := [], laidByText := true, laidKinds := [.handle], laidTests := true, laidLooks := .later }
def CheckBeginsUptoCardSaid : Prop := Claim7.holds Tryz.pinned (.plain (OpenSpec.upto checkBeginsSpec)) checkBeginsUptoCard

/-- THE SECOND FORM's CARD OF 'gussetlaw24.CheckVerifies'. -/
def checkVerifiesUptoCard : Claim7 := { stood := { row := checkVerifiesUptoRow, standIns := [], harness := (true, "acdf7ecf2d8fbd292e7659688171f87747dbffe2bed764f9d49c764b5483bb49"), looks := true }, kinds := [], alts := [], laidByText := true, laidKinds := [.handle], laidTests := true, laidLooks := .later }
def CheckVerifiesUptoCardSaid : Prop := Claim7.holds Tryz.pinned (.plain (OpenSpec.upto checkVerifiesSpec)) checkVerifiesUptoCard

/-- THE SECOND FORM's CARD OF 'gussetlaw24.CheckOnce'. -/
def checkOnceUptoCard : Claim7 := { stood := { row := checkOnceUptoRow, standIns := [], harness := (true, "acdf7ecf2d8fbd292e7659688171f87747dbffe2bed764f9d49c764b5483bb49"), looks := true }, kinds := [], alts := [], laidByText := true, laidKinds := [.handle], laidTests := true, laidLooks := .later }
def CheckOnceUptoCardSaid : Prop := Claim7.holds Tryz.pinned (.plain (OpenSpec.upto checkOnceSpec)) checkOnceUptoCard

/-- THE SECOND FORM's CARD OF 'gussetlaw24.CheckOrders'. -/
def checkOrdersUptoCard : Claim7 := { stood := { row := checkOrdersUptoRow, standIns := [], harness := (true, "acdf7ecf2d8fbd292e7659688171f87747dbffe2bed764f9d49c764b5483bb49"), looks := true }, kinds := [], alts := [], laidByText := true, laidKinds := [.handle], laidTests := true, laidLooks := .later }
def CheckOrdersUptoCardSaid : Prop := Claim7.holds Tryz.pinned (.plain (OpenSpec.upto checkOrdersSpec)) checkOrdersUptoCard
end Rows
end Go.Proofs.YtpigipgoopeeoaaGreatDoor
