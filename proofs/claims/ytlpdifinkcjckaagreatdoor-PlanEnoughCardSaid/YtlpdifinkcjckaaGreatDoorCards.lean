/-
  DERIVED. GIVEN WITH THE SEED: THE CARDS: each row of YtlpdifinkcjckaaGreatDoorRows.lean that lists a variable, with what it lists TIED to the program's text (the seventh form; the later family's looks); each row that meets fmt, with fmt's text TOLD by the authors' own Lean function (tested against real Go, not proved from fmt's source: count such statements apart). THE CARD IS WHAT COUNTS. Prove the row's statement (the work); the ties are given (YtlpdifinkcjckaaGreatDoorTie.lean); close each card by the builder's one call (the guide's Derived/Test/ToyasCard.lean, 'card_holds'). Laid BY PROGRAM, IN A SANDBOX (cutbox-door.mjs). By AI agents, Wed Nov 11 2026. No macro, syntax, notation, axiom, sorry.
-/
import Derived.Test.YtlpdifinkcjckaaGreatDoorRows
import GoSem.ClaimSeven
namespace Go.Proofs.YtlpdifinkcjckaaGreatDoor
namespace Rows

/-- THE TIED CARD OF 'gussetlaw18.PlanEnough'. -/
def planEnoughCard : Claim7 := { stood := { row := planEnoughRow, standIns := [], harness := (true, "b20c4627ae93ea1dd25d39ceac446d960503cd27365fc37a8055e590b3080dd2"), looks := true }, kinds := [], alts := [], laidByText := true, laidKinds := [.handle], laidTests := true, laidLooks := .later }
def PlanEnoughCardSaid : Prop := Claim7.holds Tryz.pinned (.plain (OpenSpec.ofChange planEnoughSpec)) planEnoughCard

/-- THE TIED CARD OF 'gussetlaw18.PlanRuns'. -/
def planRunsCard : Claim7 := { stood := { row := planRunsRow, standIns := [], harness := (true, "b20c4627ae93ea1dd25d39ceac446d960503cd27365fc37a8055e590b3080dd2"), looks := true }, kinds := [], alts := [], laidByText := true, laidKinds := [.handle], laidTests := true, laidLooks := .later }
def PlanRunsCardSaid : Prop := Claim7.holds Tryz.pinned (.plain (OpenSpec.ofChange planRunsSpec)) planRunsCard

/-- THE TIED CARD OF 'gussetlaw18.PlanFronts'. -/
def planFrontsCard : Claim7 := { stood := { row := planFrontsRow, standIns := [], harness := (true, "b20c4627ae93ea1dd25d39ceac446d960503cd27365fc37a8055e590b3080dd2"), looks := true }, kinds := [], alts := [], laidByText := true, laidKinds := [.handle], laidTests := true, laidLooks := .later }
def PlanFrontsCardSaid : Prop := Claim7.holds Tryz.pinned (.plain (OpenSpec.ofChange planFrontsSpec)) planFrontsCard

/-- THE TIED CARD OF 'gussetlaw18.PlanWants'. -/
def planWantsCard : Claim7 := { stood := { row := planWantsRow, standIns := [], harness := (true, "b20c4627ae93ea1dd25d39ceac446d960503cd27365fc37a8055e590b3080dd2"), looks := true }, kinds := [], alts := [], laidByText := true, laidKinds := [.handle], laidTests := true, laidLooks := .later }
def PlanWantsCardSaid : Prop := Claim7.holds Tryz.pinned (.plain (OpenSpec.ofChange planWantsSpec)) planWantsCard

/-- THE TIED CARD OF 'gussetlaw18.PlanNothing'. -/
def planNothingCard : Claim7 := { stood := { row := planNothingRow, standIns := [], harness := (true, "b20c4627ae93ea1dd25d39ceac446d960503cd27365fc37a8055e590b3080dd2"), looks := true }, kinds := [], alts := [], laidByText := true, laidKinds := [.handle], laidTests := true, laidLooks := .later }
def PlanNothingCardSaid : Prop := Claim7.holds Tryz.pinned (.plain (OpenSpec.ofChange planNothingSpec)) planNothingCard

/-- THE SECOND FORM's CARD OF 'gussetlaw18.PlanEnough'. -/
def planEnoughUptoCard : Claim7 := { stood := { row := planEnoughUptoRow, standIns := [], harness := (true, "b20c4627ae93ea1dd25d39ceac446d960503cd27365fc37a8055e590b3080dd2"), looks := true }, kinds := [], alts := [], laidByText := true, laidKinds := [.handle], laidTests := true, laidLooks := .later }
def PlanEnoughUptoCardSaid : Prop := Claim7.holds Tryz.pinned (.plain (OpenSpec.upto planEnoughSpec)) planEnoughUptoCard

/-- THE SECOND FORM's CARD OF 'gussetlaw18.PlanRuns'. -/
def planRunsUptoCard : Claim7 := { stood := { row := planRunsUptoRow, standIns := [], harness := (true, "b20c4627ae93ea1dd25d39ceac446d960503cd27365fc37a8055e590b3080dd2"), looks := true }, kinds := [], alts := [], laidByText := true, laidKinds := [.handle], laidTests := true, laidLooks := .later }
def PlanRunsUptoCardSaid : Prop := Claim7.holds Tryz.pinned (.plain (OpenSpec.upto planRunsSpec)) planRunsUptoCard

/-- THE SECOND FORM's CARD OF 'gussetlaw18.PlanFronts'. -/
def planFrontsUptoCard : Claim7 := { stood := { row := planFrontsUptoRow, standIns := [], harness := (true, "b20c4627ae93ea1dd25d39ceac446d960503cd27365fc37a8055e590b3080dd2"), looks := true }, kinds := [], alts := [], laidByText := true, laidKinds := [.handle], laidTests := true, laidLooks := .later }
def PlanFrontsUptoCardSaid : Prop := Claim7.holds Tryz.pinned (.plain (OpenSpec.upto planFrontsSpec)) planFrontsUptoCard

/-- THE SECOND FORM's CARD OF 'gussetlaw18.PlanWants'. -/
def planWantsUptoCard : Claim7 := { stood := { row := planWantsUptoRow, standIns := [], harness := (true, "b20c4627ae93ea1dd25d39ceac446d960503cd27365fc37a8055e590b3080dd2"), looks := true }, kinds := [], alts := [], laidByText := true, laidKinds := [.handle], laidTests := true, laidLooks := .later }
def PlanWantsUptoCardSaid : Prop := Claim7.holds Tryz.pinned (.plain (OpenSpec.upto planWantsSpec)) planWantsUptoCard

/-- THE SECOND FORM's CARD OF 'gussetlaw18.PlanNothing'. -/
def planNothingUptoCard : Claim7 := { stood := { row := planNothingUptoRow, standIns := [], harness := (true, "b20c4627ae93ea1dd25d39ceac446d960503cd27365fc37a8055e590b3080dd2"), looks := true }, kinds := [], alts := [], laidByText := true, laidKinds := [.handle], laidTests := true, laidLooks := .later }
def PlanNothingUptoCardSaid : Prop := Claim7.holds Tryz.pinned (.plain (OpenSpec.upto planNothingSpec)) planNothingUptoCard
end Rows
end Go.Proofs.YtlpdifinkcjckaaGreatDoor
