/-
  NARROWER THAN 'FOR EVERY INPUT', by the rows' own cells (each row's printed sentence says how): PlanEnough: laid · PlanRuns: laid · PlanFronts: laid · PlanWants: laid · PlanNothing: laid.
  DERIVED. THE GIVEN ROWS OF THIS SEAT. 5 by the template 'for every input the law returns true; each argument reads behind the call as it read before'; 0 by the template 'total and deterministic' (their statements: YtlpdifinkcjckaaGreatDoorTotals.lean).
  GIVEN WITH THE SEED: the statements are not yours to turn. If you find one false, say at which input.
  Laid BY PROGRAM, IN A SANDBOX (cutbox-rows.mjs): the forced cells as the released guide's own fill.sh prints them over the translation 9ad30941ba0174b7… (all of the seat's roots in one cut). By AI agents, Wed Nov 11 2026. No macro, syntax, notation, axiom, sorry.
-/
import Derived.Test.YtlpdifinkcjckaaGreatDoorChecked
import GoSem.Claim
import GoSem.ClaimJoined
import GoSem.ClaimMapViews
import Derived.JoinedTies
import Derived.KernelRfl
namespace Go.Proofs.YtlpdifinkcjckaaGreatDoor
/- THE CELL 'sum', in the pinned program and in every row, IS THE sha256 OF THE DUMP (.gsa) THAT YtlpdifinkcjckaaGreatDoorProg.lean LOADS. Nothing in Lean hashes anything: it is a label: what it is worth is what the hold of that sum in a sandbox is worth. -/
noncomputable def Tryz.pinned : Pinned := { name := "ytlpdifinkcjckaagreatdoor", sum := "9ad30941ba0174b745ca4f48d3bf7fb5929a4a1fbc2ee63eefd9a268abc7ab01", checked := Tryz.checked }
namespace Rows
def none {H : Type} : Left H := { results := [], args := [] }

/- WHAT THE LISTED PACKAGE-LEVEL VARIABLES READ AS WHEN THE CALL BEGINS. Each datum BY PROGRAM (the guide's laid-datum.mjs) off the statement by which the dump's own 'gosem.cut.vars' lays the variable. In a bare row this is a premise. The card (YtlpdifinkcjckaaGreatDoorCards.lean) ties it to the program's text. -/
def laid_errors_errorType {H : Type} : DataW H := .iface "internal/reflectlite.rtype" (.agg [.ptr (.lit (.string [101, 114, 114, 111, 114]))])

/-- 'gussetlaw18.PlanEnough': WHATEVER THE INPUT: true; the input reads as it did. -/
def planEnoughSpec : ChangeSpec := { name := "planEnough", fn := fun _ => fun
  | [d1, d2] => { results := [.lit (.bool true)], args := [d1, d2] }
  | _ => none }
def planEnoughRow : OpenClaim := { program := "ytlpdifinkcjckaagreatdoor", sum := "9ad30941ba0174b745ca4f48d3bf7fb5929a4a1fbc2ee63eefd9a268abc7ab01", func := "gusset/gussetlaw18.PlanEnough", spec := "planEnough", inPlace := ["maps.clone", "internal/reflectlite.ValueOf", "(internal/reflectlite.Value).Type", "(internal/reflectlite.Value).IsNil", "internal/reflectlite.TypeOf", "(internal/reflectlite.Value).Elem", "(internal/reflectlite.Value).Set"], unfollowed := true, recurses := true, named := ["errors.errorType"], apart := false, laid := [("errors.errorType", laid_errors_errorType)] }
def PlanEnoughSaid : Prop := planEnoughRow.holds Tryz.pinned (OpenSpec.ofChange planEnoughSpec)

/-- ITS FALSE NEIGHBOUR: 'it returns false'. Refute it at one input. -/
def planEnoughWrong : ChangeSpec := { name := "planEnough", fn := fun _ => fun
  | [d1, d2] => { results := [.lit (.bool false)], args := [d1, d2] }
  | _ => none }
def PlanEnoughWrongFalsely : Prop := planEnoughRow.holds Tryz.pinned (OpenSpec.ofChange planEnoughWrong)

/-- 'gussetlaw18.PlanRuns': WHATEVER THE INPUT: true; the input reads as it did. -/
def planRunsSpec : ChangeSpec := { name := "planRuns", fn := fun _ => fun
  | [d1, d2] => { results := [.lit (.bool true)], args := [d1, d2] }
  | _ => none }
def planRunsRow : OpenClaim := { program := "ytlpdifinkcjckaagreatdoor", sum := "9ad30941ba0174b745ca4f48d3bf7fb5929a4a1fbc2ee63eefd9a268abc7ab01", func := "gusset/gussetlaw18.PlanRuns", spec := "planRuns", inPlace := ["maps.clone", "internal/reflectlite.ValueOf", "(internal/reflectlite.Value).Type", "(internal/reflectlite.Value).IsNil", "internal/reflectlite.TypeOf", "(internal/reflectlite.Value).Elem", "(internal/reflectlite.Value).Set"], unfollowed := true, recurses := true, named := ["errors.errorType"], apart := false, laid := [("errors.errorType", laid_errors_errorType)] }
def PlanRunsSaid : Prop := planRunsRow.holds Tryz.pinned (OpenSpec.ofChange planRunsSpec)

/-- ITS FALSE NEIGHBOUR: 'it returns false'. Refute it at one input. -/
def planRunsWrong : ChangeSpec := { name := "planRuns", fn := fun _ => fun
  | [d1, d2] => { results := [.lit (.bool false)], args := [d1, d2] }
  | _ => none }
def PlanRunsWrongFalsely : Prop := planRunsRow.holds Tryz.pinned (OpenSpec.ofChange planRunsWrong)

/-- 'gussetlaw18.PlanFronts': WHATEVER THE INPUT: true; the input reads as it did. -/
def planFrontsSpec : ChangeSpec := { name := "planFronts", fn := fun _ => fun
  | [d] => { results := [.lit (.bool true)], args := [d] }
  | _ => none }
def planFrontsRow : OpenClaim := { program := "ytlpdifinkcjckaagreatdoor", sum := "9ad30941ba0174b745ca4f48d3bf7fb5929a4a1fbc2ee63eefd9a268abc7ab01", func := "gusset/gussetlaw18.PlanFronts", spec := "planFronts", inPlace := ["maps.clone", "internal/reflectlite.ValueOf", "(internal/reflectlite.Value).Type", "(internal/reflectlite.Value).IsNil", "internal/reflectlite.TypeOf", "(internal/reflectlite.Value).Elem", "(internal/reflectlite.Value).Set"], unfollowed := true, recurses := true, named := ["errors.errorType"], apart := false, laid := [("errors.errorType", laid_errors_errorType)] }
def PlanFrontsSaid : Prop := planFrontsRow.holds Tryz.pinned (OpenSpec.ofChange planFrontsSpec)

/-- ITS FALSE NEIGHBOUR: 'it returns false'. Refute it at one input. -/
def planFrontsWrong : ChangeSpec := { name := "planFronts", fn := fun _ => fun
  | [d] => { results := [.lit (.bool false)], args := [d] }
  | _ => none }
def PlanFrontsWrongFalsely : Prop := planFrontsRow.holds Tryz.pinned (OpenSpec.ofChange planFrontsWrong)

/-- 'gussetlaw18.PlanWants': WHATEVER THE INPUT: true; the input reads as it did. -/
def planWantsSpec : ChangeSpec := { name := "planWants", fn := fun _ => fun
  | [d1, d2] => { results := [.lit (.bool true)], args := [d1, d2] }
  | _ => none }
def planWantsRow : OpenClaim := { program := "ytlpdifinkcjckaagreatdoor", sum := "9ad30941ba0174b745ca4f48d3bf7fb5929a4a1fbc2ee63eefd9a268abc7ab01", func := "gusset/gussetlaw18.PlanWants", spec := "planWants", inPlace := ["maps.clone", "internal/reflectlite.ValueOf", "(internal/reflectlite.Value).Type", "(internal/reflectlite.Value).IsNil", "internal/reflectlite.TypeOf", "(internal/reflectlite.Value).Elem", "(internal/reflectlite.Value).Set"], unfollowed := true, recurses := true, named := ["errors.errorType"], apart := false, laid := [("errors.errorType", laid_errors_errorType)] }
def PlanWantsSaid : Prop := planWantsRow.holds Tryz.pinned (OpenSpec.ofChange planWantsSpec)

/-- ITS FALSE NEIGHBOUR: 'it returns false'. Refute it at one input. -/
def planWantsWrong : ChangeSpec := { name := "planWants", fn := fun _ => fun
  | [d1, d2] => { results := [.lit (.bool false)], args := [d1, d2] }
  | _ => none }
def PlanWantsWrongFalsely : Prop := planWantsRow.holds Tryz.pinned (OpenSpec.ofChange planWantsWrong)

/-- 'gussetlaw18.PlanNothing': WHATEVER THE INPUT: true; the input reads as it did. -/
def planNothingSpec : ChangeSpec := { name := "planNothing", fn := fun _ => fun
  | [d1, d2, d3] => { results := [.lit (.bool true)], args := [d1, d2, d3] }
  | _ => none }
def planNothingRow : OpenClaim := { program := "ytlpdifinkcjckaagreatdoor", sum := "9ad30941ba0174b745ca4f48d3bf7fb5929a4a1fbc2ee63eefd9a268abc7ab01", func := "gusset/gussetlaw18.PlanNothing", spec := "planNothing", inPlace := ["maps.clone", "internal/reflectlite.ValueOf", "(internal/reflectlite.Value).Type", "(internal/reflectlite.Value).IsNil", "internal/reflectlite.TypeOf", "(internal/reflectlite.Value).Elem", "(internal/reflectlite.Value).Set"], unfollowed := true, recurses := true, named := ["errors.errorType"], apart := false, laid := [("errors.errorType", laid_errors_errorType)] }
def PlanNothingSaid : Prop := planNothingRow.holds Tryz.pinned (OpenSpec.ofChange planNothingSpec)

/-- ITS FALSE NEIGHBOUR: 'it returns false'. Refute it at one input. -/
def planNothingWrong : ChangeSpec := { name := "planNothing", fn := fun _ => fun
  | [d1, d2, d3] => { results := [.lit (.bool false)], args := [d1, d2, d3] }
  | _ => none }
def PlanNothingWrongFalsely : Prop := planNothingRow.holds Tryz.pinned (OpenSpec.ofChange planNothingWrong)

/- THE SECOND FORM. 'bulk': how many values and letters a reading holds, each counted each time it is reached (what is shared counts as often as it is met; a slice's spare places count too). A statement '..UptoSaid' is the law's where the arguments, and the package variables that the reading takes, are together of bulk at most 1048576: NARROWER than '..Said'. Prove '..Said' where nothing that the law and all that it calls make is longer than what came in: it says more and counts as full. Else prove '..UptoSaid'. A law counts once. -/
mutual
def uptoBulk {H : Type} : DataW H → Nat
  | .lit (.string bytes) => bytes.length + 1
  | .lit _ => 1
  | .nil => 1
  | .ptr d => uptoBulk d + 1
  | .slice elems spare => uptoBulkAll elems + uptoBulkAll spare + 1
  | .agg parts => uptoBulkAll parts + 1
  | .iface _ d => uptoBulk d + 1
  | .map entries => uptoBulkEntries entries + 1
  | .held _ => 1
def uptoBulkAll {H : Type} : List (DataW H) → Nat
  | [] => 0
  | d :: r => uptoBulk d + uptoBulkAll r
def uptoBulkEntries {H : Type} : List (Lit × DataW H) → Nat
  | [] => 0
  | x :: r => uptoBulkEntry x + uptoBulkEntries r
def uptoBulkEntry {H : Type} : Lit × DataW H → Nat
  | (.string bytes, d) => bytes.length + uptoBulk d + 1
  | (_, d) => uptoBulk d + 1
 end
def uptoSmall : (H : Type) → List (DataW H) → Bool := fun _ ds => decide (uptoBulkAll ds ≤ 1048576)
def OpenSpec.upto (s : _root_.Go.ChangeSpec) : _root_.Go.OpenSpec := { _root_.Go.OpenSpec.ofChange s with cond := some uptoSmall }

/-- 'gussetlaw18.PlanEnough', WHERE WHAT IT READS IS OF BULK AT MOST 1048576: true; the input reads as it did. -/
def planEnoughUptoRow : OpenClaim := { program := "ytlpdifinkcjckaagreatdoor", sum := "9ad30941ba0174b745ca4f48d3bf7fb5929a4a1fbc2ee63eefd9a268abc7ab01", func := "gusset/gussetlaw18.PlanEnough", spec := "planEnough", inPlace := ["maps.clone", "internal/reflectlite.ValueOf", "(internal/reflectlite.Value).Type", "(internal/reflectlite.Value).IsNil", "internal/reflectlite.TypeOf", "(internal/reflectlite.Value).Elem", "(internal/reflectlite.Value).Set"], unfollowed := true, recurses := true, named := ["errors.errorType"], apart := false, laid := [("errors.errorType", laid_errors_errorType)], narrowed := true }
def PlanEnoughUptoSaid : Prop := planEnoughUptoRow.holds Tryz.pinned (OpenSpec.upto planEnoughSpec)

/-- 'gussetlaw18.PlanRuns', WHERE WHAT IT READS IS OF BULK AT MOST 1048576: true; the input reads as it did. -/
def planRunsUptoRow : OpenClaim := { program := "ytlpdifinkcjckaagreatdoor", sum := "9ad30941ba0174b745ca4f48d3bf7fb5929a4a1fbc2ee63eefd9a268abc7ab01", func := "gusset/gussetlaw18.PlanRuns", spec := "planRuns", inPlace := ["maps.clone", "internal/reflectlite.ValueOf", "(internal/reflectlite.Value).Type", "(internal/reflectlite.Value).IsNil", "internal/reflectlite.TypeOf", "(internal/reflectlite.Value).Elem", "(internal/reflectlite.Value).Set"], unfollowed := true, recurses := true, named := ["errors.errorType"], apart := false, laid := [("errors.errorType", laid_errors_errorType)], narrowed := true }
def PlanRunsUptoSaid : Prop := planRunsUptoRow.holds Tryz.pinned (OpenSpec.upto planRunsSpec)

/-- 'gussetlaw18.PlanFronts', WHERE WHAT IT READS IS OF BULK AT MOST 1048576: true; the input reads as it did. -/
def planFrontsUptoRow : OpenClaim := { program := "ytlpdifinkcjckaagreatdoor", sum := "9ad30941ba0174b745ca4f48d3bf7fb5929a4a1fbc2ee63eefd9a268abc7ab01", func := "gusset/gussetlaw18.PlanFronts", spec := "planFronts", inPlace := ["maps.clone", "internal/reflectlite.ValueOf", "(internal/reflectlite.Value).Type", "(internal/reflectlite.Value).IsNil", "internal/reflectlite.TypeOf", "(internal/reflectlite.Value).Elem", "(internal/reflectlite.Value).Set"], unfollowed := true, recurses := true, named := ["errors.errorType"], apart := false, laid := [("errors.errorType", laid_errors_errorType)], narrowed := true }
def PlanFrontsUptoSaid : Prop := planFrontsUptoRow.holds Tryz.pinned (OpenSpec.upto planFrontsSpec)

/-- 'gussetlaw18.PlanWants', WHERE WHAT IT READS IS OF BULK AT MOST 1048576: true; the input reads as it did. -/
def planWantsUptoRow : OpenClaim := { program := "ytlpdifinkcjckaagreatdoor", sum := "9ad30941ba0174b745ca4f48d3bf7fb5929a4a1fbc2ee63eefd9a268abc7ab01", func := "gusset/gussetlaw18.PlanWants", spec := "planWants", inPlace := ["maps.clone", "internal/reflectlite.ValueOf", "(internal/reflectlite.Value).Type", "(internal/reflectlite.Value).IsNil", "internal/reflectlite.TypeOf", "(internal/reflectlite.Value).Elem", "(internal/reflectlite.Value).Set"], unfollowed := true, recurses := true, named := ["errors.errorType"], apart := false, laid := [("errors.errorType", laid_errors_errorType)], narrowed := true }
def PlanWantsUptoSaid : Prop := planWantsUptoRow.holds Tryz.pinned (OpenSpec.upto planWantsSpec)

/-- 'gussetlaw18.PlanNothing', WHERE WHAT IT READS IS OF BULK AT MOST 1048576: true; the input reads as it did. -/
def planNothingUptoRow : OpenClaim := { program := "ytlpdifinkcjckaagreatdoor", sum := "9ad30941ba0174b745ca4f48d3bf7fb5929a4a1fbc2ee63eefd9a268abc7ab01", func := "gusset/gussetlaw18.PlanNothing", spec := "planNothing", inPlace := ["maps.clone", "internal/reflectlite.ValueOf", "(internal/reflectlite.Value).Type", "(internal/reflectlite.Value).IsNil", "internal/reflectlite.TypeOf", "(internal/reflectlite.Value).Elem", "(internal/reflectlite.Value).Set"], unfollowed := true, recurses := true, named := ["errors.errorType"], apart := false, laid := [("errors.errorType", laid_errors_errorType)], narrowed := true }
def PlanNothingUptoSaid : Prop := planNothingUptoRow.holds Tryz.pinned (OpenSpec.upto planNothingSpec)

end Rows
end Go.Proofs.YtlpdifinkcjckaaGreatDoor
