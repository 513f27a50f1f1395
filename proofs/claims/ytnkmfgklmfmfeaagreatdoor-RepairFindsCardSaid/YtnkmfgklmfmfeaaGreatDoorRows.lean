/-
  NARROWER THAN 'FOR EVERY INPUT', by the rows' own cells (each row's printed sentence says how): RepairWhole: laid · RepairFinds: laid · RepairTwice: laid.
  DERIVED. THE GIVEN ROWS OF THIS SEAT. 3 by the template 'for every input the law returns true; each argument reads behind the call as it read before'; 0 by the template 'total and deterministic' (their statements: YtnkmfgklmfmfeaaGreatDoorTotals.lean).
  GIVEN WITH THE SEED: the statements are not yours to turn. If you find one false, say at which input.
  Laid BY PROGRAM, IN A SANDBOX (cutbox-rows.mjs): the forced cells as the released guide's own fill.sh prints them over the translation 4bd42e9356ca238b… (all of the seat's roots in one cut). By AI agents, Wed Nov 11 2026. No macro, syntax, notation, axiom, sorry.
-/
import Derived.Test.YtnkmfgklmfmfeaaGreatDoorChecked
import GoSem.Claim
import GoSem.ClaimJoined
import GoSem.ClaimMapViews
import Derived.JoinedTies
import Derived.KernelRfl
namespace Go.Proofs.YtnkmfgklmfmfeaaGreatDoor
/- THE CELL 'sum', in the pinned program and in every row, IS THE sha256 OF THE DUMP (.gsa) THAT YtnkmfgklmfmfeaaGreatDoorProg.lean LOADS. Nothing in Lean hashes anything: it is a label: what it is worth is what the hold of that sum in a sandbox is worth. -/
noncomputable def Tryz.pinned : Pinned := { name := "ytnkmfgklmfmfeaagreatdoor", sum := "4bd42e9356ca238b4cdfda761de7520ce124a3b54f029c982b3e0d6987b21187", checked := Tryz.checked }
namespace Rows
def none {H : Type} : Left H := { results := [], args := [] }

/- WHAT THE LISTED PACKAGE-LEVEL VARIABLES READ AS WHEN THE CALL BEGINS. Each datum BY PROGRAM (the guide's laid-datum.mjs) off the statement by which the dump's own 'gosem.cut.vars' lays the variable. In a bare row this is a premise. The card (YtnkmfgklmfmfeaaGreatDoorCards.lean) ties it to the program's text. -/
def laid_errors_errorType {H : Type} : DataW H := .iface "internal/reflectlite.rtype" (.agg [.ptr (.lit (.string [101, 114, 114, 111, 114]))])

/-- 'gussetlaw23.RepairWhole': WHATEVER THE INPUT: true; the input reads as it did. -/
def repairWholeSpec : ChangeSpec := { name := "repairWhole", fn := fun _ => fun
  | [d1, d2, d3] => { results := [.lit (.bool true)], args := [d1, d2, d3] }
  | _ => none }
def repairWholeRow : OpenClaim := { program := "ytnkmfgklmfmfeaagreatdoor", sum := "4bd42e9356ca238b4cdfda761de7520ce124a3b54f029c982b3e0d6987b21187", func := "gusset/gussetlaw23.RepairWhole", spec := "repairWhole", inPlace := ["maps.clone", "internal/reflectlite.ValueOf", "(internal/reflectlite.Value).Type", "(internal/reflectlite.Value).IsNil", "internal/reflectlite.TypeOf", "(internal/reflectlite.Value).Elem", "(internal/reflectlite.Value).Set"], unfollowed := true, recurses := true, named := ["errors.errorType"], apart := false, laid := [("errors.errorType", laid_errors_errorType)] }
def RepairWholeSaid : Prop := repairWholeRow.holds Tryz.pinned (OpenSpec.ofChange repairWholeSpec)

/-- ITS FALSE NEIGHBOUR: 'it returns false'. Refute it at one input. -/
def repairWholeWrong : ChangeSpec := { name := "repairWhole", fn := fun _ => fun
  | [d1, d2, d3] => { results := [.lit (.bool false)], args := [d1, d2, d3] }
  | _ => none }
def RepairWholeWrongFalsely : Prop := repairWholeRow.holds Tryz.pinned (OpenSpec.ofChange repairWholeWrong)

/-- 'gussetlaw23.RepairFinds': WHATEVER THE INPUT: true; the input reads as it did. -/
def repairFindsSpec : ChangeSpec := { name := "repairFinds", fn := fun _ => fun
  | [d1, d2, d3] => { results := [.lit (.bool true)], args := [d1, d2, d3] }
  | _ => none }
def repairFindsRow : OpenClaim := { program := "ytnkmfgklmfmfeaagreatdoor", sum := "4bd42e9356ca238b4cdfda761de7520ce124a3b54f029c982b3e0d6987b21187", func := "gusset/gussetlaw23.RepairFinds", spec := "repairFinds", inPlace := ["maps.clone", "internal/reflectlite.ValueOf", "(internal/reflectlite.Value).Type", "(internal/reflectlite.Value).IsNil", "internal/reflectlite.TypeOf", "(internal/reflectlite.Value).Elem", "(internal/reflectlite.Value).Set"], unfollowed := true, recurses := true, named := ["errors.errorType"], apart := false, laid := [("errors.errorType", laid_errors_errorType)] }
def RepairFindsSaid : Prop := repairFindsRow.holds Tryz.pinned (OpenSpec.ofChange repairFindsSpec)

/-- ITS FALSE NEIGHBOUR: 'it returns false'. Refute it at one input. -/
def repairFindsWrong : ChangeSpec := { name := "repairFinds", fn := fun _ => fun
  | [d1, d2, d3] => { results := [.lit (.bool false)], args := [d1, d2, d3] }
  | _ => none }
def RepairFindsWrongFalsely : Prop := repairFindsRow.holds Tryz.pinned (OpenSpec.ofChange repairFindsWrong)

/-- 'gussetlaw23.RepairTwice': WHATEVER THE INPUT: true; the input reads as it did. -/
def repairTwiceSpec : ChangeSpec := { name := "repairTwice", fn := fun _ => fun
  | [d1, d2, d3, d4] => { results := [.lit (.bool true)], args := [d1, d2, d3, d4] }
  | _ => none }
def repairTwiceRow : OpenClaim := { program := "ytnkmfgklmfmfeaagreatdoor", sum := "4bd42e9356ca238b4cdfda761de7520ce124a3b54f029c982b3e0d6987b21187", func := "gusset/gussetlaw23.RepairTwice", spec := "repairTwice", inPlace := ["maps.clone", "internal/reflectlite.ValueOf", "(internal/reflectlite.Value).Type", "(internal/reflectlite.Value).IsNil", "internal/reflectlite.TypeOf", "(internal/reflectlite.Value).Elem", "(internal/reflectlite.Value).Set"], unfollowed := true, recurses := true, named := ["errors.errorType"], apart := false, laid := [("errors.errorType", laid_errors_errorType)] }
def RepairTwiceSaid : Prop := repairTwiceRow.holds Tryz.pinned (OpenSpec.ofChange repairTwiceSpec)

/-- ITS FALSE NEIGHBOUR: 'it returns false'. Refute it at one input. -/
def repairTwiceWrong : ChangeSpec := { name := "repairTwice", fn := fun _ => fun
  | [d1, d2, d3, d4] => { results := [.lit (.bool false)], args := [d1, d2, d3, d4] }
  | _ => none }
def RepairTwiceWrongFalsely : Prop := repairTwiceRow.holds Tryz.pinned (OpenSpec.ofChange repairTwiceWrong)

/- THE SECOND FORM. 'bulk': how many values and letters a reading holds, each counted each time it is reached (what is shared counts as often as it is met; a slice's spare places count too). A statement '..UptoSaid' is the law's where the arguments, and the package variables that the reading takes, are together of bulk at most 1048576: NARROWER than '..Said'. Prove '..Said' where nothing that the law and all that it calls make is longer than what came in: it says more and counts as full. Else prove '..UptoSaid'. A law counts once. -/
mutual
def uptoBulk {H : Type} : DataW H → Nat
  | .lit (.string bytes) => bytes.length + 1
  | .lit _ => 1
  | .nil => 1
  | .ptr d => uptoBulk d + 1
  | .slice elems spare => uptoBulkAll elems + uptoBulkAll spare + 1
  | .agg parts => uptoBulkAll parts + 1
  | .iface _ d => uptoBulk d + 1
  | .map entries => uptoBulkEntries entries + 1
  | .held _ => 1
def uptoBulkAll {H : Type} : List (DataW H) → Nat
  | [] => 0
  | d :: r => uptoBulk d + uptoBulkAll r
def uptoBulkEntries {H : Type} : List (Lit × DataW H) → Nat
  | [] => 0
  | x :: r => uptoBulkEntry x + uptoBulkEntries r
def uptoBulkEntry {H : Type} : Lit × DataW H → Nat
  | (.string bytes, d) => bytes.length + uptoBulk d + 1
  | (_, d) => uptoBulk d + 1
 end
def uptoSmall : (H : Type) → List (DataW H) → Bool := fun _ ds => decide (uptoBulkAll ds ≤ 1048576)
def OpenSpec.upto (s : _root_.Go.ChangeSpec) : _root_.Go.OpenSpec := { _root_.Go.OpenSpec.ofChange s with cond := some uptoSmall }

/-- 'gussetlaw23.RepairWhole', WHERE WHAT IT READS IS OF BULK AT MOST 1048576: true; the input reads as it did. -/
def repairWholeUptoRow : OpenClaim := { program := "ytnkmfgklmfmfeaagreatdoor", sum := "4bd42e9356ca238b4cdfda761de7520ce124a3b54f029c982b3e0d6987b21187", func := "gusset/gussetlaw23.RepairWhole", spec := "repairWhole", inPlace := ["maps.clone", "internal/reflectlite.ValueOf", "(internal/reflectlite.Value).Type", "(internal/reflectlite.Value).IsNil", "internal/reflectlite.TypeOf", "(internal/reflectlite.Value).Elem", "(internal/reflectlite.Value).Set"], unfollowed := true, recurses := true, named := ["errors.errorType"], apart := false, laid := [("errors.errorType", laid_errors_errorType)], narrowed := true }
def RepairWholeUptoSaid : Prop := repairWholeUptoRow.holds Tryz.pinned (OpenSpec.upto repairWholeSpec)

/-- 'gussetlaw23.RepairFinds', WHERE WHAT IT READS IS OF BULK AT MOST 1048576: true; the input reads as it did. -/
def repairFindsUptoRow : OpenClaim := { program := "ytnkmfgklmfmfeaagreatdoor", sum := "4bd42e9356ca238b4cdfda761de7520ce124a3b54f029c982b3e0d6987b21187", func := "gusset/gussetlaw23.RepairFinds", spec := "repairFinds", inPlace := ["maps.clone", "internal/reflectlite.ValueOf", "(internal/reflectlite.Value).Type", "(internal/reflectlite.Value).IsNil", "internal/reflectlite.TypeOf", "(internal/reflectlite.Value).Elem", "(internal/reflectlite.Value).Set"], unfollowed := true, recurses := true, named := ["errors.errorType"], apart := false, laid := [("errors.errorType", laid_errors_errorType)], narrowed := true }
def RepairFindsUptoSaid : Prop := repairFindsUptoRow.holds Tryz.pinned (OpenSpec.upto repairFindsSpec)

/-- 'gussetlaw23.RepairTwice', WHERE WHAT IT READS IS OF BULK AT MOST 1048576: true; the input reads as it did. -/
def repairTwiceUptoRow : OpenClaim := { program := "ytnkmfgklmfmfeaagreatdoor", sum := "4bd42e9356ca238b4cdfda761de7520ce124a3b54f029c982b3e0d6987b21187", func := "gusset/gussetlaw23.RepairTwice", spec := "repairTwice", inPlace := ["maps.clone", "internal/reflectlite.ValueOf", "(internal/reflectlite.Value).Type", "(internal/reflectlite.Value).IsNil", "internal/reflectlite.TypeOf", "(internal/reflectlite.Value).Elem", "(internal/reflectlite.Value).Set"], unfollowed := true, recurses := true, named := ["errors.errorType"], apart := false, laid := [("errors.errorType", laid_errors_errorType)], narrowed := true }
def RepairTwiceUptoSaid : Prop := repairTwiceUptoRow.holds Tryz.pinned (OpenSpec.upto repairTwiceSpec)

end Rows
end Go.Proofs.YtnkmfgklmfmfeaaGreatDoor
