/-
  NARROWER THAN 'FOR EVERY INPUT', by the rows' own cells (each row's printed sentence says how): CheckHolds: laid · CheckBegins: laid · CheckVerifies: laid · CheckOnce: laid · CheckOrders: laid.
  DERIVED. THE GIVEN ROWS OF THIS SEAT. 5 by the template 'for every input the law returns true; each argument reads behind the call as it read before'; 0 by the template 'total and deterministic' (their statements: YtpigipgoopeeoaaGreatDoorTotals.lean).
  GIVEN WITH THE SEED: the statements are not yours to turn. If you find one false, say at which input.
  Laid BY PROGRAM, IN A SANDBOX (cutbox-rows.mjs): the forced cells as the released guide's own fill.sh prints them over the translation d3d23e92b8a128b7… (all of the seat's roots in one cut). By AI agents, Wed Nov 11 2026. No macro, syntax, notation, axiom, sorry.
-/
import Derived.Test.YtpigipgoopeeoaaGreatDoorChecked
import GoSem.Claim
import GoSem.ClaimJoined
import GoSem.ClaimMapViews
import Derived.JoinedTies
import Derived.KernelRfl
namespace Go.Proofs.YtpigipgoopeeoaaGreatDoor
/- THE CELL 'sum', in the pinned program and in every row, IS THE sha256 OF THE DUMP (.gsa) THAT YtpigipgoopeeoaaGreatDoorProg.lean LOADS. Nothing in Lean hashes anything: it is a label: what it is worth is what the hold of that sum in a sandbox is worth. -/
noncomputable def Tryz.pinned : Pinned := { name := "ytpigipgoopeeoaagreatdoor", sum := "d3d23e92b8a128b7e98c26d40ab7b9ac73cb3f5e477d7353937d4f87633ae9a4", checked := Tryz.checked }
namespace Rows
def none {H : Type} : Left H := { results := [], args := [] }

/- WHAT THE LISTED PACKAGE-LEVEL VARIABLES READ AS WHEN THE CALL BEGINS. Each datum BY PROGRAM (the guide's laid-datum.mjs) off the statement by which the dump's own 'gosem.cut.vars' lays the variable. In a bare row this is a premise. The card (YtpigipgoopeeoaaGreatDoorCards.lean) ties it to the program's text. -/
def laid_errors_errorType {H : Type} : DataW H := .iface "internal/reflectlite.rtype" (.agg [.ptr (.lit (.string [101, 114, 114, 111, 114]))])

/-- 'gussetlaw24.CheckHolds': WHATEVER THE INPUT: true; the input reads as it did. -/
def checkHoldsSpec : ChangeSpec := { name := "checkHolds", fn := fun _ => fun
  | [d1, d2, d3] => { results := [.lit (.bool true)], args := [d1, d2, d3] }
  | _ => none }
def checkHoldsRow : OpenClaim := { program := "ytpigipgoopeeoaagreatdoor", sum := "d3d23e92b8a128b7e98c26d40ab7b9ac73cb3f5e477d7353937d4f87633ae9a4", func := "gusset/gussetlaw24.CheckHolds", spec := "checkHolds", inPlace := ["maps.clone", "internal/reflectlite.ValueOf", "(internal/reflectlite.Value).Type", "(internal/reflectlite.Value).IsNil", "internal/reflectlite.TypeOf", "(internal/reflectlite.Value).Elem", "(internal/reflectlite.Value).Set"], unfollowed := true, recurses := true, named := ["errors.errorType"], plainKeys := false, apart := false, laid := [("errors.errorType", laid_errors_errorType)] }
def CheckHoldsSaid : Prop := checkHoldsRow.holds Tryz.pinned (OpenSpec.ofChange checkHoldsSpec)

/-- ITS FALSE NEIGHBOUR: 'it returns false'. Refute it at one input. -/
def checkHoldsWrong : ChangeSpec := { name := "checkHolds", fn := fun _ => fun
  | [d1, d2, d3] => { results := [.lit (.bool false)], args := [d1, d2, d3] }
  | _ => none }
def CheckHoldsWrongFalsely : Prop := checkHoldsRow.holds Tryz.pinned (OpenSpec.ofChange checkHoldsWrong)

/-- 'gussetlaw24.CheckBegins': WHATEVER THE INPUT: true; the input reads as it did. -/
def checkBeginsSpec : ChangeSpec := { name := "checkBegins", fn := fun _ => fun
  | [d1, d2, d3] => { results := [.lit (.bool true)], args := [d1, d2, d3] }
  | _ => none }
def checkBeginsRow : OpenClaim := { program := "ytpigipgoopeeoaagreatdoor", sum := "d3d23e92b8a128b7e98c26d40ab7b9ac73cb3f5e477d7353937d4f87633ae9a4", func := "gusset/gussetlaw24.CheckBegins", spec := "checkBegins", inPlace := ["maps.clone", "internal/reflectlite.ValueOf", "(internal/reflectlite.Value).Type", "(internal/reflectlite.Value).IsNil", "internal/reflectlite.TypeOf", "(internal/reflectlite.Value).Elem", "(internal/reflectlite.Value).Set"], unfollowed := true, recurses := true, named := ["errors.errorType"], plainKeys := false, apart := false, laid := [("errors.errorType", laid_errors_errorType)] }
def CheckBeginsSaid : Prop := checkBeginsRow.holds Tryz.pinned (OpenSpec.ofChange checkBeginsSpec)

/-- ITS FALSE NEIGHBOUR: 'it returns false'. Refute it at one input. -/
def checkBeginsWrong : ChangeSpec := { name := "checkBegins", fn := fun _ => fun
  | [d1, d2, d3] => { results := [.lit (.bool false)], args := [d1, d2, d3] }
  | _ => none }
def CheckBeginsWrongFalsely : Prop := checkBeginsRow.holds Tryz.pinned (OpenSpec.ofChange checkBeginsWrong)

/-- 'gussetlaw24.CheckVerifies': WHATEVER THE INPUT: true; the input reads as it did. -/
def checkVerifiesSpec : ChangeSpec := { name := "checkVerifies", fn := fun _ => fun
  | [d1, d2] => { results := [.lit (.bool true)], args := [d1, d2] }
  | _ => none }
def checkVerifiesRow : OpenClaim := { program := "ytpigipgoopeeoaagreatdoor", sum := "d3d23e92b8a128b7e98c26d40ab7b9ac73cb3f5e477d7353937d4f87633ae9a4", func := "gusset/gussetlaw24.CheckVerifies", spec := "checkVerifies", inPlace := ["maps.clone", "internal/reflectlite.ValueOf", "(internal/reflectlite.Value).Type", "(internal/reflectlite.Value).IsNil", "internal/reflectlite.TypeOf", "(internal/reflectlite.Value).Elem", "(internal/reflectlite.Value).Set"], unfollowed := true, recurses := true, named := ["errors.errorType"], plainKeys := false, apart := false, laid := [("errors.errorType", laid_errors_errorType)] }
def CheckVerifiesSaid : Prop := checkVerifiesRow.holds Tryz.pinned (OpenSpec.ofChange checkVerifiesSpec)

/-- ITS FALSE NEIGHBOUR: 'it returns false'. Refute it at one input. -/
def checkVerifiesWrong : ChangeSpec := { name := "checkVerifies", fn := fun _ => fun
  | [d1, d2] => { results := [.lit (.bool false)], args := [d1, d2] }
  | _ => none }
def CheckVerifiesWrongFalsely : Prop := checkVerifiesRow.holds Tryz.pinned (OpenSpec.ofChange checkVerifiesWrong)

/-- 'gussetlaw24.CheckOnce': WHATEVER THE INPUT: true; the input reads as it did. -/
def checkOnceSpec : ChangeSpec := { name := "checkOnce", fn := fun _ => fun
  | [d1, d2] => { results := [.lit (.bool true)], args := [d1, d2] }
  | _ => none }
def checkOnceRow : OpenClaim := { program := "ytpigipgoopeeoaagreatdoor", sum := "d3d23e92b8a128b7e98c26d40ab7b9ac73cb3f5e477d7353937d4f87633ae9a4", func := "gusset/gussetlaw24.CheckOnce", spec := "checkOnce", inPlace := ["maps.clone", "internal/reflectlite.ValueOf", "(internal/reflectlite.Value).Type", "(internal/reflectlite.Value).IsNil", "internal/reflectlite.TypeOf", "(internal/reflectlite.Value).Elem", "(internal/reflectlite.Value).Set"], unfollowed := true, recurses := true, named := ["errors.errorType"], plainKeys := false, apart := false, laid := [("errors.errorType", laid_errors_errorType)] }
def CheckOnceSaid : Prop := checkOnceRow.holds Tryz.pinned (OpenSpec.ofChange checkOnceSpec)

/-- ITS FALSE NEIGHBOUR: 'it returns false'. Refute it at one input. -/
def checkOnceWrong : ChangeSpec := { name := "checkOnce", fn := fun _ => fun
  | [d1, d2] => { results := [.lit (.bool false)], args := [d1, d2] }
  | _ => none }
def CheckOnceWrongFalsely : Prop := checkOnceRow.holds Tryz.pinned (OpenSpec.ofChange checkOnceWrong)

/-- 'gussetlaw24.CheckOrders': WHATEVER THE INPUT: true; the input reads as it did. -/
def checkOrdersSpec : ChangeSpec := { name := "checkOrders", fn := fun _ => fun
  | [d1, d2] => { results := [.lit (.bool true)], args := [d1, d2] }
  | _ => none }
def checkOrdersRow : OpenClaim := { program := "ytpigipgoopeeoaagreatdoor", sum := "d3d23e92b8a128b7e98c26d40ab7b9ac73cb3f5e477d7353937d4f87633ae9a4", func := "gusset/gussetlaw24.CheckOrders", spec := "checkOrders", inPlace := ["maps.clone", "internal/reflectlite.ValueOf", "(internal/reflectlite.Value).Type", "(internal/reflectlite.Value).IsNil", "internal/reflectlite.TypeOf", "(internal/reflectlite.Value).Elem", "(internal/reflectlite.Value).Set"], unfollowed := true, recurses := true, named := ["errors.errorType"], plainKeys := false, apart := false, laid := [("errors.errorType", laid_errors_errorType)] }
def CheckOrdersSaid : Prop := checkOrdersRow.holds Tryz.pinned (OpenSpec.ofChange checkOrdersSpec)

/-- ITS FALSE NEIGHBOUR: 'it returns false'. Refute it at one input. -/
def checkOrdersWrong : ChangeSpec := { name := "checkOrders", fn := fun _ => fun
  | [d1, d2] => { results := [.lit (.bool false)], args := [d1, d2] }
  | _ => none }
def CheckOrdersWrongFalsely : Prop := checkOrdersRow.holds Tryz.pinned (OpenSpec.ofChange checkOrdersWrong)

/- THE SECOND FORM. 'bulk': how many values and letters a reading holds, each counted each time it is reached (what is shared counts as often as it is met; a slice's spare places count too). A statement '..UptoSaid' is the law's where the arguments, and the package variables that the reading takes, are together of bulk at most 1048576: NARROWER than '..Said'. Prove '..Said' where nothing that the law and all that it calls make is longer than what came in: it says more and counts as full. Else prove '..UptoSaid'. A law counts once. -/
mutual
def uptoBulk {H : Type} : DataW H → Nat
  | .lit (.string bytes) => bytes.length + 1
  | .lit _ => 1
  | .nil => 1
  | .ptr d => uptoBulk d + 1
  | .slice elems spare => uptoBulkAll elems + uptoBulkAll spare + 1
  | .agg parts => uptoBulkAll parts + 1
  | .iface _ d => uptoBulk d + 1
  | .map entries => uptoBulkEntries entries + 1
  | .held _ => 1
def uptoBulkAll {H : Type} : List (DataW H) → Nat
  | [] => 0
  | d :: r => uptoBulk d + uptoBulkAll r
def uptoBulkEntries {H : Type} : List (Lit × DataW H) → Nat
  | [] => 0
  | x :: r => uptoBulkEntry x + uptoBulkEntries r
def uptoBulkEntry {H : Type} : Lit × DataW H → Nat
  | (.string bytes, d) => bytes.length + uptoBulk d + 1
  | (_, d) => uptoBulk d + 1
 end
def uptoSmall : (H : Type) → List (DataW H) → Bool := fun _ ds => decide (uptoBulkAll ds ≤ 1048576)
def OpenSpec.upto (s : _root_.Go.ChangeSpec) : _root_.Go.OpenSpec := { _root_.Go.OpenSpec.ofChange s with cond := some uptoSmall }

/-- 'gussetlaw24.CheckHolds', WHERE WHAT IT READS IS OF BULK AT MOST 1048576: true; the input reads as it did. -/
def checkHoldsUptoRow : OpenClaim := { program := "ytpigipgoopeeoaagreatdoor", sum := "d3d23e92b8a128b7e98c26d40ab7b9ac73cb3f5e477d7353937d4f87633ae9a4", func := "gusset/gussetlaw24.CheckHolds", spec := "checkHolds", inPlace := ["maps.clone", "internal/reflectlite.ValueOf", "(internal/reflectlite.Value).Type", "(internal/reflectlite.Value).IsNil", "internal/reflectlite.TypeOf", "(internal/reflectlite.Value).Elem", "(internal/reflectlite.Value).Set"], unfollowed := true, recurses := true, named := ["errors.errorType"], plainKeys := false, apart := false, laid := [("errors.errorType", laid_errors_errorType)], narrowed := true }
def CheckHoldsUptoSaid : Prop := checkHoldsUptoRow.holds Tryz.pinned (OpenSpec.upto checkHoldsSpec)

/-- 'gussetlaw24.CheckBegins', WHERE WHAT IT READS IS OF BULK AT MOST 1048576: true; the input reads as it did. -/
def checkBeginsUptoRow : OpenClaim := { program := "ytpigipgoopeeoaagreatdoor", sum := "d3d23e92b8a128b7e98c26d40ab7b9ac73cb3f5e477d7353937d4f87633ae9a4", func := "gusset/gussetlaw24.CheckBegins", spec := "checkBegins", inPlace := ["maps.clone", "internal/reflectlite.ValueOf", "(internal/reflectlite.Value).Type", "(internal/reflectlite.Value).IsNil", "internal/reflectlite.TypeOf", "(internal/reflectlite.Value).Elem", "(internal/reflectlite.Value).Set"], unfollowed := true, recurses := true, named := ["errors.errorType"], plainKeys := false, apart := false, laid := [("errors.errorType", laid_errors_errorType)], narrowed := true }
def CheckBeginsUptoSaid : Prop := checkBeginsUptoRow.holds Tryz.pinned (OpenSpec.upto checkBeginsSpec)

/-- 'gussetlaw24.CheckVerifies', WHERE WHAT IT READS IS OF BULK AT MOST 1048576: true; the input reads as it did. -/
def checkVerifiesUptoRow : OpenClaim := { program := "ytpigipgoopeeoaagreatdoor", sum := "d3d23e92b8a128b7e98c26d40ab7b9ac73cb3f5e477d7353937d4f87633ae9a4", func := "gusset/gussetlaw24.CheckVerifies", spec := "checkVerifies", inPlace := ["maps.clone", "internal/reflectlite.ValueOf", "(internal/reflectlite.Value).Type", "(internal/reflectlite.Value).IsNil", "internal/reflectlite.TypeOf", "(internal/reflectlite.Value).Elem", "(internal/reflectlite.Value).Set"], unfollowed := true, recurses := true, named := ["errors.errorType"], plainKeys := false, apart := false, laid := [("errors.errorType", laid_errors_errorType)], narrowed := true }
def CheckVerifiesUptoSaid : Prop := checkVerifiesUptoRow.holds Tryz.pinned (OpenSpec.upto checkVerifiesSpec)

/-- 'gussetlaw24.CheckOnce', WHERE WHAT IT READS IS OF BULK AT MOST 1048576: true; the input reads as it did. -/
def checkOnceUptoRow : OpenClaim := { program := "ytpigipgoopeeoaagreatdoor", sum := "d3d23e92b8a128b7e98c26d40ab7b9ac73cb3f5e477d7353937d4f87633ae9a4", func := "gusset/gussetlaw24.CheckOnce", spec := "checkOnce", inPlace := ["maps.clone", "internal/reflectlite.ValueOf", "(internal/reflectlite.Value).Type", "(internal/reflectlite.Value).IsNil", "internal/reflectlite.TypeOf", "(internal/reflectlite.Value).Elem", "(internal/reflectlite.Value).Set"], unfollowed := true, recurses := true, named := ["errors.errorType"], plainKeys := false, apart := false, laid := [("errors.errorType", laid_errors_errorType)], narrowed := true }
def CheckOnceUptoSaid : Prop := checkOnceUptoRow.holds Tryz.pinned (OpenSpec.upto checkOnceSpec)

/-- 'gussetlaw24.CheckOrders', WHERE WHAT IT READS IS OF BULK AT MOST 1048576: true; the input reads as it did. -/
def checkOrdersUptoRow : OpenClaim := { program := "ytpigipgoopeeoaagreatdoor", sum := "d3d23e92b8a128b7e98c26d40ab7b9ac73cb3f5e477d7353937d4f87633ae9a4", func := "gusset/gussetlaw24.CheckOrders", spec := "checkOrders", inPlace := ["maps.clone", "internal/reflectlite.ValueOf", "(internal/reflectlite.Value).Type", "(internal/reflectlite.Value).IsNil", "internal/reflectlite.TypeOf", "(internal/reflectlite.Value).Elem", "(internal/reflectlite.Value).Set"], unfollowed := true, recurses := true, named := ["errors.errorType"], plainKeys := false, apart := false, laid := [("errors.errorType", laid_errors_errorType)], narrowed := true }
def CheckOrdersUptoSaid : Prop := checkOrdersUptoRow.holds Tryz.pinned (OpenSpec.upto checkOrdersSpec)

end Rows
end Go.Proofs.YtpigipgoopeeoaaGreatDoor
