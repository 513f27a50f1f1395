/-
  NARROWER THAN 'FOR EVERY INPUT', by the rows' own cells (each row's printed sentence says how): GraphHops: laid · GraphPlays: laid · GraphPairs: laid · GraphAll: laid · GraphParts: laid · GraphBack: laid · GraphNil: laid.
  DERIVED. THE GIVEN ROWS OF THIS SEAT. 7 by the template 'for every input the law returns true; each argument reads behind the call as it read before'; 0 by the template 'total and deterministic' (their statements: YtbgjbikpenefoaaGreatDoorTotals.lean).
  GIVEN WITH THE SEED: the statements are not yours to turn. If you find one false, say at which input.
  Laid BY PROGRAM, IN A SANDBOX (cutbox-rows.mjs): the forced cells as the released guide's own fill.sh prints them over the translation 40e3216016963882… (all of the seat's roots in one cut). By AI agents, Wed Nov 11 2026. No macro, syntax, notation, axiom, sorry.
-/
import Derived.Test.YtbgjbikpenefoaaGreatDoorChecked
import GoSem.Claim
import GoSem.ClaimJoined
import GoSem.ClaimMapViews
import Derived.JoinedTies
import Derived.KernelRfl
namespace Go.Proofs.YtbgjbikpenefoaaGreatDoor
/- THE CELL 'sum', in the pinned program and in every row, IS THE sha256 OF THE DUMP (.gsa) THAT YtbgjbikpenefoaaGreatDoorProg.lean LOADS. Nothing in Lean hashes anything: it is a label: what it is worth is what the hold of that sum in a sandbox is worth. -/
noncomputable def Tryz.pinned : Pinned := { name := "ytbgjbikpenefoaagreatdoor", sum := "40e321601696388244fead5686e1b007fc923c86993c2be3c67d22a05e56fead", checked := Tryz.checked }
namespace Rows
def none {H : Type} : Left H := { results := [], args := [] }

/- WHAT THE LISTED PACKAGE-LEVEL VARIABLES READ AS WHEN THE CALL BEGINS. Each datum BY PROGRAM (the guide's laid-datum.mjs) off the statement by which the dump's own 'gosem.cut.vars' lays the variable. In a bare row this is a premise. The card (YtbgjbikpenefoaaGreatDoorCards.lean) ties it to the program's text. -/
def laid_errors_errorType {H : Type} : DataW H := .iface "internal/reflectlite.rtype" (.agg [.ptr (.lit (.string [101, 114, 114, 111, 114]))])

/-- 'gussetlaw03.GraphHops': WHATEVER THE INPUT: true; the input reads as it did. -/
def graphHopsSpec : ChangeSpec := { name := "graphHops", fn := fun _ => fun
  | [d1, d2, d3] => { results := [.lit (.bool true)], args := [d1, d2, d3] }
  | _ => none }
def graphHopsRow : OpenClaim := { program := "ytbgjbikpenefoaagreatdoor", sum := "40e321601696388244fead5686e1b007fc923c86993c2be3c67d22a05e56fead", func := "gusset/gussetlaw03.GraphHops", spec := "graphHops", inPlace := ["maps.clone", "internal/reflectlite.ValueOf", "(internal/reflectlite.Value).Type", "(internal/reflectlite.Value).IsNil", "internal/reflectlite.TypeOf", "(internal/reflectlite.Value).Elem", "(internal/reflectlite.Value).Set"], unfollowed := true, recurses := true, named := ["errors.errorType"], apart := false, laid := [("errors.errorType", laid_errors_errorType)] }
def GraphHopsSaid : Prop := graphHopsRow.holds Tryz.pinned (OpenSpec.ofChange graphHopsSpec)

/-- ITS FALSE NEIGHBOUR: 'it returns false'. Refute it at one input. -/
def graphHopsWrong : ChangeSpec := { name := "graphHops", fn := fun _ => fun
  | [d1, d2, d3] => { results := [.lit (.bool false)], args := [d1, d2, d3] }
  | _ => none }
def GraphHopsWrongFalsely : Prop := graphHopsRow.holds Tryz.pinned (OpenSpec.ofChange graphHopsWrong)

/-- 'gussetlaw03.GraphPlays': WHATEVER THE INPUT: true; the input reads as it did. -/
def graphPlaysSpec : ChangeSpec := { name := "graphPlays", fn := fun _ => fun
  | [d1, d2] => { results := [.lit (.bool true)], args := [d1, d2] }
  | _ => none }
def graphPlaysRow : OpenClaim := { program := "ytbgjbikpenefoaagreatdoor", sum := "40e321601696388244fead5686e1b007fc923c86993c2be3c67d22a05e56fead", func := "gusset/gussetlaw03.GraphPlays", spec := "graphPlays", inPlace := ["maps.clone", "internal/reflectlite.ValueOf", "(internal/reflectlite.Value).Type", "(internal/reflectlite.Value).IsNil", "internal/reflectlite.TypeOf", "(internal/reflectlite.Value).Elem", "(internal/reflectlite.Value).Set"], unfollowed := true, recurses := true, named := ["errors.errorType"], apart := false, laid := [("errors.errorType", laid_errors_errorType)] }
def GraphPlaysSaid : Prop := graphPlaysRow.holds Tryz.pinned (OpenSpec.ofChange graphPlaysSpec)

/-- ITS FALSE NEIGHBOUR: 'it returns false'. Refute it at one input. -/
def graphPlaysWrong : ChangeSpec := { name := "graphPlays", fn := fun _ => fun
  | [d1, d2] => { results := [.lit (.bool false)], args := [d1, d2] }
  | _ => none }
def GraphPlaysWrongFalsely : Prop := graphPlaysRow.holds Tryz.pinned (OpenSpec.ofChange graphPlaysWrong)

/-- 'gussetlaw03.GraphPairs': WHATEVER THE INPUT: true; the input reads as it did. -/
def graphPairsSpec : ChangeSpec := { name := "graphPairs", fn := fun _ => fun
  | [d] => { results := [.lit (.bool true)], args := [d] }
  | _ => none }
def graphPairsRow : OpenClaim := { program := "ytbgjbikpenefoaagreatdoor", sum := "40e321601696388244fead5686e1b007fc923c86993c2be3c67d22a05e56fead", func := "gusset/gussetlaw03.GraphPairs", spec := "graphPairs", inPlace := ["maps.clone", "internal/reflectlite.ValueOf", "(internal/reflectlite.Value).Type", "(internal/reflectlite.Value).IsNil", "internal/reflectlite.TypeOf", "(internal/reflectlite.Value).Elem", "(internal/reflectlite.Value).Set"], unfollowed := true, recurses := true, named := ["errors.errorType"], apart := false, laid := [("errors.errorType", laid_errors_errorType)] }
def GraphPairsSaid : Prop := graphPairsRow.holds Tryz.pinned (OpenSpec.ofChange graphPairsSpec)

/-- ITS FALSE NEIGHBOUR: 'it returns false'. Refute it at one input. -/
def graphPairsWrong : ChangeSpec := { name := "graphPairs", fn := fun _ => fun
  | [d] => { results := [.lit (.bool false)], args := [d] }
  | _ => none }
def GraphPairsWrongFalsely : Prop := graphPairsRow.holds Tryz.pinned (OpenSpec.ofChange graphPairsWrong)

/-- 'gussetlaw03.GraphAll': WHATEVER THE INPUT: true; the input reads as it did. -/
def graphAllSpec : ChangeSpec := { name := "graphAll", fn := fun _ => fun
  | [d1, d2] => { results := [.lit (.bool true)], args := [d1, d2] }
  | _ => none }
def graphAllRow : OpenClaim := { program := "ytbgjbikpenefoaagreatdoor", sum := "40e321601696388244fead5686e1b007fc923c86993c2be3c67d22a05e56fead", func := "gusset/gussetlaw03.GraphAll", spec := "graphAll", inPlace := ["maps.clone", "internal/reflectlite.ValueOf", "(internal/reflectlite.Value).Type", "(internal/reflectlite.Value).IsNil", "internal/reflectlite.TypeOf", "(internal/reflectlite.Value).Elem", "(internal/reflectlite.Value).Set"], unfollowed := true, recurses := true, named := ["errors.errorType"], apart := false, laid := [("errors.errorType", laid_errors_errorType)] }
def GraphAllSaid : Prop := graphAllRow.holds Tryz.pinned (OpenSpec.ofChange graphAllSpec)

/-- ITS FALSE NEIGHBOUR: 'it returns false'. Refute it at one input. -/
def graphAllWrong : ChangeSpec := { name := "graphAll", fn := fun _ => fun
  | [d1, d2] => { results := [.lit (.bool false)], args := [d1, d2] }
  | _ => none }
def GraphAllWrongFalsely : Prop := graphAllRow.holds Tryz.pinned (OpenSpec.ofChange graphAllWrong)

/-- 'gussetlaw03.GraphParts': WHATEVER THE INPUT: true; the input reads as it did. -/
def graphPartsSpec : ChangeSpec := { name := "graphParts", fn := fun _ => fun
  | [d1, d2] => { results := [.lit (.bool true)], args := [d1, d2] }
  | _ => none }
def graphPartsRow : OpenClaim := { program := "ytbgjbikpenefoaagreatdoor", sum := "40e321601696388244fead5686e1b007fc923c86993c2be3c67d22a05e56fead", func := "gusset/gussetlaw03.GraphParts", spec := "graphParts", inPlace := ["maps.clone", "internal/reflectlite.ValueOf", "(internal/reflectlite.Value).Type", "(internal/reflectlite.Value).IsNil", "internal/reflectlite.TypeOf", "(internal/reflectlite.Value).Elem", "(internal/reflectlite.Value).Set"], unfollowed := true, recurses := true, named := ["errors.errorType"], apart := false, laid := [("errors.errorType", laid_errors_errorType)] }
def GraphPartsSaid : Prop := graphPartsRow.holds Tryz.pinned (OpenSpec.ofChange graphPartsSpec)

/-- ITS FALSE NEIGHBOUR: 'it returns false'. Refute it at one input. -/
def graphPartsWrong : ChangeSpec := { name := "graphParts", fn := fun _ => fun
  | [d1, d2] => { results := [.lit (.bool false)], args := [d1, d2] }
  | _ => none }
def GraphPartsWrongFalsely : Prop := graphPartsRow.holds Tryz.pinned (OpenSpec.ofChange graphPartsWrong)

/-- 'gussetlaw03.GraphBack': WHATEVER THE INPUT: true; the input reads as it did. -/
def graphBackSpec : ChangeSpec := { name := "graphBack", fn := fun _ => fun
  | [d1, d2, d3, d4] => { results := [.lit (.bool true)], args := [d1, d2, d3, d4] }
  | _ => none }
def graphBackRow : OpenClaim := { program := "ytbgjbikpenefoaagreatdoor", sum := "40e321601696388244fead5686e1b007fc923c86993c2be3c67d22a05e56fead", func := "gusset/gussetlaw03.GraphBack", spec := "graphBack", inPlace := ["maps.clone", "internal/reflectlite.ValueOf", "(internal/reflectlite.Value).Type", "(internal/reflectlite.Value).IsNil", "internal/reflectlite.TypeOf", "(internal/reflectlite.Value).Elem", "(internal/reflectlite.Value).Set"], unfollowed := true, recurses := true, named := ["errors.errorType"], apart := false, laid := [("errors.errorType", laid_errors_errorType)] }
def GraphBackSaid : Prop := graphBackRow.holds Tryz.pinned (OpenSpec.ofChange graphBackSpec)

/-- ITS FALSE NEIGHBOUR: 'it returns false'. Refute it at one input. -/
def graphBackWrong : ChangeSpec := { name := "graphBack", fn := fun _ => fun
  | [d1, d2, d3, d4] => { results := [.lit (.bool false)], args := [d1, d2, d3, d4] }
  | _ => none }
def GraphBackWrongFalsely : Prop := graphBackRow.holds Tryz.pinned (OpenSpec.ofChange graphBackWrong)

/-- 'gussetlaw03.GraphNil': WHATEVER THE INPUT: true; the input reads as it did. -/
def graphNilSpec : ChangeSpec := { name := "graphNil", fn := fun _ => fun
  | [d1, d2] => { results := [.lit (.bool true)], args := [d1, d2] }
  | _ => none }
def graphNilRow : OpenClaim := { program := "ytbgjbikpenefoaagreatdoor", sum := "40e321601696388244fead5686e1b007fc923c86993c2be3c67d22a05e56fead", func := "gusset/gussetlaw03.GraphNil", spec := "graphNil", inPlace := ["maps.clone", "internal/reflectlite.ValueOf", "(internal/reflectlite.Value).Type", "(internal/reflectlite.Value).IsNil", "internal/reflectlite.TypeOf", "(internal/reflectlite.Value).Elem", "(internal/reflectlite.Value).Set"], unfollowed := true, recurses := true, named := ["errors.errorType"], apart := false, laid := [("errors.errorType", laid_errors_errorType)] }
def GraphNilSaid : Prop := graphNilRow.holds Tryz.pinned (OpenSpec.ofChange graphNilSpec)

/-- ITS FALSE NEIGHBOUR: 'it returns false'. Refute it at one input. -/
def graphNilWrong : ChangeSpec := { name := "graphNil", fn := fun _ => fun
  | [d1, d2] => { results := [.lit (.bool false)], args := [d1, d2] }
  | _ => none }
def GraphNilWrongFalsely : Prop := graphNilRow.holds Tryz.pinned (OpenSpec.ofChange graphNilWrong)

/- THE SECOND FORM. 'bulk': how many values and letters a reading holds, each counted each time it is reached (what is shared counts as often as it is met; a slice's spare places count too). A statement '..UptoSaid' is the law's where the arguments, and the package variables that the reading takes, are together of bulk at most 1048576: NARROWER than '..Said'. Prove '..Said' where nothing that the law and all that it calls make is longer than what came in: it says more and counts as full. Else prove '..UptoSaid'. A law counts once. -/
mutual
def uptoBulk {H : Type} : DataW H → Nat
  | .lit (.string bytes) => bytes.length + 1
  | .lit _ => 1
  | .nil => 1
  | .ptr d => uptoBulk d + 1
  | .slice elems spare => uptoBulkAll elems + uptoBulkAll spare + 1
  | .agg parts => uptoBulkAll parts + 1
  | .iface _ d => uptoBulk d + 1
  | .map entries => uptoBulkEntries entries + 1
  | .held _ => 1
def uptoBulkAll {H : Type} : List (DataW H) → Nat
  | [] => 0
  | d :: r => uptoBulk d + uptoBulkAll r
def uptoBulkEntries {H : Type} : List (Lit × DataW H) → Nat
  | [] => 0
  | x :: r => uptoBulkEntry x + uptoBulkEntries r
def uptoBulkEntry {H : Type} : Lit × DataW H → Nat
  | (.string bytes, d) => bytes.length + uptoBulk d + 1
  | (_, d) => uptoBulk d + 1
 end
def uptoSmall : (H : Type) → List (DataW H) → Bool := fun _ ds => decide (uptoBulkAll ds ≤ 1048576)
def OpenSpec.upto (s : _root_.Go.ChangeSpec) : _root_.Go.OpenSpec := { _root_.Go.OpenSpec.ofChange s with cond := some uptoSmall }

/-- 'gussetlaw03.GraphHops', WHERE WHAT IT READS IS OF BULK AT MOST 1048576: true; the input reads as it did. -/
def graphHopsUptoRow : OpenClaim := { program := "ytbgjbikpenefoaagreatdoor", sum := "40e321601696388244fead5686e1b007fc923c86993c2be3c67d22a05e56fead", func := "gusset/gussetlaw03.GraphHops", spec := "graphHops", inPlace := ["maps.clone", "internal/reflectlite.ValueOf", "(internal/reflectlite.Value).Type", "(internal/reflectlite.Value).IsNil", "internal/reflectlite.TypeOf", "(internal/reflectlite.Value).Elem", "(internal/reflectlite.Value).Set"], unfollowed := true, recurses := true, named := ["errors.errorType"], apart := false, laid := [("errors.errorType", laid_errors_errorType)], narrowed := true }
def GraphHopsUptoSaid : Prop := graphHopsUptoRow.holds Tryz.pinned (OpenSpec.upto graphHopsSpec)

/-- 'gussetlaw03.GraphPlays', WHERE WHAT IT READS IS OF BULK AT MOST 1048576: true; the input reads as it did. -/
def graphPlaysUptoRow : OpenClaim := { program := "ytbgjbikpenefoaagreatdoor", sum := "40e321601696388244fead5686e1b007fc923c86993c2be3c67d22a05e56fead", func := "gusset/gussetlaw03.GraphPlays", spec := "graphPlays", inPlace := ["maps.clone", "internal/reflectlite.ValueOf", "(internal/reflectlite.Value).Type", "(internal/reflectlite.Value).IsNil", "internal/reflectlite.TypeOf", "(internal/reflectlite.Value).Elem", "(internal/reflectlite.Value).Set"], unfollowed := true, recurses := true, named := ["errors.errorType"], apart := false, laid := [("errors.errorType", laid_errors_errorType)], narrowed := true }
def GraphPlaysUptoSaid : Prop := graphPlaysUptoRow.holds Tryz.pinned (OpenSpec.upto graphPlaysSpec)

/-- 'gussetlaw03.GraphPairs', WHERE WHAT IT READS IS OF BULK AT MOST 1048576: true; the input reads as it did. -/
def graphPairsUptoRow : OpenClaim := { program := "ytbgjbikpenefoaagreatdoor", sum := "40e321601696388244fead5686e1b007fc923c86993c2be3c67d22a05e56fead", func := "gusset/gussetlaw03.GraphPairs", spec := "graphPairs", inPlace := ["maps.clone", "internal/reflectlite.ValueOf", "(internal/reflectlite.Value).Type", "(internal/reflectlite.Value).IsNil", "internal/reflectlite.TypeOf", "(internal/reflectlite.Value).Elem", "(internal/reflectlite.Value).Set"], unfollowed := true, recurses := true, named := ["errors.errorType"], apart := false, laid := [("errors.errorType", laid_errors_errorType)], narrowed := true }
def GraphPairsUptoSaid : Prop := graphPairsUptoRow.holds Tryz.pinned (OpenSpec.upto graphPairsSpec)

/-- 'gussetlaw03.GraphAll', WHERE WHAT IT READS IS OF BULK AT MOST 1048576: true; the input reads as it did. -/
def graphAllUptoRow : OpenClaim := { program := "ytbgjbikpenefoaagreatdoor", sum := "40e321601696388244fead5686e1b007fc923c86993c2be3c67d22a05e56fead", func := "gusset/gussetlaw03.GraphAll", spec := "graphAll", inPlace := ["maps.clone", "internal/reflectlite.ValueOf", "(internal/reflectlite.Value).Type", "(internal/reflectlite.Value).IsNil", "internal/reflectlite.TypeOf", "(internal/reflectlite.Value).Elem", "(internal/reflectlite.Value).Set"], unfollowed := true, recurses := true, named := ["errors.errorType"], apart := false, laid := [("errors.errorType", laid_errors_errorType)], narrowed := true }
def GraphAllUptoSaid : Prop := graphAllUptoRow.holds Tryz.pinned (OpenSpec.upto graphAllSpec)

/-- 'gussetlaw03.GraphParts', WHERE WHAT IT READS IS OF BULK AT MOST 1048576: true; the input reads as it did. -/
def graphPartsUptoRow : OpenClaim := { program := "ytbgjbikpenefoaagreatdoor", sum := "40e321601696388244fead5686e1b007fc923c86993c2be3c67d22a05e56fead", func := "gusset/gussetlaw03.GraphParts", spec := "graphParts", inPlace := ["maps.clone", "internal/reflectlite.ValueOf", "(internal/reflectlite.Value).Type", "(internal/reflectlite.Value).IsNil", "internal/reflectlite.TypeOf", "(internal/reflectlite.Value).Elem", "(internal/reflectlite.Value).Set"], unfollowed := true, recurses := true, named := ["errors.errorType"], apart := false, laid := [("errors.errorType", laid_errors_errorType)], narrowed := true }
def GraphPartsUptoSaid : Prop := graphPartsUptoRow.holds Tryz.pinned (OpenSpec.upto graphPartsSpec)

/-- 'gussetlaw03.GraphBack', WHERE WHAT IT READS IS OF BULK AT MOST 1048576: true; the input reads as it did. -/
def graphBackUptoRow : OpenClaim := { program := "ytbgjbikpenefoaagreatdoor", sum := "40e321601696388244fead5686e1b007fc923c86993c2be3c67d22a05e56fead", func := "gusset/gussetlaw03.GraphBack", spec := "graphBack", inPlace := ["maps.clone", "internal/reflectlite.ValueOf", "(internal/reflectlite.Value).Type", "(internal/reflectlite.Value).IsNil", "internal/reflectlite.TypeOf", "(internal/reflectlite.Value).Elem", "(internal/reflectlite.Value).Set"], unfollowed := true, recurses := true, named := ["errors.errorType"], apart := false, laid := [("errors.errorType", laid_errors_errorType)], narrowed := true }
def GraphBackUptoSaid : Prop := graphBackUptoRow.holds Tryz.pinned (OpenSpec.upto graphBackSpec)

/-- 'gussetlaw03.GraphNil', WHERE WHAT IT READS IS OF BULK AT MOST 1048576: true; the input reads as it did. -/
def graphNilUptoRow : OpenClaim := { program := "ytbgjbikpenefoaagreatdoor", sum := "40e321601696388244fead5686e1b007fc923c86993c2be3c67d22a05e56fead", func := "gusset/gussetlaw03.GraphNil", spec := "graphNil", inPlace := ["maps.clone", "internal/reflectlite.ValueOf", "(internal/reflectlite.Value).Type", "(internal/reflectlite.Value).IsNil", "internal/reflectlite.TypeOf", "(internal/reflectlite.Value).Elem", "(internal/reflectlite.Value).Set"], unfollowed := true, recurses := true, named := ["errors.errorType"], apart := false, laid := [("errors.errorType", laid_errors_errorType)], narrowed := true }
def GraphNilUptoSaid : Prop := graphNilUptoRow.holds Tryz.pinned (OpenSpec.upto graphNilSpec)

end Rows
end Go.Proofs.YtbgjbikpenefoaaGreatDoor
