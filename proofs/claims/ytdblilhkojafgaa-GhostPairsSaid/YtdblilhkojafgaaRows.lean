/-
  No cell of these rows narrows 'for every input' (looked for: loops, veiled, ifaces, maps, wideKeys, modest, calm, conditions, laid).
  DERIVED. THE GIVEN ROWS OF THIS SEAT. 7 by the template 'for every input the law returns true; each argument reads behind the call as it read before'; 0 by the template 'total and deterministic' (their statements: YtdblilhkojafgaaTotals.lean).
  GIVEN WITH THE SEED: the statements are not yours to turn. If you find one false, say at which input.
  Laid BY PROGRAM, IN A SANDBOX (cutbox-rows.mjs): the forced cells as the released guide's own fill.sh prints them over the translation e72bfcf712d9ad16… (all of the seat's roots in one cut). By AI agents, Wed Nov 11 2026. No macro, syntax, notation, axiom, sorry.
-/
import Derived.Test.YtdblilhkojafgaaChecked
import GoSem.Claim
import GoSem.ClaimJoined
import GoSem.ClaimMapViews
import Derived.JoinedTies
import Derived.KernelRfl
namespace Go.Proofs.Ytdblilhkojafgaa
/- THE CELL 'sum', in the pinned program and in every row, IS THE sha256 OF THE DUMP (.gsa) THAT YtdblilhkojafgaaProg.lean LOADS. Nothing in Lean hashes anything: it is a label: what it is worth is what the hold of that sum in a sandbox is worth. -/
noncomputable def Try.pinned : Pinned := { name := "ytdblilhkojafgaa", sum := "e72bfcf712d9ad16a5226f926f22a6afe3ee1409b6542aae3d77754968478aba", checked := Try.checked }
namespace Rows
def none {H : Type} : Left H := { results := [], args := [] }

/-- 'gussetlaw23.RepairTurns': WHATEVER THE INPUT: true; the input reads as it did. -/
def repairTurnsSpec : ChangeSpec := { name := "repairTurns", fn := fun _ => fun
  | [d1, d2, d3] => { results := [.lit (.bool true)], args := [d1, d2, d3] }
  | _ => none }
def repairTurnsRow : OpenClaim := { program := "ytdblilhkojafgaa", sum := "e72bfcf712d9ad16a5226f926f22a6afe3ee1409b6542aae3d77754968478aba", func := "gusset/gussetlaw23.RepairTurns", spec := "repairTurns", unfollowed := true, recurses := true, apart := false }
def RepairTurnsSaid : Prop := repairTurnsRow.holds Try.pinned (OpenSpec.ofChange repairTurnsSpec)

/-- ITS FALSE NEIGHBOUR: 'it returns false'. Refute it at one input. -/
def repairTurnsWrong : ChangeSpec := { name := "repairTurns", fn := fun _ => fun
  | [d1, d2, d3] => { results := [.lit (.bool false)], args := [d1, d2, d3] }
  | _ => none }
def RepairTurnsWrongFalsely : Prop := repairTurnsRow.holds Try.pinned (OpenSpec.ofChange repairTurnsWrong)

/-- 'gussetlaw12.GhostPairs': WHATEVER THE INPUT: true; the input reads as it did. -/
def ghostPairsSpec : ChangeSpec := { name := "ghostPairs", fn := fun _ => fun
  | [d1, d2] => { results := [.lit (.bool true)], args := [d1, d2] }
  | _ => none }
def ghostPairsRow : OpenClaim := { program := "ytdblilhkojafgaa", sum := "e72bfcf712d9ad16a5226f926f22a6afe3ee1409b6542aae3d77754968478aba", func := "gusset/gussetlaw12.GhostPairs", spec := "ghostPairs", unfollowed := true, recurses := true, apart := false }
def GhostPairsSaid : Prop := ghostPairsRow.holds Try.pinned (OpenSpec.ofChange ghostPairsSpec)

/-- ITS FALSE NEIGHBOUR: 'it returns false'. Refute it at one input. -/
def ghostPairsWrong : ChangeSpec := { name := "ghostPairs", fn := fun _ => fun
  | [d1, d2] => { results := [.lit (.bool false)], args := [d1, d2] }
  | _ => none }
def GhostPairsWrongFalsely : Prop := ghostPairsRow.holds Try.pinned (OpenSpec.ofChange ghostPairsWrong)

/-- 'gussetlaw12.GhostCounts': WHATEVER THE INPUT: true; the input reads as it did. -/
def ghostCountsSpec : ChangeSpec := { name := "ghostCounts", fn := fun _ => fun
  | [d] => { results := [.lit (.bool true)], args := [d] }
  | _ => none }
def ghostCountsRow : OpenClaim := { program := "ytdblilhkojafgaa", sum := "e72bfcf712d9ad16a5226f926f22a6afe3ee1409b6542aae3d77754968478aba", func := "gusset/gussetlaw12.GhostCounts", spec := "ghostCounts", unfollowed := true, recurses := true, apart := false }
def GhostCountsSaid : Prop := ghostCountsRow.holds Try.pinned (OpenSpec.ofChange ghostCountsSpec)

/-- ITS FALSE NEIGHBOUR: 'it returns false'. Refute it at one input. -/
def ghostCountsWrong : ChangeSpec := { name := "ghostCounts", fn := fun _ => fun
  | [d] => { results := [.lit (.bool false)], args := [d] }
  | _ => none }
def GhostCountsWrongFalsely : Prop := ghostCountsRow.holds Try.pinned (OpenSpec.ofChange ghostCountsWrong)

/-- 'gussetlaw12.GhostTallies': WHATEVER THE INPUT: true; the input reads as it did. -/
def ghostTalliesSpec : ChangeSpec := { name := "ghostTallies", fn := fun _ => fun
  | [d1, d2] => { results := [.lit (.bool true)], args := [d1, d2] }
  | _ => none }
def ghostTalliesRow : OpenClaim := { program := "ytdblilhkojafgaa", sum := "e72bfcf712d9ad16a5226f926f22a6afe3ee1409b6542aae3d77754968478aba", func := "gusset/gussetlaw12.GhostTallies", spec := "ghostTallies", unfollowed := true, recurses := true, apart := false }
def GhostTalliesSaid : Prop := ghostTalliesRow.holds Try.pinned (OpenSpec.ofChange ghostTalliesSpec)

/-- ITS FALSE NEIGHBOUR: 'it returns false'. Refute it at one input. -/
def ghostTalliesWrong : ChangeSpec := { name := "ghostTallies", fn := fun _ => fun
  | [d1, d2] => { results := [.lit (.bool false)], args := [d1, d2] }
  | _ => none }
def GhostTalliesWrongFalsely : Prop := ghostTalliesRow.holds Try.pinned (OpenSpec.ofChange ghostTalliesWrong)

/-- 'gussetlaw12.GhostMoves': WHATEVER THE INPUT: true; the input reads as it did. -/
def ghostMovesSpec : ChangeSpec := { name := "ghostMoves", fn := fun _ => fun
  | [d1, d2, d3] => { results := [.lit (.bool true)], args := [d1, d2, d3] }
  | _ => none }
def ghostMovesRow : OpenClaim := { program := "ytdblilhkojafgaa", sum := "e72bfcf712d9ad16a5226f926f22a6afe3ee1409b6542aae3d77754968478aba", func := "gusset/gussetlaw12.GhostMoves", spec := "ghostMoves", unfollowed := true, recurses := true, apart := false }
def GhostMovesSaid : Prop := ghostMovesRow.holds Try.pinned (OpenSpec.ofChange ghostMovesSpec)

/-- ITS FALSE NEIGHBOUR: 'it returns false'. Refute it at one input. -/
def ghostMovesWrong : ChangeSpec := { name := "ghostMoves", fn := fun _ => fun
  | [d1, d2, d3] => { results := [.lit (.bool false)], args := [d1, d2, d3] }
  | _ => none }
def GhostMovesWrongFalsely : Prop := ghostMovesRow.holds Try.pinned (OpenSpec.ofChange ghostMovesWrong)

/-- 'gussetlaw12.GhostNil': WHATEVER THE INPUT: true; the input reads as it did. -/
def ghostNilSpec : ChangeSpec := { name := "ghostNil", fn := fun _ => fun
  | [d] => { results := [.lit (.bool true)], args := [d] }
  | _ => none }
def ghostNilRow : OpenClaim := { program := "ytdblilhkojafgaa", sum := "e72bfcf712d9ad16a5226f926f22a6afe3ee1409b6542aae3d77754968478aba", func := "gusset/gussetlaw12.GhostNil", spec := "ghostNil", unfollowed := true, recurses := true, apart := false }
def GhostNilSaid : Prop := ghostNilRow.holds Try.pinned (OpenSpec.ofChange ghostNilSpec)

/-- ITS FALSE NEIGHBOUR: 'it returns false'. Refute it at one input. -/
def ghostNilWrong : ChangeSpec := { name := "ghostNil", fn := fun _ => fun
  | [d] => { results := [.lit (.bool false)], args := [d] }
  | _ => none }
def GhostNilWrongFalsely : Prop := ghostNilRow.holds Try.pinned (OpenSpec.ofChange ghostNilWrong)

/-- 'gussetlaw12.GhostOrder': WHATEVER THE INPUT: true; the input reads as it did. -/
def ghostOrderSpec : ChangeSpec := { name := "ghostOrder", fn := fun _ => fun
  | [d1, d2] => { results := [.lit (.bool true)], args := [d1, d2] }
  | _ => none }
def ghostOrderRow : OpenClaim := { program := "ytdblilhkojafgaa", sum := "e72bfcf712d9ad16a5226f926f22a6afe3ee1409b6542aae3d77754968478aba", func := "gusset/gussetlaw12.GhostOrder", spec := "ghostOrder", unfollowed := true, recurses := true, apart := false }
def GhostOrderSaid : Prop := ghostOrderRow.holds Try.pinned (OpenSpec.ofChange ghostOrderSpec)

/-- ITS FALSE NEIGHBOUR: 'it returns false'. Refute it at one input. -/
def ghostOrderWrong : ChangeSpec := { name := "ghostOrder", fn := fun _ => fun
  | [d1, d2] => { results := [.lit (.bool false)], args := [d1, d2] }
  | _ => none }
def GhostOrderWrongFalsely : Prop := ghostOrderRow.holds Try.pinned (OpenSpec.ofChange ghostOrderWrong)

/- THE SECOND FORM. 'bulk': how many values and letters a reading holds, each counted each time it is reached (what is shared counts as often as it is met; a slice's spare places count too). A statement '..UptoSaid' is the law's where the arguments, and the package variables that the reading takes, are together of bulk at most 1048576: NARROWER than '..Said'. Prove '..Said' where nothing that the law and all that it calls make is longer than what came in: it says more and counts as full. Else prove '..UptoSaid'. A law counts once. -/
mutual
def uptoBulk {H : Type} : DataW H → Nat
  | .lit (.string bytes) => bytes.length + 1
  | .lit _ => 1
  | .nil => 1
  | .ptr d => uptoBulk d + 1
  | .slice elems spare => uptoBulkAll elems + uptoBulkAll spare + 1
  | .agg parts => uptoBulkAll parts + 1
  | .iface _ d => uptoBulk d + 1
  | .map entries => uptoBulkEntries entries + 1
  | .held _ => 1
def uptoBulkAll {H : Type} : List (DataW H) → Nat
  | [] => 0
  | d :: r => uptoBulk d + uptoBulkAll r
def uptoBulkEntries {H : Type} : List (Lit × DataW H) → Nat
  | [] => 0
  | x :: r => uptoBulkEntry x + uptoBulkEntries r
def uptoBulkEntry {H : Type} : Lit × DataW H → Nat
  | (.string bytes, d) => bytes.length + uptoBulk d + 1
  | (_, d) => uptoBulk d + 1
 end
def uptoSmall : (H : Type) → List (DataW H) → Bool := fun _ ds => decide (uptoBulkAll ds ≤ 1048576)
def OpenSpec.upto (s : _root_.Go.ChangeSpec) : _root_.Go.OpenSpec := { _root_.Go.OpenSpec.ofChange s with cond := some uptoSmall }

/-- 'gussetlaw23.RepairTurns', WHERE WHAT IT READS IS OF BULK AT MOST 1048576: true; the input reads as it did. -/
def repairTurnsUptoRow : OpenClaim := { program := "ytdblilhkojafgaa", sum := "e72bfcf712d9ad16a5226f926f22a6afe3ee1409b6542aae3d77754968478aba", func := "gusset/gussetlaw23.RepairTurns", spec := "repairTurns", unfollowed := true, recurses := true, apart := false, narrowed := true }
def RepairTurnsUptoSaid : Prop := repairTurnsUptoRow.holds Try.pinned (OpenSpec.upto repairTurnsSpec)

/-- 'gussetlaw12.GhostPairs', WHERE WHAT IT READS IS OF BULK AT MOST 1048576: true; the input reads as it did. -/
def ghostPairsUptoRow : OpenClaim := { program := "ytdblilhkojafgaa", sum := "e72bfcf712d9ad16a5226f926f22a6afe3ee1409b6542aae3d77754968478aba", func := "gusset/gussetlaw12.GhostPairs", spec := "ghostPairs", unfollowed := true, recurses := true, apart := false, narrowed := true }
def GhostPairsUptoSaid : Prop := ghostPairsUptoRow.holds Try.pinned (OpenSpec.upto ghostPairsSpec)

/-- 'gussetlaw12.GhostCounts', WHERE WHAT IT READS IS OF BULK AT MOST 1048576: true; the input reads as it did. -/
def ghostCountsUptoRow : OpenClaim := { program := "ytdblilhkojafgaa", sum := "e72bfcf712d9ad16a5226f926f22a6afe3ee1409b6542aae3d77754968478aba", func := "gusset/gussetlaw12.GhostCounts", spec := "ghostCounts", unfollowed := true, recurses := true, apart := false, narrowed := true }
def GhostCountsUptoSaid : Prop := ghostCountsUptoRow.holds Try.pinned (OpenSpec.upto ghostCountsSpec)

/-- 'gussetlaw12.GhostTallies', WHERE WHAT IT READS IS OF BULK AT MOST 1048576: true; the input reads as it did. -/
def ghostTalliesUptoRow : OpenClaim := { program := "ytdblilhkojafgaa", sum := "e72bfcf712d9ad16a5226f926f22a6afe3ee1409b6542aae3d77754968478aba", func := "gusset/gussetlaw12.GhostTallies", spec := "ghostTallies", unfollowed := true, recurses := true, apart := false, narrowed := true }
def GhostTalliesUptoSaid : Prop := ghostTalliesUptoRow.holds Try.pinned (OpenSpec.upto ghostTalliesSpec)

/-- 'gussetlaw12.GhostMoves', WHERE WHAT IT READS IS OF BULK AT MOST 1048576: true; the input reads as it did. -/
def ghostMovesUptoRow : OpenClaim := { program := "ytdblilhkojafgaa", sum := "e72bfcf712d9ad16a5226f926f22a6afe3ee1409b6542aae3d77754968478aba", func := "gusset/gussetlaw12.GhostMoves", spec := "ghostMoves", unfollowed := true, recurses := true, apart := false, narrowed := true }
def GhostMovesUptoSaid : Prop := ghostMovesUptoRow.holds Try.pinned (OpenSpec.upto ghostMovesSpec)

/-- 'gussetlaw12.GhostNil', WHERE WHAT IT READS IS OF BULK AT MOST 1048576: true; the input reads as it did. -/
def ghostNilUptoRow : OpenClaim := { program := "ytdblilhkojafgaa", sum := "e72bfcf712d9ad16a5226f926f22a6afe3ee1409b6542aae3d77754968478aba", func := "gusset/gussetlaw12.GhostNil", spec := "ghostNil", unfollowed := true, recurses := true, apart := false, narrowed := true }
def GhostNilUptoSaid : Prop := ghostNilUptoRow.holds Try.pinned (OpenSpec.upto ghostNilSpec)

/-- 'gussetlaw12.GhostOrder', WHERE WHAT IT READS IS OF BULK AT MOST 1048576: true; the input reads as it did. -/
def ghostOrderUptoRow : OpenClaim := { program := "ytdblilhkojafgaa", sum := "e72bfcf712d9ad16a5226f926f22a6afe3ee1409b6542aae3d77754968478aba", func := "gusset/gussetlaw12.GhostOrder", spec := "ghostOrder", unfollowed := true, recurses := true, apart := false, narrowed := true }
def GhostOrderUptoSaid : Prop := ghostOrderUptoRow.holds Try.pinned (OpenSpec.upto ghostOrderSpec)

end Rows
end Go.Proofs.Ytdblilhkojafgaa
