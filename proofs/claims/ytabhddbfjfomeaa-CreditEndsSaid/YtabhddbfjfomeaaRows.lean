/-
  No cell of these rows narrows 'for every input' (looked for: loops, veiled, ifaces, maps, wideKeys, modest, calm, conditions, laid).
  DERIVED. THE GIVEN ROWS OF THIS SEAT. 4 by the template 'for every input the law returns true; each argument reads behind the call as it read before'; 0 by the template 'total and deterministic' (their statements: YtabhddbfjfomeaaTotals.lean).
  GIVEN WITH THE SEED: the statements are not yours to turn. If you find one false, say at which input.
  Laid BY PROGRAM, IN A SANDBOX (cutbox-rows.mjs): the forced cells as the released guide's own fill.sh prints them over the translation ea3f9d1ccc378753… (all of the seat's roots in one cut). By AI agents, Wed Nov 11 2026. No macro, syntax, notation, axiom, sorry.
-/
import Derived.Test.YtabhddbfjfomeaaChecked
import GoSem.Claim
import GoSem.ClaimJoined
import GoSem.ClaimMapViews
import Derived.JoinedTies
import Derived.KernelRfl
namespace Go.Proofs.Ytabhddbfjfomeaa
/- THE CELL 'sum', in the pinned program and in every row, IS THE sha256 OF THE DUMP (.gsa) THAT YtabhddbfjfomeaaProg.lean LOADS. Nothing in Lean hashes anything: it is a label: what it is worth is what the hold of that sum in a sandbox is worth. -/
noncomputable def Try.pinned : Pinned := { name := "ytabhddbfjfomeaa", sum := "ea3f9d1ccc378753738e0e7e845562a194846527b80afbf90ddd38481f32b028", checked := Try.checked }
namespace Rows
def none {H : Type} : Left H := { results := [], args := [] }

/-- 'gussetlaw17.CreditSplits': WHATEVER THE INPUT: true; the input reads as it did. -/
def creditSplitsSpec : ChangeSpec := { name := "creditSplits", fn := fun _ => fun
  | [d1, d2] => { results := [.lit (.bool true)], args := [d1, d2] }
  | _ => none }
def creditSplitsRow : OpenClaim := { program := "ytabhddbfjfomeaa", sum := "ea3f9d1ccc378753738e0e7e845562a194846527b80afbf90ddd38481f32b028", func := "gusset/gussetlaw17.CreditSplits", spec := "creditSplits", plainKeys := false, apart := false }
def CreditSplitsSaid : Prop := creditSplitsRow.holds Try.pinned (OpenSpec.ofChange creditSplitsSpec)

/-- ITS FALSE NEIGHBOUR: 'it returns false'. Refute it at one input. -/
def creditSplitsWrong : ChangeSpec := { name := "creditSplits", fn := fun _ => fun
  | [d1, d2] => { results := [.lit (.bool false)], args := [d1, d2] }
  | _ => none }
def CreditSplitsWrongFalsely : Prop := creditSplitsRow.holds Try.pinned (OpenSpec.ofChange creditSplitsWrong)

/-- 'gussetlaw17.CreditEnds': WHATEVER THE INPUT: true; the input reads as it did. -/
def creditEndsSpec : ChangeSpec := { name := "creditEnds", fn := fun _ => fun
  | [d1, d2] => { results := [.lit (.bool true)], args := [d1, d2] }
  | _ => none }
def creditEndsRow : OpenClaim := { program := "ytabhddbfjfomeaa", sum := "ea3f9d1ccc378753738e0e7e845562a194846527b80afbf90ddd38481f32b028", func := "gusset/gussetlaw17.CreditEnds", spec := "creditEnds", plainKeys := false, apart := false }
def CreditEndsSaid : Prop := creditEndsRow.holds Try.pinned (OpenSpec.ofChange creditEndsSpec)

/-- ITS FALSE NEIGHBOUR: 'it returns false'. Refute it at one input. -/
def creditEndsWrong : ChangeSpec := { name := "creditEnds", fn := fun _ => fun
  | [d1, d2] => { results := [.lit (.bool false)], args := [d1, d2] }
  | _ => none }
def CreditEndsWrongFalsely : Prop := creditEndsRow.holds Try.pinned (OpenSpec.ofChange creditEndsWrong)

/-- 'gussetlaw17.CreditLost': WHATEVER THE INPUT: true; the input reads as it did. -/
def creditLostSpec : ChangeSpec := { name := "creditLost", fn := fun _ => fun
  | [d1, d2] => { results := [.lit (.bool true)], args := [d1, d2] }
  | _ => none }
def creditLostRow : OpenClaim := { program := "ytabhddbfjfomeaa", sum := "ea3f9d1ccc378753738e0e7e845562a194846527b80afbf90ddd38481f32b028", func := "gusset/gussetlaw17.CreditLost", spec := "creditLost", plainKeys := false, apart := false }
def CreditLostSaid : Prop := creditLostRow.holds Try.pinned (OpenSpec.ofChange creditLostSpec)

/-- ITS FALSE NEIGHBOUR: 'it returns false'. Refute it at one input. -/
def creditLostWrong : ChangeSpec := { name := "creditLost", fn := fun _ => fun
  | [d1, d2] => { results := [.lit (.bool false)], args := [d1, d2] }
  | _ => none }
def CreditLostWrongFalsely : Prop := creditLostRow.holds Try.pinned (OpenSpec.ofChange creditLostWrong)

/-- 'gussetlaw17.CreditDeep': WHATEVER THE INPUT: true; the input reads as it did. -/
def creditDeepSpec : ChangeSpec := { name := "creditDeep", fn := fun _ => fun
  | [d] => { results := [.lit (.bool true)], args := [d] }
  | _ => none }
def creditDeepRow : OpenClaim := { program := "ytabhddbfjfomeaa", sum := "ea3f9d1ccc378753738e0e7e845562a194846527b80afbf90ddd38481f32b028", func := "gusset/gussetlaw17.CreditDeep", spec := "creditDeep", plainKeys := false, apart := false }
def CreditDeepSaid : Prop := creditDeepRow.holds Try.pinned (OpenSpec.ofChange creditDeepSpec)

/-- ITS FALSE NEIGHBOUR: 'it returns false'. Refute it at one input. -/
def creditDeepWrong : ChangeSpec := { name := "creditDeep", fn := fun _ => fun
  | [d] => { results := [.lit (.bool false)], args := [d] }
  | _ => none }
def CreditDeepWrongFalsely : Prop := creditDeepRow.holds Try.pinned (OpenSpec.ofChange creditDeepWrong)

/- THE SECOND FORM. 'bulk': how many values and letters a reading holds, each counted each time it is reached (what is shared counts as often as it is met; a slice's spare places count too). A statement '..UptoSaid' is the law's where the arguments, and the package variables that the reading takes, are together of bulk at most 1048576: NARROWER than '..Said'. Prove '..Said' where nothing that the law and all that it calls make is longer than what came in: it says more and counts as full. Else prove '..UptoSaid'. A law counts once. -/
mutual
def uptoBulk {H : Type} : DataW H → Nat
  | .lit (.string bytes) => bytes.length + 1
  | .lit _ => 1
  | .nil => 1
  | .ptr d => uptoBulk d + 1
  | .slice elems spare => uptoBulkAll elems + uptoBulkAll spare + 1
  | .agg parts => uptoBulkAll parts + 1
  | .iface _ d => uptoBulk d + 1
  | .map entries => uptoBulkEntries entries + 1
  | .held _ => 1
def uptoBulkAll {H : Type} : List (DataW H) → Nat
  | [] => 0
  | d :: r => uptoBulk d + uptoBulkAll r
def uptoBulkEntries {H : Type} : List (Lit × DataW H) → Nat
  | [] => 0
  | x :: r => uptoBulkEntry x + uptoBulkEntries r
def uptoBulkEntry {H : Type} : Lit × DataW H → Nat
  | (.string bytes, d) => bytes.length + uptoBulk d + 1
  | (_, d) => uptoBulk d + 1
 end
def uptoSmall : (H : Type) → List (DataW H) → Bool := fun _ ds => decide (uptoBulkAll ds ≤ 1048576)
def OpenSpec.upto (s : _root_.Go.ChangeSpec) : _root_.Go.OpenSpec := { _root_.Go.OpenSpec.ofChange s with cond := some uptoSmall }

/-- 'gussetlaw17.CreditSplits', WHERE WHAT IT READS IS OF BULK AT MOST 1048576: true; the input reads as it did. -/
def creditSplitsUptoRow : OpenClaim := { program := "ytabhddbfjfomeaa", sum := "ea3f9d1ccc378753738e0e7e845562a194846527b80afbf90ddd38481f32b028", func := "gusset/gussetlaw17.CreditSplits", spec := "creditSplits", plainKeys := false, apart := false, narrowed := true }
def CreditSplitsUptoSaid : Prop := creditSplitsUptoRow.holds Try.pinned (OpenSpec.upto creditSplitsSpec)

/-- 'gussetlaw17.CreditEnds', WHERE WHAT IT READS IS OF BULK AT MOST 1048576: true; the input reads as it did. -/
def creditEndsUptoRow : OpenClaim := { program := "ytabhddbfjfomeaa", sum := "ea3f9d1ccc378753738e0e7e845562a194846527b80afbf90ddd38481f32b028", func := "gusset/gussetlaw17.CreditEnds", spec := "creditEnds", plainKeys := false, apart := false, narrowed := true }
def CreditEndsUptoSaid : Prop := creditEndsUptoRow.holds Try.pinned (OpenSpec.upto creditEndsSpec)

/-- 'gussetlaw17.CreditLost', WHERE WHAT IT READS IS OF BULK AT MOST 1048576: true; the input reads as it did. -/
def creditLostUptoRow : OpenClaim := { program := "ytabhddbfjfomeaa", sum := "ea3f9d1ccc378753738e0e7e845562a194846527b80afbf90ddd38481f32b028", func := "gusset/gussetlaw17.CreditLost", spec := "creditLost", plainKeys := false, apart := false, narrowed := true }
def CreditLostUptoSaid : Prop := creditLostUptoRow.holds Try.pinned (OpenSpec.upto creditLostSpec)

/-- 'gussetlaw17.CreditDeep', WHERE WHAT IT READS IS OF BULK AT MOST 1048576: true; the input reads as it did. -/
def creditDeepUptoRow : OpenClaim := { program := "ytabhddbfjfomeaa", sum := "ea3f9d1ccc378753738e0e7e845562a194846527b80afbf90ddd38481f32b028", func := "gusset/gussetlaw17.CreditDeep", spec := "creditDeep", plainKeys := false, apart := false, narrowed := true }
def CreditDeepUptoSaid : Prop := creditDeepUptoRow.holds Try.pinned (OpenSpec.upto creditDeepSpec)

end Rows
end Go.Proofs.Ytabhddbfjfomeaa
