/-
  NARROWER THAN 'FOR EVERY INPUT', by the rows' own cells (each row's printed sentence says how): RankNumbers: laid · RankTexts: laid · RankRows: laid · RankWrites: laid · RankReads: laid · RankApart: laid.
  DERIVED. THE GIVEN ROWS OF THIS SEAT. 6 by the template 'for every input the law returns true; each argument reads behind the call as it read before'; 0 by the template 'total and deterministic' (their statements: YtggbohdgcalblaaDoorTotals.lean).
  GIVEN WITH THE SEED: the statements are not yours to turn. If you find one false, say at which input.
  Laid BY PROGRAM, IN A SANDBOX (cutbox-rows.mjs): the forced cells as the released guide's own fill.sh prints them over the translation 2316d7967ad58a6d… (all of the seat's roots in one cut). By AI agents, Wed Nov 11 2026. No macro, syntax, notation, axiom, sorry.
-/
import Derived.Test.YtggbohdgcalblaaDoorChecked
import GoSem.PinnedTables
import GoSem.Claim
import GoSem.ClaimJoined
import GoSem.ClaimMapViews
import Derived.JoinedTies
import Derived.KernelRfl
namespace Go.Proofs.YtggbohdgcalblaaDoor
/- THE CELL 'sum', in the pinned program and in every row, IS THE sha256 OF THE DUMP (.gsa) THAT YtggbohdgcalblaaDoorProg.lean LOADS. Nothing in Lean hashes anything: it is a label: what it is worth is what the hold of that sum in a sandbox is worth. -/
noncomputable def Tryd.pinned : Pinned := { name := "ytggbohdgcalblaadoor", sum := "2316d7967ad58a6d2f9bd27d21a004e0db4528b48d839e81be7c0fbb098848bb", checked := Tryd.checked }
namespace Rows
def none {H : Type} : Left H := { results := [], args := [] }

/- WHAT THE LISTED PACKAGE-LEVEL VARIABLES READ AS WHEN THE CALL BEGINS. Each datum BY PROGRAM (the guide's laid-datum.mjs) off the statement by which the dump's own 'gosem.cut.vars' lays the variable. In a bare row this is a premise. The card (YtggbohdgcalblaaDoorCards.lean) ties it to the program's text. -/
def laid_unicode_utf8_acceptRanges {H : Type} : DataW H := .agg [.agg [.lit (.int .u8 128), .lit (.int .u8 191)], .agg [.lit (.int .u8 160), .lit (.int .u8 191)], .agg [.lit (.int .u8 128), .lit (.int .u8 159)], .agg [.lit (.int .u8 144), .lit (.int .u8 191)], .agg [.lit (.int .u8 128), .lit (.int .u8 143)], .agg [.lit (.int .u8 0), .lit (.int .u8 0)], .agg [.lit (.int .u8 0), .lit (.int .u8 0)], .agg [.lit (.int .u8 0), .lit (.int .u8 0)], .agg [.lit (.int .u8 0), .lit (.int .u8 0)], .agg [.lit (.int .u8 0), .lit (.int .u8 0)], .agg [.lit (.int .u8 0), .lit (.int .u8 0)], .agg [.lit (.int .u8 0), .lit (.int .u8 0)], .agg [.lit (.int .u8 0), .lit (.int .u8 0)], .agg [.lit (.int .u8 0), .lit (.int .u8 0)], .agg [.lit (.int .u8 0), .lit (.int .u8 0)], .agg [.lit (.int .u8 0), .lit (.int .u8 0)]]
/-- One of Go's own tables, pinned by name: the form's constant. -/
def laid_unicode_utf8_first : DataW Unit := Go.Pinned.utf8First

/-- 'gussetlaw04.RankNumbers': WHATEVER THE INPUT: true; the input reads as it did. -/
def rankNumbersSpec : ChangeSpec := { name := "rankNumbers", fn := fun _ => fun
  | [d1, d2, d3, d4] => { results := [.lit (.bool true)], args := [d1, d2, d3, d4] }
  | _ => none }
def rankNumbersRow : OpenClaim := { program := "ytggbohdgcalblaadoor", sum := "2316d7967ad58a6d2f9bd27d21a004e0db4528b48d839e81be7c0fbb098848bb", func := "gusset/gussetlaw04.RankNumbers", spec := "rankNumbers", inPlace := ["internal/bytealg.Count", "internal/bytealg.IndexByte", "internal/bytealg.Index"], named := ["internal/bytealg.MaxLen", "unicode/utf8.first", "unicode/utf8.acceptRanges"], apart := false, laid := [("unicode/utf8.acceptRanges", laid_unicode_utf8_acceptRanges), ("unicode/utf8.first", laid_unicode_utf8_first)] }
def RankNumbersSaid : Prop := rankNumbersRow.holds Tryd.pinned (OpenSpec.ofChange rankNumbersSpec)

/-- ITS FALSE NEIGHBOUR: 'it returns false'. Refute it at one input. -/
def rankNumbersWrong : ChangeSpec := { name := "rankNumbers", fn := fun _ => fun
  | [d1, d2, d3, d4] => { results := [.lit (.bool false)], args := [d1, d2, d3, d4] }
  | _ => none }
def RankNumbersWrongFalsely : Prop := rankNumbersRow.holds Tryd.pinned (OpenSpec.ofChange rankNumbersWrong)

/-- 'gussetlaw04.RankTexts': WHATEVER THE INPUT: true; the input reads as it did. -/
def rankTextsSpec : ChangeSpec := { name := "rankTexts", fn := fun _ => fun
  | [d1, d2] => { results := [.lit (.bool true)], args := [d1, d2] }
  | _ => none }
def rankTextsRow : OpenClaim := { program := "ytggbohdgcalblaadoor", sum := "2316d7967ad58a6d2f9bd27d21a004e0db4528b48d839e81be7c0fbb098848bb", func := "gusset/gussetlaw04.RankTexts", spec := "rankTexts", inPlace := ["internal/bytealg.Count", "internal/bytealg.IndexByte", "internal/bytealg.Index"], named := ["internal/bytealg.MaxLen", "unicode/utf8.first", "unicode/utf8.acceptRanges"], apart := false, laid := [("unicode/utf8.acceptRanges", laid_unicode_utf8_acceptRanges), ("unicode/utf8.first", laid_unicode_utf8_first)] }
def RankTextsSaid : Prop := rankTextsRow.holds Tryd.pinned (OpenSpec.ofChange rankTextsSpec)

/-- ITS FALSE NEIGHBOUR: 'it returns false'. Refute it at one input. -/
def rankTextsWrong : ChangeSpec := { name := "rankTexts", fn := fun _ => fun
  | [d1, d2] => { results := [.lit (.bool false)], args := [d1, d2] }
  | _ => none }
def RankTextsWrongFalsely : Prop := rankTextsRow.holds Tryd.pinned (OpenSpec.ofChange rankTextsWrong)

/-- 'gussetlaw04.RankRows': WHATEVER THE INPUT: true; the input reads as it did. -/
def rankRowsSpec : ChangeSpec := { name := "rankRows", fn := fun _ => fun
  | [d1, d2] => { results := [.lit (.bool true)], args := [d1, d2] }
  | _ => none }
def rankRowsRow : OpenClaim := { program := "ytggbohdgcalblaadoor", sum := "2316d7967ad58a6d2f9bd27d21a004e0db4528b48d839e81be7c0fbb098848bb", func := "gusset/gussetlaw04.RankRows", spec := "rankRows", inPlace := ["internal/bytealg.Count", "internal/bytealg.IndexByte", "internal/bytealg.Index"], named := ["internal/bytealg.MaxLen", "unicode/utf8.first", "unicode/utf8.acceptRanges"], apart := false, laid := [("unicode/utf8.acceptRanges", laid_unicode_utf8_acceptRanges), ("unicode/utf8.first", laid_unicode_utf8_first)] }
def RankRowsSaid : Prop := rankRowsRow.holds Tryd.pinned (OpenSpec.ofChange rankRowsSpec)

/-- ITS FALSE NEIGHBOUR: 'it returns false'. Refute it at one input. -/
def rankRowsWrong : ChangeSpec := { name := "rankRows", fn := fun _ => fun
  | [d1, d2] => { results := [.lit (.bool false)], args := [d1, d2] }
  | _ => none }
def RankRowsWrongFalsely : Prop := rankRowsRow.holds Tryd.pinned (OpenSpec.ofChange rankRowsWrong)

/-- 'gussetlaw04.RankWrites': WHATEVER THE INPUT: true; the input reads as it did. -/
def rankWritesSpec : ChangeSpec := { name := "rankWrites", fn := fun _ => fun
  | [d1, d2, d3, d4] => { results := [.lit (.bool true)], args := [d1, d2, d3, d4] }
  | _ => none }
def rankWritesRow : OpenClaim := { program := "ytggbohdgcalblaadoor", sum := "2316d7967ad58a6d2f9bd27d21a004e0db4528b48d839e81be7c0fbb098848bb", func := "gusset/gussetlaw04.RankWrites", spec := "rankWrites", inPlace := ["internal/bytealg.Count", "internal/bytealg.IndexByte", "internal/bytealg.Index"], named := ["internal/bytealg.MaxLen", "unicode/utf8.first", "unicode/utf8.acceptRanges"], apart := false, laid := [("unicode/utf8.acceptRanges", laid_unicode_utf8_acceptRanges), ("unicode/utf8.first", laid_unicode_utf8_first)] }
def RankWritesSaid : Prop := rankWritesRow.holds Tryd.pinned (OpenSpec.ofChange rankWritesSpec)

/-- ITS FALSE NEIGHBOUR: 'it returns false'. Refute it at one input. -/
def rankWritesWrong : ChangeSpec := { name := "rankWrites", fn := fun _ => fun
  | [d1, d2, d3, d4] => { results := [.lit (.bool false)], args := [d1, d2, d3, d4] }
  | _ => none }
def RankWritesWrongFalsely : Prop := rankWritesRow.holds Tryd.pinned (OpenSpec.ofChange rankWritesWrong)

/-- 'gussetlaw04.RankReads': WHATEVER THE INPUT: true; the input reads as it did. -/
def rankReadsSpec : ChangeSpec := { name := "rankReads", fn := fun _ => fun
  | [d1, d2] => { results := [.lit (.bool true)], args := [d1, d2] }
  | _ => none }
def rankReadsRow : OpenClaim := { program := "ytggbohdgcalblaadoor", sum := "2316d7967ad58a6d2f9bd27d21a004e0db4528b48d839e81be7c0fbb098848bb", func := "gusset/gussetlaw04.RankReads", spec := "rankReads", inPlace := ["internal/bytealg.Count", "internal/bytealg.IndexByte", "internal/bytealg.Index"], named := ["internal/bytealg.MaxLen", "unicode/utf8.first", "unicode/utf8.acceptRanges"], apart := false, laid := [("unicode/utf8.acceptRanges", laid_unicode_utf8_acceptRanges), ("unicode/utf8.first", laid_unicode_utf8_first)] }
def RankReadsSaid : Prop := rankReadsRow.holds Tryd.pinned (OpenSpec.ofChange rankReadsSpec)

/-- ITS FALSE NEIGHBOUR: 'it returns false'. Refute it at one input. -/
def rankReadsWrong : ChangeSpec := { name := "rankReads", fn := fun _ => fun
  | [d1, d2] => { results := [.lit (.bool false)], args := [d1, d2] }
  | _ => none }
def RankReadsWrongFalsely : Prop := rankReadsRow.holds Tryd.pinned (OpenSpec.ofChange rankReadsWrong)

/-- 'gussetlaw04.RankApart': WHATEVER THE INPUT: true; the input reads as it did. -/
def rankApartSpec : ChangeSpec := { name := "rankApart", fn := fun _ => fun
  | [d1, d2] => { results := [.lit (.bool true)], args := [d1, d2] }
  | _ => none }
def rankApartRow : OpenClaim := { program := "ytggbohdgcalblaadoor", sum := "2316d7967ad58a6d2f9bd27d21a004e0db4528b48d839e81be7c0fbb098848bb", func := "gusset/gussetlaw04.RankApart", spec := "rankApart", inPlace := ["internal/bytealg.Count", "internal/bytealg.IndexByte", "internal/bytealg.Index"], named := ["internal/bytealg.MaxLen", "unicode/utf8.first", "unicode/utf8.acceptRanges"], apart := false, laid := [("unicode/utf8.acceptRanges", laid_unicode_utf8_acceptRanges), ("unicode/utf8.first", laid_unicode_utf8_first)] }
def RankApartSaid : Prop := rankApartRow.holds Tryd.pinned (OpenSpec.ofChange rankApartSpec)

/-- ITS FALSE NEIGHBOUR: 'it returns false'. Refute it at one input. -/
def rankApartWrong : ChangeSpec := { name := "rankApart", fn := fun _ => fun
  | [d1, d2] => { results := [.lit (.bool false)], args := [d1, d2] }
  | _ => none }
def RankApartWrongFalsely : Prop := rankApartRow.holds Tryd.pinned (OpenSpec.ofChange rankApartWrong)

/- THE SECOND FORM. 'bulk': how many values and letters a reading holds, each counted each time it is reached (what is shared counts as often as it is met; a slice's spare places count too). A statement '..UptoSaid' is the law's where the arguments, and the package variables that the reading takes, are together of bulk at most 1048576: NARROWER than '..Said'. Prove '..Said' where nothing that the law and all that it calls make is longer than what came in: it says more and counts as full. Else prove '..UptoSaid'. A law counts once. -/
mutual
def uptoBulk {H : Type} : DataW H → Nat
  | .lit (.string bytes) => bytes.length + 1
  | .lit _ => 1
  | .nil => 1
  | .ptr d => uptoBulk d + 1
  | .slice elems spare => uptoBulkAll elems + uptoBulkAll spare + 1
  | .agg parts => uptoBulkAll parts + 1
  | .iface _ d => uptoBulk d + 1
  | .map entries => uptoBulkEntries entries + 1
  | .held _ => 1
def uptoBulkAll {H : Type} : List (DataW H) → Nat
  | [] => 0
  | d :: r => uptoBulk d + uptoBulkAll r
def uptoBulkEntries {H : Type} : List (Lit × DataW H) → Nat
  | [] => 0
  | x :: r => uptoBulkEntry x + uptoBulkEntries r
def uptoBulkEntry {H : Type} : Lit × DataW H → Nat
  | (.string bytes, d) => bytes.length + uptoBulk d + 1
  | (_, d) => uptoBulk d + 1
 end
def uptoSmall : (H : Type) → List (DataW H) → Bool := fun _ ds => decide (uptoBulkAll ds ≤ 1048576)
def OpenSpec.upto (s : _root_.Go.ChangeSpec) : _root_.Go.OpenSpec := { _root_.Go.OpenSpec.ofChange s with cond := some uptoSmall }

/-- 'gussetlaw04.RankNumbers', WHERE WHAT IT READS IS OF BULK AT MOST 1048576: true; the input reads as it did. -/
def rankNumbersUptoRow : OpenClaim := { program := "ytggbohdgcalblaadoor", sum := "2316d7967ad58a6d2f9bd27d21a004e0db4528b48d839e81be7c0fbb098848bb", func := "gusset/gussetlaw04.RankNumbers", spec := "rankNumbers", inPlace := ["internal/bytealg.Count", "internal/bytealg.IndexByte", "internal/bytealg.Index"], named := ["internal/bytealg.MaxLen", "unicode/utf8.first", "unicode/utf8.acceptRanges"], apart := false, laid := [("unicode/utf8.acceptRanges", laid_unicode_utf8_acceptRanges), ("unicode/utf8.first", laid_unicode_utf8_first)], narrowed := true }
def RankNumbersUptoSaid : Prop := rankNumbersUptoRow.holds Tryd.pinned (OpenSpec.upto rankNumbersSpec)

/-- 'gussetlaw04.RankTexts', WHERE WHAT IT READS IS OF BULK AT MOST 1048576: true; the input reads as it did. -/
def rankTextsUptoRow : OpenClaim := { program := "ytggbohdgcalblaadoor", sum := "2316d7967ad58a6d2f9bd27d21a004e0db4528b48d839e81be7c0fbb098848bb", func := "gusset/gussetlaw04.RankTexts", spec := "rankTexts", inPlace := ["internal/bytealg.Count", "internal/bytealg.IndexByte", "internal/bytealg.Index"], named := ["internal/bytealg.MaxLen", "unicode/utf8.first", "unicode/utf8.acceptRanges"], apart := false, laid := [("unicode/utf8.acceptRanges", laid_unicode_utf8_acceptRanges), ("unicode/utf8.first", laid_unicode_utf8_first)], narrowed := true }
def RankTextsUptoSaid : Prop := rankTextsUptoRow.holds Tryd.pinned (OpenSpec.upto rankTextsSpec)

/-- 'gussetlaw04.RankRows', WHERE WHAT IT READS IS OF BULK AT MOST 1048576: true; the input reads as it did. -/
def rankRowsUptoRow : OpenClaim := { program := "ytggbohdgcalblaadoor", sum := "2316d7967ad58a6d2f9bd27d21a004e0db4528b48d839e81be7c0fbb098848bb", func := "gusset/gussetlaw04.RankRows", spec := "rankRows", inPlace := ["internal/bytealg.Count", "internal/bytealg.IndexByte", "internal/bytealg.Index"], named := ["internal/bytealg.MaxLen", "unicode/utf8.first", "unicode/utf8.acceptRanges"], apart := false, laid := [("unicode/utf8.acceptRanges", laid_unicode_utf8_acceptRanges), ("unicode/utf8.first", laid_unicode_utf8_first)], narrowed := true }
def RankRowsUptoSaid : Prop := rankRowsUptoRow.holds Tryd.pinned (OpenSpec.upto rankRowsSpec)

/-- 'gussetlaw04.RankWrites', WHERE WHAT IT READS IS OF BULK AT MOST 1048576: true; the input reads as it did. -/
def rankWritesUptoRow : OpenClaim := { program := "ytggbohdgcalblaadoor", sum := "2316d7967ad58a6d2f9bd27d21a004e0db4528b48d839e81be7c0fbb098848bb", func := "gusset/gussetlaw04.RankWrites", spec := "rankWrites", inPlace := ["internal/bytealg.Count", "internal/bytealg.IndexByte", "internal/bytealg.Index"], named := ["internal/bytealg.MaxLen", "unicode/utf8.first", "unicode/utf8.acceptRanges"], apart := false, laid := [("unicode/utf8.acceptRanges", laid_unicode_utf8_acceptRanges), ("unicode/utf8.first", laid_unicode_utf8_first)], narrowed := true }
def RankWritesUptoSaid : Prop := rankWritesUptoRow.holds Tryd.pinned (OpenSpec.upto rankWritesSpec)

/-- 'gussetlaw04.RankReads', WHERE WHAT IT READS IS OF BULK AT MOST 1048576: true; the input reads as it did. -/
def rankReadsUptoRow : OpenClaim := { program := "ytggbohdgcalblaadoor", sum := "2316d7967ad58a6d2f9bd27d21a004e0db4528b48d839e81be7c0fbb098848bb", func := "gusset/gussetlaw04.RankReads", spec := "rankReads", inPlace := ["internal/bytealg.Count", "internal/bytealg.IndexByte", "internal/bytealg.Index"], named := ["internal/bytealg.MaxLen", "unicode/utf8.first", "unicode/utf8.acceptRanges"], apart := false, laid := [("unicode/utf8.acceptRanges", laid_unicode_utf8_acceptRanges), ("unicode/utf8.first", laid_unicode_utf8_first)], narrowed := true }
def RankReadsUptoSaid : Prop := rankReadsUptoRow.holds Tryd.pinned (OpenSpec.upto rankReadsSpec)

/-- 'gussetlaw04.RankApart', WHERE WHAT IT READS IS OF BULK AT MOST 1048576: true; the input reads as it did. -/
def rankApartUptoRow : OpenClaim := { program := "ytggbohdgcalblaadoor", sum := "2316d7967ad58a6d2f9bd27d21a004e0db4528b48d839e81be7c0fbb098848bb", func := "gusset/gussetlaw04.RankApart", spec := "rankApart", inPlace := ["internal/bytealg.Count", "internal/bytealg.IndexByte", "internal/bytealg.Index"], named := ["internal/bytealg.MaxLen", "unicode/utf8.first", "unicode/utf8.acceptRanges"], apart := false, laid := [("unicode/utf8.acceptRanges", laid_unicode_utf8_acceptRanges), ("unicode/utf8.first", laid_unicode_utf8_first)], narrowed := true }
def RankApartUptoSaid : Prop := rankApartUptoRow.holds Tryd.pinned (OpenSpec.upto rankApartSpec)

end Rows
end Go.Proofs.YtggbohdgcalblaaDoor
