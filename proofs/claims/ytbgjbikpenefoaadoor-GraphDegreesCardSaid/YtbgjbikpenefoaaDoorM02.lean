/- Lemmas for the claim, in one text: VC, VD, VF, VG. -/
import Derived.Test.YtbgjbikpenefoaaDoorM01

/- VC: what is needed of it (by shake.py). -/

/- VC, as far as the seat goes. -/
/- V8, V9, V10, V11 in one. -/
/- repair.half. -/
namespace Go.Proofs.YtbgjbikpenefoaaDoor
set_option linter.unusedVariables false
open Go.RowKit
end Go.Proofs.YtbgjbikpenefoaaDoor
/- A list of vertices. -/
namespace Go.Proofs.YtbgjbikpenefoaaDoor
set_option linter.unusedVariables false
open Go.RowKit
/-- A vertex with its slices. -/
structure Vs where
  x : Vtx
  vp : Value
  vh : Value
def Vs.v (s : Vs) : Value := vtxV s.x s.vp s.vh
def Vs.cells (s : Vs) : List Value := [.int .u32 (s.x.id : Int), .bool s.x.there, s.vp, s.vh]
section
variable {w0 W : World} {g bm b5 id n : Nat} {o : Array Value}
end
end Go.Proofs.YtbgjbikpenefoaaDoor
/- repair.right: is a list in form? -/
namespace Go.Proofs.YtbgjbikpenefoaaDoor
set_option linter.unusedVariables false
open Go.RowKit
end Go.Proofs.YtbgjbikpenefoaaDoor
/- Lists of lists of vertices, flags, and where each vertex is held first: the data. -/
namespace Go.Proofs.YtbgjbikpenefoaaDoor
set_option linter.unusedVariables false
open Go.RowKit
/-- A list with its slice. -/
structure Ls where
  v : Value
  l : List Vs
theorem RdS.one {w : World} {v : Value} {n m : Nat} {xs : List Value} (h : RdS w 1 v n xs) {i : Nat} {x : Value} (hi : xs[i]? = some x) {a : Option Addr} {c : Nat} (e : v = .slice a m c) :
    ∃ b off, a = some ⟨b, off, none⟩ ∧ b < w.heap.size ∧ w.cell? ⟨b, off + i, none⟩ = some x := by
  obtain ⟨a', c', e', -⟩ := h.shape
  rw [e] at e'
  injection e' with e1 e2 e3
  rw [e2] at e
  exact h.cell a c e i x hi
/-- What is held where, in order: only where a list's flag is up. -/
def held (up : List Bool) : Nat → List Ls → List (Nat × Vs)
  | _, [] => []
  | n, s :: r => (if up[n]? = some true then s.l.map (fun x => (n, x)) else []) ++ held up (n + 1) r
/-- The pairs ahead of list n. -/
def heldTo (up : List Bool) (ls : List Ls) (n : Nat) : List (Nat × Vs) := held up 0 (ls.take n)
end Go.Proofs.YtbgjbikpenefoaaDoor

/- VD: what is needed of it (by shake.py). -/

/- VD, as far as the seat goes. -/
/- V12, V13, V14, V15 in one. -/
/- repair.judge: what is told of a half. -/
namespace Go.Proofs.YtbgjbikpenefoaaDoor
set_option linter.unusedVariables false
open Go.RowKit
deriving instance DecidableEq for Val
end Go.Proofs.YtbgjbikpenefoaaDoor
/- repair.seats: where each vertex is held first. -/
namespace Go.Proofs.YtbgjbikpenefoaaDoor
set_option linter.unusedVariables false
open Go.RowKit
/-- The pairs met so far, in the midst of list k. -/
def part (up : List Bool) (ls : List Ls) (k : Nat) (xl : List Vs) (j : Nat) : List (Nat × Vs) := heldTo up ls k ++ (xl.take j).map (fun x => (k, x))
end Go.Proofs.YtbgjbikpenefoaaDoor
/- repair.judge, whole. -/
namespace Go.Proofs.YtbgjbikpenefoaaDoor
set_option linter.unusedVariables false
open Go.RowKit
end Go.Proofs.YtbgjbikpenefoaaDoor
/- Is any list out of form? Is any flag down? (slices.ContainsFunc with repair.right, slices.Contains of flags.) -/
namespace Go.Proofs.YtbgjbikpenefoaaDoor
set_option linter.unusedVariables false
open Go.RowKit
end Go.Proofs.YtbgjbikpenefoaaDoor

/- VF: what is needed of it (by shake.py). -/

/- VF, as far as the seat goes. -/
/- V18, V19, V20 in one. -/
/- gussetlaw23.vertex: a vertex with halves. -/
namespace Go.Proofs.YtbgjbikpenefoaaDoor
set_option linter.unusedVariables false
open Go.RowKit
def farE (f : Nat) : Ent := ⟨f, ⟨0, 0, ⟨#[]⟩⟩⟩
/-- One element, just laid. -/
theorem src_cells {w : World} {n0 size : Nat} (hn : w.heap.size = n0) (t : TypeId) (cs : Array Value) (hs : cs.size = size) (h1 : ∀ u ∈ cs.toList, u.oneCell' = true) : Src (w.alloc (.cells cs t)) size (.slice (some ⟨n0, 0, none⟩) 1 1) 1 cs.toList := by
  subst hn
  exact Src.one (size := size) w cs t 1 1 (by omega) h1
end Go.Proofs.YtbgjbikpenefoaaDoor
/- gussetlaw23.reports, gussetref23.Same. -/
namespace Go.Proofs.YtbgjbikpenefoaaDoor
set_option linter.unusedVariables false
open Go.RowKit
end Go.Proofs.YtbgjbikpenefoaaDoor
/- gussetlaw23.twins: lists of one's own. -/
namespace Go.Proofs.YtbgjbikpenefoaaDoor
set_option linter.unusedVariables false
open Go.RowKit
theorem mod_grown {w w' : World} {v : Value} (g : w.grownBy w' v.ownBlock) : Mod (fun k => v.ownBlock = some k) w w' := ⟨g.os, g.tape, g.output, g.size, fun k hk hne => g.block k hk (fun e => hne e.symm)⟩
end Go.Proofs.YtbgjbikpenefoaaDoor

/- VG: what is needed of it (by shake.py). -/

/- VG, as far as the seat goes. -/
/- V21, V22 in one. -/
/- gussetlaw23.twins, walked. -/
namespace Go.Proofs.YtbgjbikpenefoaaDoor
set_option linter.unusedVariables false
open Go.RowKit
end Go.Proofs.YtbgjbikpenefoaaDoor
/- gussetlaw23.awake. -/
namespace Go.Proofs.YtbgjbikpenefoaaDoor
set_option linter.unusedVariables false
open Go.RowKit
def va : Vtx := ⟨1, true, [], [farE 2]⟩
def vb : Vtx := ⟨2, true, [], []⟩
theorem rd_lit (w : World) (t : TypeId) (cs : Array Value) (n size n0 : Nat) (h0 : w.heap.size = n0) (hs : cs.size = n * size) (hn : n ≤ maxLen) (h1 : ∀ u ∈ cs.toList, u.oneCell' = true) : RdS (w.alloc (.cells cs t)) size (.slice (some ⟨n0, 0, none⟩) n n) n cs.toList := by
  subst h0
  exact (Seg.lit (e := t) (size := size) w cs n hs hn h1).rdS
end Go.Proofs.YtbgjbikpenefoaaDoor
