/- Lemmas for the claim, in one text: VB, VC, VD, VF, VG. -/
import Derived.Test.YtbgjbikpenefoaaGreatDoorVA
import Derived.Test.YtbgjbikpenefoaaGreatDoorA
import Derived.StillTailTactics
import Derived.Maps.Own

/- VB: what is needed of it (by shake.py). -/

/- VB, as far as the seat goes. -/
/- V4, V5, V6, V7 in one. -/
/- graph.New and Put. -/
namespace Go.Proofs.YtbgjbikpenefoaaGreatDoor
set_option linter.unusedVariables false
open Go.RowKit
theorem u32key {k : Nat} (h : k < 4294967296) : (Lit.int .u32 (k : Int)).wf = true := by go_wf
theorem u8key {k : Nat} (h : k < 256) : (Lit.int .u8 (k : Int)).wf = true := by go_wf
/-- A graph in memory: its cell, and its map. -/
structure GAt (w : World) (g bm : Nat) (es : Ents) : Prop where
  cell : w.heap[g]? = some (.cells #[.map (some bm)] 81 (0, 0))
  map : UMap Tryz.prog 23 .u32 w bm es
theorem GAt.mod {S : Nat → Prop} {w w' : World} {g bm : Nat} {es : Ents} (h : GAt w g bm es) (m : Mod S w w') (h1 : ¬ S g) (h2 : ¬ S bm) : GAt w' g bm es := ⟨m.heap h.cell h1, h.map.mod m h2⟩
theorem new_any (w : World) : Calls Tryz.prog 11 #[] w fun e w' => e = .returned (.pointer (some ⟨w.heap.size + 1, 0, none⟩)) ∧ Mod (fun _ => False) w w' ∧ GAt w' (w.heap.size + 1) w.heap.size [] := by
  have hmm := @run_makeMap Tryz.prog
  have HG : Hid (GAt ((w.alloc (.map #[] 0)).alloc (.cells #[.map (some w.heap.size)] 81)) (w.heap.size + 1) w.heap.size []) :=
    ⟨by have h := heap_alloc_new' (w.alloc (.map #[] 0)) (.cells #[.map (some w.heap.size)] 81); simpa using h,
     (UMap.made Tryz.prog 23 .u32 w).keep ((Mod.refl _ _).alloc _)⟩
  go_enter Tryz.func11, Tryz.ntmps11
  go_wp2
  go_ret
  exact ⟨rfl, ((Mod.refl _ _).alloc _).alloc _, HG.out⟩
end Go.Proofs.YtbgjbikpenefoaaGreatDoor
/- graph.Put that lays a vertex. -/
namespace Go.Proofs.YtbgjbikpenefoaaGreatDoor
set_option linter.unusedVariables false
open Go.RowKit
end Go.Proofs.YtbgjbikpenefoaaGreatDoor
/- A vertex of its own: Twin. -/
namespace Go.Proofs.YtbgjbikpenefoaaGreatDoor
set_option linter.unusedVariables false
open Go.RowKit
def zval : Value := .string ⟨#[]⟩
theorem infoProp : (Tryz.prog.info? 61).map (fun i => (i.zero, i.size, i.bytes)) = some (some (.agg #[.int .u8 0, .int .u8 0, .int .i64 0, zval]), 4, 40) := by kernel_rfl
theorem infoHalf : (Tryz.prog.info? 46).map (fun i => (i.zero, i.size, i.bytes)) = some (some (.agg #[.int .u32 0, .int .u8 0, .int .i64 0, zval]), 4, 40) := by kernel_rfl
/-- A vertex that has been made: its slices are new, and may be written. -/
structure VNew (w0 w : World) (vp vh : Value) (x : Vtx) : Prop where
  fits : x.Fits
  props : Seg w 61 4 vp x.props.length (cellsOf .u8 x.props)
  halves : Seg w 46 4 vh x.halves.length (cellsOf .u32 x.halves)
  newp : ∀ b, vp.ownBlock = some b → w0.heap.size ≤ b
  newh : ∀ b, vh.ownBlock = some b → w0.heap.size ≤ b
theorem VNew.rd {w0 w : World} {vp vh : Value} {x : Vtx} (h : VNew w0 w vp vh x) : VRd w vp vh x := ⟨h.fits, h.props.rdS, h.halves.rdS⟩
theorem VNew.mod {S : Nat → Prop} {w0 w w' : World} {vp vh : Value} {x : Vtx} (h : VNew w0 w vp vh x) (m : Mod S w w') (hs : ∀ b, w0.heap.size ≤ b → ¬ S b) : VNew w0 w' vp vh x :=
  ⟨h.fits, h.props.mod m (fun b hb => hs b (h.newp b hb)), h.halves.mod m (fun b hb => hs b (h.newh b hb)), h.newp, h.newh⟩
theorem VNew.keep {w0 w w' : World} {vp vh : Value} {x : Vtx} (h : VNew w0 w vp vh x) (m : Mod (fun _ => False) w w') : VNew w0 w' vp vh x := h.mod m (fun _ _ f => f)
def Twins (w : World) (x : Vtx) (e : Ending) (w' : World) : Prop := ∃ vp vh, e = .returned (.agg #[.int .u32 (x.id : Int), .bool x.there, vp, vh]) ∧ Mod (fun _ => False) w w' ∧ VNew w w' vp vh x
end Go.Proofs.YtbgjbikpenefoaaGreatDoor
/- repair.half: a vertex' half to another one. -/
namespace Go.Proofs.YtbgjbikpenefoaaGreatDoor
set_option linter.unusedVariables false
open Go.RowKit
end Go.Proofs.YtbgjbikpenefoaaGreatDoor

/- VC: what is needed of it (by shake.py). -/

/- VC, as far as the seat goes. -/
/- V8, V9, V10, V11 in one. -/
/- repair.half. -/
namespace Go.Proofs.YtbgjbikpenefoaaGreatDoor
set_option linter.unusedVariables false
open Go.RowKit
end Go.Proofs.YtbgjbikpenefoaaGreatDoor
/- A list of vertices. -/
namespace Go.Proofs.YtbgjbikpenefoaaGreatDoor
set_option linter.unusedVariables false
open Go.RowKit
/-- A vertex with its slices. -/
structure Vs where
  x : Vtx
  vp : Value
  vh : Value
def Vs.v (s : Vs) : Value := vtxV s.x s.vp s.vh
def Vs.cells (s : Vs) : List Value := [.int .u32 (s.x.id : Int), .bool s.x.there, s.vp, s.vh]
section
variable {w0 W : World} {g bm b5 id n : Nat} {o : Array Value}
end
end Go.Proofs.YtbgjbikpenefoaaGreatDoor
/- repair.right: is a list in form? -/
namespace Go.Proofs.YtbgjbikpenefoaaGreatDoor
set_option linter.unusedVariables false
open Go.RowKit
end Go.Proofs.YtbgjbikpenefoaaGreatDoor
/- Lists of lists of vertices, flags, and where each vertex is held first: the data. -/
namespace Go.Proofs.YtbgjbikpenefoaaGreatDoor
set_option linter.unusedVariables false
open Go.RowKit
/-- A list with its slice. -/
structure Ls where
  v : Value
  l : List Vs
theorem RdS.one {w : World} {v : Value} {n m : Nat} {xs : List Value} (h : RdS w 1 v n xs) {i : Nat} {x : Value} (hi : xs[i]? = some x) {a : Option Addr} {c : Nat} (e : v = .slice a m c) :
    ∃ b off, a = some ⟨b, off, none⟩ ∧ b < w.heap.size ∧ w.cell? ⟨b, off + i, none⟩ = some x := by
  obtain ⟨a', c', e', -⟩ := h.shape
  rw [e] at e'
  injection e' with e1 e2 e3
  rw [e2] at e
  exact h.cell a c e i x hi
/-- What is held where, in order: only where a list's flag is up. -/
def held (up : List Bool) : Nat → List Ls → List (Nat × Vs)
  | _, [] => []
  | n, s :: r => (if up[n]? = some true then s.l.map (fun x => (n, x)) else []) ++ held up (n + 1) r
/-- The pairs ahead of list n. -/
def heldTo (up : List Bool) (ls : List Ls) (n : Nat) : List (Nat × Vs) := held up 0 (ls.take n)
end Go.Proofs.YtbgjbikpenefoaaGreatDoor

/- VD: what is needed of it (by shake.py). -/

/- VD, as far as the seat goes. -/
/- V12, V13, V14, V15 in one. -/
/- repair.judge: what is told of a half. -/
namespace Go.Proofs.YtbgjbikpenefoaaGreatDoor
set_option linter.unusedVariables false
open Go.RowKit
deriving instance DecidableEq for Val
end Go.Proofs.YtbgjbikpenefoaaGreatDoor
/- repair.seats: where each vertex is held first. -/
namespace Go.Proofs.YtbgjbikpenefoaaGreatDoor
set_option linter.unusedVariables false
open Go.RowKit
/-- The pairs met so far, in the midst of list k. -/
def part (up : List Bool) (ls : List Ls) (k : Nat) (xl : List Vs) (j : Nat) : List (Nat × Vs) := heldTo up ls k ++ (xl.take j).map (fun x => (k, x))
end Go.Proofs.YtbgjbikpenefoaaGreatDoor
/- repair.judge, whole. -/
namespace Go.Proofs.YtbgjbikpenefoaaGreatDoor
set_option linter.unusedVariables false
open Go.RowKit
end Go.Proofs.YtbgjbikpenefoaaGreatDoor
/- Is any list out of form? Is any flag down? (slices.ContainsFunc with repair.right, slices.Contains of flags.) -/
namespace Go.Proofs.YtbgjbikpenefoaaGreatDoor
set_option linter.unusedVariables false
open Go.RowKit
end Go.Proofs.YtbgjbikpenefoaaGreatDoor

/- VF: what is needed of it (by shake.py). -/

/- VF, as far as the seat goes. -/
/- V18, V19, V20 in one. -/
/- gussetlaw23.vertex: a vertex with halves. -/
namespace Go.Proofs.YtbgjbikpenefoaaGreatDoor
set_option linter.unusedVariables false
open Go.RowKit
def farE (f : Nat) : Ent := ⟨f, ⟨0, 0, ⟨#[]⟩⟩⟩
/-- One element, just laid. -/
theorem src_cells {w : World} {n0 size : Nat} (hn : w.heap.size = n0) (t : TypeId) (cs : Array Value) (hs : cs.size = size) (h1 : ∀ u ∈ cs.toList, u.oneCell' = true) : Src (w.alloc (.cells cs t)) size (.slice (some ⟨n0, 0, none⟩) 1 1) 1 cs.toList := by
  subst hn
  exact Src.one (size := size) w cs t 1 1 (by omega) h1
end Go.Proofs.YtbgjbikpenefoaaGreatDoor
/- gussetlaw23.reports, gussetref23.Same. -/
namespace Go.Proofs.YtbgjbikpenefoaaGreatDoor
set_option linter.unusedVariables false
open Go.RowKit
end Go.Proofs.YtbgjbikpenefoaaGreatDoor
/- gussetlaw23.twins: lists of one's own. -/
namespace Go.Proofs.YtbgjbikpenefoaaGreatDoor
set_option linter.unusedVariables false
open Go.RowKit
theorem mod_grown {w w' : World} {v : Value} (g : w.grownBy w' v.ownBlock) : Mod (fun k => v.ownBlock = some k) w w' := ⟨g.os, g.tape, g.output, g.size, fun k hk hne => g.block k hk (fun e => hne e.symm)⟩
end Go.Proofs.YtbgjbikpenefoaaGreatDoor

/- VG: what is needed of it (by shake.py). -/

/- VG, as far as the seat goes. -/
/- V21, V22 in one. -/
/- gussetlaw23.twins, walked. -/
namespace Go.Proofs.YtbgjbikpenefoaaGreatDoor
set_option linter.unusedVariables false
open Go.RowKit
end Go.Proofs.YtbgjbikpenefoaaGreatDoor
/- gussetlaw23.awake. -/
namespace Go.Proofs.YtbgjbikpenefoaaGreatDoor
set_option linter.unusedVariables false
open Go.RowKit
def va : Vtx := ⟨1, true, [], [farE 2]⟩
def vb : Vtx := ⟨2, true, [], []⟩
theorem rd_lit (w : World) (t : TypeId) (cs : Array Value) (n size n0 : Nat) (h0 : w.heap.size = n0) (hs : cs.size = n * size) (hn : n ≤ maxLen) (h1 : ∀ u ∈ cs.toList, u.oneCell' = true) : RdS (w.alloc (.cells cs t)) size (.slice (some ⟨n0, 0, none⟩) n n) n cs.toList := by
  subst h0
  exact (Seg.lit (e := t) (size := size) w cs n hs hn h1).rdS
end Go.Proofs.YtbgjbikpenefoaaGreatDoor
