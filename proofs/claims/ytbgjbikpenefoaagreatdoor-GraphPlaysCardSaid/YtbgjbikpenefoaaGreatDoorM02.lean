/- Lemmas for the claim, in one text: VC, VD, VF, VG. -/
import Derived.Test.YtbgjbikpenefoaaGreatDoorM01

/- VC: what is needed of it (by shake.py). -/

/- VC, as far as the seat goes. -/
/- V8, V9, V10, V11 in one. -/
/- repair.half. -/
namespace Go.Proofs.YtbgjbikpenefoaaGreatDoor
set_option linter.unusedVariables false
open Go.RowKit
end Go.Proofs.YtbgjbikpenefoaaGreatDoor
/- A list of vertices. -/
namespace Go.Proofs.YtbgjbikpenefoaaGreatDoor
set_option linter.unusedVariables false
open Go.RowKit
/-- A vertex with its slices. -/
structure Vs where
  x : Vtx
  vp : Value
  vh : Value
def Vs.v (s : Vs) : Value := vtxV s.x s.vp s.vh
def Vs.cells (s : Vs) : List Value := [.int .u32 (s.x.id : Int), .bool s.x.there, s.vp, s.vh]
def vcells (l : List Vs) : List Value := l.flatMap Vs.cells
theorem vcells_get : ∀ (l : List Vs) (i j : Nat) (x : Vs), l[i]? = some x → j < 4 → (vcells l)[i * 4 + j]? = x.cells[j]?
  | [], i, j, x, h, _ => by simp at h
  | y :: r, 0, j, x, h, hj => by
    simp at h
    subst h
    show (y.cells ++ vcells r)[0 * 4 + j]? = _
    rw [Nat.zero_mul, Nat.zero_add, List.getElem?_append_left (by simpa [Vs.cells] using hj)]
  | y :: r, i + 1, j, x, h, hj => by
    simp at h
    show (y.cells ++ vcells r)[(i + 1) * 4 + j]? = _
    rw [List.getElem?_append_right (by simp [Vs.cells]; omega)]
    have e : (i + 1) * 4 + j - y.cells.length = i * 4 + j := by simp [Vs.cells]; omega
    rw [e]
    exact vcells_get r i j x h hj
/-- A list of vertices, only read. -/
structure LRd (w : World) (v : Value) (l : List Vs) : Prop where
  row : RdS w 4 v l.length (vcells l)
  each : ∀ s ∈ l, VRd w s.vp s.vh s.x
theorem LRd.keep {w w' : World} {v : Value} {l : List Vs} (h : LRd w v l) (m : Mod (fun _ => False) w w') : LRd w' v l := ⟨h.row.keep m, fun s hs => (h.each s hs).keep m⟩
theorem LRd.at {w : World} {v : Value} {l : List Vs} (h : LRd w v l) {i : Nat} {x : Vs} (hi : l[i]? = some x) : VRd w x.vp x.vh x.x := h.each x (List.mem_of_getElem? hi)
/-- The cells of element i. -/
theorem LRd.ent {w : World} {v : Value} {l : List Vs} (h : LRd w v l) {i : Nat} {x : Vs} (hi : l[i]? = some x) {a : Option Addr} {n c : Nat} (e : v = .slice a n c) :
    ∃ b off, a = some ⟨b, off, none⟩ ∧ b < w.heap.size ∧ w.cell? ⟨b, off + i * 4, none⟩ = some (.int .u32 (x.x.id : Int)) ∧ w.cell? ⟨b, off + i * 4 + 1, none⟩ = some (.bool x.x.there) ∧ w.cell? ⟨b, off + i * 4 + 2, none⟩ = some x.vp ∧ w.cell? ⟨b, off + i * 4 + 3, none⟩ = some x.vh := by
  have g := fun j hj => vcells_get l i j x hi hj
  obtain ⟨a', c', e', -⟩ := h.row.shape
  rw [e] at e'
  injection e' with e1 e2 e3
  rw [e2] at e
  obtain ⟨b, off, ea, hb, h0⟩ := h.row.cell a c e (i * 4 + 0) (.int .u32 (x.x.id : Int)) (by rw [g 0 (by omega)]; rfl)
  obtain ⟨b1, off1, ea1, _, h1⟩ := h.row.cell a c e (i * 4 + 1) (.bool x.x.there) (by rw [g 1 (by omega)]; rfl)
  obtain ⟨b2, off2, ea2, _, h2⟩ := h.row.cell a c e (i * 4 + 2) x.vp (by rw [g 2 (by omega)]; rfl)
  obtain ⟨b3, off3, ea3, _, h3⟩ := h.row.cell a c e (i * 4 + 3) x.vh (by rw [g 3 (by omega)]; rfl)
  rw [ea] at ea1 ea2 ea3
  injection ea1 with e1; injection e1 with e1 e1'
  injection ea2 with e2; injection e2 with e2 e2'
  injection ea3 with e3; injection e3 with e3 e3'
  subst e1 e1' e2 e2' e3 e3'
  exact ⟨b, off, ea, hb, h0, by rw [Nat.add_assoc]; exact h1, by rw [Nat.add_assoc]; exact h2, by rw [Nat.add_assoc]; exact h3⟩
section
variable {w0 W : World} {g bm b5 id n : Nat} {o : Array Value}
end
end Go.Proofs.YtbgjbikpenefoaaGreatDoor
/- repair.right: is a list in form? -/
namespace Go.Proofs.YtbgjbikpenefoaaGreatDoor
set_option linter.unusedVariables false
open Go.RowKit
end Go.Proofs.YtbgjbikpenefoaaGreatDoor
/- Lists of lists of vertices, flags, and where each vertex is held first: the data. -/
namespace Go.Proofs.YtbgjbikpenefoaaGreatDoor
set_option linter.unusedVariables false
open Go.RowKit
/-- A list with its slice. -/
structure Ls where
  v : Value
  l : List Vs
theorem RdS.one {w : World} {v : Value} {n m : Nat} {xs : List Value} (h : RdS w 1 v n xs) {i : Nat} {x : Value} (hi : xs[i]? = some x) {a : Option Addr} {c : Nat} (e : v = .slice a m c) :
    ∃ b off, a = some ⟨b, off, none⟩ ∧ b < w.heap.size ∧ w.cell? ⟨b, off + i, none⟩ = some x := by
  obtain ⟨a', c', e', -⟩ := h.shape
  rw [e] at e'
  injection e' with e1 e2 e3
  rw [e2] at e
  exact h.cell a c e i x hi
/-- What is held where, in order: only where a list's flag is up. -/
def held (up : List Bool) : Nat → List Ls → List (Nat × Vs)
  | _, [] => []
  | n, s :: r => (if up[n]? = some true then s.l.map (fun x => (n, x)) else []) ++ held up (n + 1) r
/-- The pairs ahead of list n. -/
def heldTo (up : List Bool) (ls : List Ls) (n : Nat) : List (Nat × Vs) := held up 0 (ls.take n)
end Go.Proofs.YtbgjbikpenefoaaGreatDoor

/- VD: what is needed of it (by shake.py). -/

/- VD, as far as the seat goes. -/
/- V12, V13, V14, V15 in one. -/
/- repair.judge: what is told of a half. -/
namespace Go.Proofs.YtbgjbikpenefoaaGreatDoor
set_option linter.unusedVariables false
open Go.RowKit
deriving instance DecidableEq for Val
end Go.Proofs.YtbgjbikpenefoaaGreatDoor
/- repair.seats: where each vertex is held first. -/
namespace Go.Proofs.YtbgjbikpenefoaaGreatDoor
set_option linter.unusedVariables false
open Go.RowKit
/-- The pairs met so far, in the midst of list k. -/
def part (up : List Bool) (ls : List Ls) (k : Nat) (xl : List Vs) (j : Nat) : List (Nat × Vs) := heldTo up ls k ++ (xl.take j).map (fun x => (k, x))
end Go.Proofs.YtbgjbikpenefoaaGreatDoor
/- repair.judge, whole. -/
namespace Go.Proofs.YtbgjbikpenefoaaGreatDoor
set_option linter.unusedVariables false
open Go.RowKit
end Go.Proofs.YtbgjbikpenefoaaGreatDoor
/- Is any list out of form? Is any flag down? (slices.ContainsFunc with repair.right, slices.Contains of flags.) -/
namespace Go.Proofs.YtbgjbikpenefoaaGreatDoor
set_option linter.unusedVariables false
open Go.RowKit
end Go.Proofs.YtbgjbikpenefoaaGreatDoor

/- VF: what is needed of it (by shake.py). -/

/- VF, as far as the seat goes. -/
/- V18, V19, V20 in one. -/
/- gussetlaw23.vertex: a vertex with halves. -/
namespace Go.Proofs.YtbgjbikpenefoaaGreatDoor
set_option linter.unusedVariables false
open Go.RowKit
def farE (f : Nat) : Ent := ⟨f, ⟨0, 0, ⟨#[]⟩⟩⟩
/-- One element, just laid. -/
theorem src_cells {w : World} {n0 size : Nat} (hn : w.heap.size = n0) (t : TypeId) (cs : Array Value) (hs : cs.size = size) (h1 : ∀ u ∈ cs.toList, u.oneCell' = true) : Src (w.alloc (.cells cs t)) size (.slice (some ⟨n0, 0, none⟩) 1 1) 1 cs.toList := by
  subst hn
  exact Src.one (size := size) w cs t 1 1 (by omega) h1
theorem cellsOf_snoc (k : IntKind) (l : List Ent) (x : Ent) : cellsOf k (l ++ [x]) = cellsOf k l ++ x.cells k := by simp [cellsOf]
end Go.Proofs.YtbgjbikpenefoaaGreatDoor
/- gussetlaw23.reports, gussetref23.Same. -/
namespace Go.Proofs.YtbgjbikpenefoaaGreatDoor
set_option linter.unusedVariables false
open Go.RowKit
end Go.Proofs.YtbgjbikpenefoaaGreatDoor
/- gussetlaw23.twins: lists of one's own. -/
namespace Go.Proofs.YtbgjbikpenefoaaGreatDoor
set_option linter.unusedVariables false
open Go.RowKit
def VOff (S : Nat → Prop) (s : Vs) : Prop := (∀ b, s.vp.ownBlock = some b → ¬ S b) ∧ (∀ b, s.vh.ownBlock = some b → ¬ S b)
def LOff (S : Nat → Prop) (v : Value) (l : List Vs) : Prop := (∀ b, v.ownBlock = some b → ¬ S b) ∧ ∀ s ∈ l, VOff S s
theorem VOff.mono {S T : Nat → Prop} {s : Vs} (h : VOff S s) (i : ∀ k, T k → S k) : VOff T s := ⟨fun b hb t => h.1 b hb (i b t), fun b hb t => h.2 b hb (i b t)⟩
theorem LOff.mono {S T : Nat → Prop} {v : Value} {l : List Vs} (h : LOff S v l) (i : ∀ k, T k → S k) : LOff T v l := ⟨fun b hb t => h.1 b hb (i b t), fun s hs => (h.2 s hs).mono i⟩
/-- A vertex whose slices lie in blocks that may be written. -/
structure VOwn (w : World) (s : Vs) : Prop where
  fits : s.x.Fits
  props : Seg w 61 4 s.vp s.x.props.length (cellsOf .u8 s.x.props)
  halves : Seg w 46 4 s.vh s.x.halves.length (cellsOf .u32 s.x.halves)
theorem VOwn.rd {w : World} {s : Vs} (h : VOwn w s) : VRd w s.vp s.vh s.x := ⟨h.fits, h.props.rdS, h.halves.rdS⟩
theorem VOwn.mod {S : Nat → Prop} {w w' : World} {s : Vs} (h : VOwn w s) (m : Mod S w w') (o : VOff S s) : VOwn w' s := ⟨h.fits, h.props.mod m o.1, h.halves.mod m o.2⟩
theorem VOwn.lt {w : World} {s : Vs} (h : VOwn w s) : VOff (fun k => w.heap.size ≤ k) s := ⟨fun b hb t => by have := h.props.lt b hb; omega, fun b hb t => by have := h.halves.lt b hb; omega⟩
theorem VNew.vown {w0 w : World} {vp vh : Value} {x : Vtx} (h : VNew w0 w vp vh x) : VOwn w ⟨x, vp, vh⟩ := ⟨h.fits, h.props, h.halves⟩
structure LOwn (w : World) (v : Value) (l : List Vs) : Prop where
  row : Seg w 40 4 v l.length (vcells l)
  each : ∀ s ∈ l, VOwn w s
  apart : ∀ s ∈ l, VOff (fun k => v.ownBlock = some k) s
theorem LOwn.rd {w : World} {v : Value} {l : List Vs} (h : LOwn w v l) : LRd w v l := ⟨h.row.rdS, fun s hs => (h.each s hs).rd⟩
theorem LOwn.mod {S : Nat → Prop} {w w' : World} {v : Value} {l : List Vs} (h : LOwn w v l) (m : Mod S w w') (o : LOff S v l) : LOwn w' v l := ⟨h.row.mod m o.1, fun s hs => (h.each s hs).mod m (o.2 s hs), h.apart⟩
theorem LOwn.lt {w : World} {v : Value} {l : List Vs} (h : LOwn w v l) : LOff (fun k => w.heap.size ≤ k) v l := ⟨fun b hb t => by have := h.row.lt b hb; omega, fun s hs => (h.each s hs).lt⟩
theorem LOwn.nil (w : World) : LOwn w (.slice none 0 0) [] := ⟨Seg.nil _ _ _, by simp, by simp⟩
theorem off_false_l {v : Value} {l : List Vs} : LOff (fun _ => False) v l := ⟨fun _ _ f => f, fun _ _ => ⟨fun _ _ f => f, fun _ _ f => f⟩⟩
theorem vcells_snoc (l : List Vs) (s : Vs) : vcells (l ++ [s]) = vcells l ++ s.cells := by simp [vcells]
theorem mod_grown {w w' : World} {v : Value} (g : w.grownBy w' v.ownBlock) : Mod (fun k => v.ownBlock = some k) w w' := ⟨g.os, g.tape, g.output, g.size, fun k hk hne => g.block k hk (fun e => hne e.symm)⟩
theorem infoVtx : (Tryz.prog.info? 40).map (fun i => (i.zero, i.size, i.bytes)) = some (some (.agg #[.int .u32 0, .bool false, .slice none 0 0, .slice none 0 0]), 4, 56) := by kernel_rfl
def Slim (x : Vtx) : Prop := x.props.length * 40 ≤ 140737488355328 ∧ x.halves.length * 40 ≤ 140737488355328
end Go.Proofs.YtbgjbikpenefoaaGreatDoor

/- VG: what is needed of it (by shake.py). -/

/- VG, as far as the seat goes. -/
/- V21, V22 in one. -/
/- gussetlaw23.twins, walked. -/
namespace Go.Proofs.YtbgjbikpenefoaaGreatDoor
set_option linter.unusedVariables false
open Go.RowKit
theorem take_map_succ {α β : Type} (f : α → β) {l : List α} {k : Nat} {x : α} (h : l[k]? = some x) : (l.take (k + 1)).map f = (l.take k).map f ++ [f x] := by
  obtain ⟨h1, h2⟩ := List.getElem?_eq_some_iff.1 h
  rw [List.take_succ_eq_append_getElem h1, h2]; simp
end Go.Proofs.YtbgjbikpenefoaaGreatDoor
/- gussetlaw23.awake. -/
namespace Go.Proofs.YtbgjbikpenefoaaGreatDoor
set_option linter.unusedVariables false
open Go.RowKit
def va : Vtx := ⟨1, true, [], [farE 2]⟩
def vb : Vtx := ⟨2, true, [], []⟩
theorem rd_lit (w : World) (t : TypeId) (cs : Array Value) (n size n0 : Nat) (h0 : w.heap.size = n0) (hs : cs.size = n * size) (hn : n ≤ maxLen) (h1 : ∀ u ∈ cs.toList, u.oneCell' = true) : RdS (w.alloc (.cells cs t)) size (.slice (some ⟨n0, 0, none⟩) n n) n cs.toList := by
  subst h0
  exact (Seg.lit (e := t) (size := size) w cs n hs hn h1).rdS
end Go.Proofs.YtbgjbikpenefoaaGreatDoor
