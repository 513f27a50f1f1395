/- repair.Compare: the reports, in order; the state of its loops. -/
import Derived.Test.YtdblilhkojafgaaV15
namespace Go.Proofs.Ytdblilhkojafgaa
set_option linter.unusedVariables false
open Go.RowKit

structure Rep where
  kind : Nat
  node : Nat
  id : Nat
  far : Nat
def Rep.cells (r : Rep) : List Value := [.int .u8 (r.kind : Int), .int .i64 (r.node : Int), .int .u32 (r.id : Int), .int .u32 (r.far : Int)]
def rcells (l : List Rep) : List Value := l.flatMap Rep.cells
theorem rcells_snoc (l : List Rep) (r : Rep) : rcells (l ++ [r]) = rcells l ++ r.cells := by simp [rcells]
theorem rcells_length (l : List Rep) : (rcells l).length = l.length * 4 := by
  induction l with
  | nil => rfl
  | cons x r ih => simp [rcells] at ih ⊢; rw [ih]; simp [Rep.cells]; omega
theorem rcells_get : ∀ (l : List Rep) (i j : Nat) (x : Rep), l[i]? = some x → j < 4 → (rcells l)[i * 4 + j]? = x.cells[j]?
  | [], i, j, x, h, _ => by simp at h
  | y :: r, 0, j, x, h, hj => by
    simp at h
    subst h
    show (y.cells ++ rcells r)[0 * 4 + j]? = _
    rw [Nat.zero_mul, Nat.zero_add, List.getElem?_append_left (by simpa [Rep.cells] using hj)]
  | y :: r, i + 1, j, x, h, hj => by
    simp at h
    show (y.cells ++ rcells r)[(i + 1) * 4 + j]? = _
    rw [List.getElem?_append_right (by simp [Rep.cells]; omega)]
    have e : (i + 1) * 4 + j - y.cells.length = i * 4 + j := by simp [Rep.cells]; omega
    rw [e]
    exact rcells_get r i j x h hj

/-- Is a vertex held ahead of this place? -/
def preR (ps : List (Nat × Vs)) (p : Nat × Vs) : List Rep := if (seatF ps p.2.x.id).map (·.1) = some p.1 then [] else [⟨1, p.1, p.2.x.id, 0⟩]
def halfR (ps : List (Nat × Vs)) (all : Bool) (p : Nat × Vs) (h : Ent) : List Rep := if judgeN ps p.2.x.id h all = 0 then [] else [⟨judgeN ps p.2.x.id h all, p.1, p.2.x.id, h.key⟩]
def repOf (ps : List (Nat × Vs)) (all : Bool) (p : Nat × Vs) : List Rep := preR ps p ++ p.2.x.halves.flatMap (halfR ps all p)
def allR (ps : List (Nat × Vs)) (all : Bool) : List Rep := ps.flatMap (repOf ps all)

theorem flat_succ {α β : Type} (g : α → List β) {l : List α} {i : Nat} {x : α} (h : l[i]? = some x) : (l.take (i + 1)).flatMap g = (l.take i).flatMap g ++ g x := by
  obtain ⟨hn, rfl⟩ := List.getElem?_eq_some_iff.1 h
  rw [List.take_succ_eq_append_getElem hn, List.flatMap_append]
  simp
theorem flat_take_le {α β : Type} (g : α → List β) (l : List α) (i : Nat) : ((l.take i).flatMap g).length ≤ (l.flatMap g).length := by
  conv => rhs; rw [← List.take_append_drop i l, List.flatMap_append, List.length_append]
  omega
theorem part_prefix {up : List Bool} {ls : List Ls} {k : Nat} {s : Ls} (h : ls[k]? = some s) (hu : up[k]? = some true) (j : Nat) : ∃ r, held up 0 ls = part up ls k s.l j ++ r := by
  have h1 := held_append up (ls.take (k + 1)) (ls.drop (k + 1)) 0
  rw [List.take_append_drop] at h1
  rw [h1, show held up 0 (ls.take (k + 1)) = heldTo up ls (k + 1) from rfl, heldTo_succ up ls k s h, if_pos hu]
  refine ⟨(s.l.drop j).map (fun x => (k, x)) ++ held up (0 + (ls.take (k + 1)).length) (ls.drop (k + 1)), ?_⟩
  simp only [part]
  rw [← List.append_assoc]
  congr 1
  rw [List.append_assoc, ← List.map_append, List.take_append_drop]
theorem part_flat_le {β : Type} (f : Nat × Vs → List β) {up : List Bool} {ls : List Ls} {k : Nat} {s : Ls} (h : ls[k]? = some s) (hu : up[k]? = some true) (j : Nat) : ((part up ls k s.l j).flatMap f).length ≤ ((held up 0 ls).flatMap f).length := by
  obtain ⟨r, hr⟩ := part_prefix h hu j
  rw [hr, List.flatMap_append, List.length_append]
  omega
theorem mid_le {ps : List (Nat × Vs)} {all : Bool} {up : List Bool} {ls : List Ls} {k j : Nat} {s : Ls} {y : Vs} (h : ls[k]? = some s) (hu : up[k]? = some true) (hy : s.l[j]? = some y) (i : Nat) :
    ((part up ls k s.l j).flatMap (repOf ps all) ++ preR ps (k, y) ++ (y.x.halves.take i).flatMap (halfR ps all (k, y))).length ≤ ((held up 0 ls).flatMap (repOf ps all)).length := by
  have h1 := part_flat_le (repOf ps all) h hu (j + 1)
  rw [part_succ hy, List.flatMap_append, List.length_append] at h1
  have h2 := flat_take_le (halfR ps all (k, y)) y.x.halves i
  simp only [List.flatMap_cons, List.flatMap_nil, List.append_nil, repOf, List.length_append] at h1 ⊢
  omega
theorem pre_le {ps : List (Nat × Vs)} {all : Bool} {up : List Bool} {ls : List Ls} {k j : Nat} {s : Ls} {y : Vs} (h : ls[k]? = some s) (hu : up[k]? = some true) (hy : s.l[j]? = some y) :
    ((part up ls k s.l j).flatMap (repOf ps all) ++ preR ps (k, y)).length ≤ ((held up 0 ls).flatMap (repOf ps all)).length := by
  have := mid_le (ps := ps) (all := all) h hu hy 0
  simpa using this
theorem mid_all {ps : List (Nat × Vs)} {all : Bool} {up : List Bool} {ls : List Ls} {k j : Nat} {l : List Vs} {y : Vs} (hy : l[j]? = some y) {i : Nat} (hi : y.x.halves.length ≤ i) :
    (part up ls k l j).flatMap (repOf ps all) ++ preR ps (k, y) ++ (y.x.halves.take i).flatMap (halfR ps all (k, y)) = (part up ls k l (j + 1)).flatMap (repOf ps all) := by
  rw [part_succ hy, List.flatMap_append, List.take_of_length_le hi]
  simp [repOf]
theorem part_all {up : List Bool} {ls : List Ls} {k j : Nat} {s : Ls} (h : ls[k]? = some s) (hu : up[k]? = some true) (hj : s.l.length ≤ j) : part up ls k s.l j = heldTo up ls (k + 1) := by
  rw [heldTo_succ up ls k s h, if_pos hu, part, List.take_of_length_le hj]
theorem part_zero (up : List Bool) (ls : List Ls) (k : Nat) (l : List Vs) : part up ls k l 0 = heldTo up ls k := by simp [part]
theorem heldTo_skip {up : List Bool} {ls : List Ls} {k : Nat} {s : Ls} (h : ls[k]? = some s) (hu : up[k]? = some false) : heldTo up ls (k + 1) = heldTo up ls k := by
  rw [heldTo_succ up ls k s h, hu]; simp
theorem part_seat {up : List Bool} {ls : List Ls} {k j : Nat} {s : Ls} {y : Vs} (h : ls[k]? = some s) (hu : up[k]? = some true) (hy : s.l[j]? = some y) : ∃ q, seatF (held up 0 ls) y.x.id = some q := by
  obtain ⟨r, hr⟩ := part_prefix h hu (j + 1)
  have hm : (k, y) ∈ held up 0 ls := by rw [hr, part_succ hy]; simp
  cases hs : seatF (held up 0 ls) y.x.id with
  | some q => exact ⟨q, rfl⟩
  | none =>
    have := List.find?_eq_none.1 hs (k, y) hm
    simp at this

/-- The state of Compare's loops: the map of seats lies at bm, the reports so far are reps. -/
structure CAt (w : World) (bm : Nat) (es : Ents) (vo : Value) (reps : List Rep) (wr : World) : Prop where
  mod : Mod (fun _ => False) w wr
  bmge : w.heap.size ≤ bm
  map : UMap Try.prog 27 .u32 wr bm es
  out : Seg wr 39 4 vo reps.length (rcells reps)
  own : ∀ b, vo.ownBlock = some b → w.heap.size ≤ b ∧ b ≠ bm
theorem CAt.more {w wr wy : World} {bm : Nat} {es : Ents} {vo : Value} {reps : List Rep} (h : CAt w bm es vo reps wr) (m : Mod (fun _ => False) wr wy) : CAt w bm es vo reps wy :=
  ⟨h.mod.trans m, h.bmge, h.map.keep m, h.out.mod m (fun _ _ f => f), h.own⟩
theorem CAt.app {w wr wy : World} {bm : Nat} {es : Ents} {vo v' : Value} {reps : List Rep} (r : Rep) (h : CAt w bm es vo reps wr) (hs : Seg wy 39 4 v' (reps.length + 1) (rcells reps ++ r.cells)) (hg : wr.grownBy wy vo.ownBlock)
    (ho : v'.ownBlock = vo.ownBlock ∨ v'.ownBlock = some wr.heap.size) : CAt w bm es v' (reps ++ [r]) wy := by
  refine ⟨h.mod.grown hg (fun b hb hlt => ?_), h.bmge, ?_, ?_, fun b hb => ?_⟩
  · have := (h.own b hb).1; omega
  · exact h.map.mod (S := fun k => some k = vo.ownBlock) ⟨hg.os, hg.tape, hg.output, hg.size, fun k hk hne => hg.block k hk hne⟩ (fun e => (h.own bm e.symm).2 rfl)
  · rw [rcells_snoc, List.length_append]; exact hs
  · rcases ho with ho | ho
    · exact h.own b (by rw [← ho]; exact hb)
    · rw [ho] at hb
      injection hb with hb
      have h1 := h.map.lt
      have h2 := h.mod.size
      omega
/-- A block of one's own, kept by an append. -/
theorem CAt.kept {w wr wy : World} {bm : Nat} {es : Ents} {vo : Value} {reps : List Rep} (h : CAt w bm es vo reps wr) (hg : wr.grownBy wy vo.ownBlock) {b : Nat} {o : Obj} (hb : wr.heap[b]? = some o) (hne : vo.ownBlock ≠ some b) : wy.heap[b]? = some o :=
  (hg.block b (lt_of_block hb) (fun e => hne e.symm)).trans hb
theorem infoRep : (Try.prog.info? 39).map (fun i => (i.zero, i.size, i.bytes)) = some (some (.agg #[.int .u8 0, .int .i64 0, .int .u32 0, .int .u32 0]), 4, 24) := by kernel_rfl
theorem Rep.ones (r : Rep) : ∀ u ∈ r.cells, u.oneCell' = true := by
  intro u hu
  simp only [Rep.cells, List.mem_cons, List.not_mem_nil, or_false] at hu
  rcases hu with rfl | rfl | rfl | rfl <;> rfl
theorem field_seat (w : World) (a : Int) (k : IntKind) (b c d e : Value) : (Instr.field 92 (.agg #[.int k a, b, c, d, e]) 0).run Try.prog w = .ok (.int k a) w := by
  simp [Instr.field, run_underlying Try.underlying92, go_sem, asAgg]
/-- One report, just laid. -/
theorem src_rep {w : World} {n0 : Nat} (hn : w.heap.size = n0) (r : Rep) : Src (w.alloc (.cells #[.int .u8 (r.kind : Int), .int .i64 (r.node : Int), .int .u32 (r.id : Int), .int .u32 (r.far : Int)] 39)) 4 (.slice (some ⟨n0, 0, none⟩) 1 1) 1 r.cells := by
  subst hn
  exact Src.one (size := 4) w #[.int .u8 (r.kind : Int), .int .i64 (r.node : Int), .int .u32 (r.id : Int), .int .u32 (r.far : Int)] 39 1 1 rfl (Rep.ones r)
theorem own_ne {vo v' : Value} {w : World} {b : Nat} (ho : v'.ownBlock = vo.ownBlock ∨ v'.ownBlock = some w.heap.size) (h : vo.ownBlock ≠ some b) (hb : b < w.heap.size) : v'.ownBlock ≠ some b := by
  rcases ho with e | e
  · rw [e]; exact h
  · rw [e]; intro e'; injection e' with e'; omega
end Go.Proofs.Ytdblilhkojafgaa
