/- gussetlaw23.RepairTurns: the states of its loops. -/
import Derived.Test.YtdblilhkojafgaaV24
namespace Go.Proofs.Ytdblilhkojafgaa
set_option linter.unusedVariables false
open Go.RowKit

def flatV (ls : List Ls) : List Vs := ls.flatMap Ls.l
def idsV (l : List Vs) : List Nat := l.map fun s => s.x.id
structure SeenAt (w : World) (bm : Nat) (ids : List Nat) (wr : World) : Prop where
  mod : Mod (fun _ => False) w wr
  ge : w.heap.size ≤ bm
  nd : ids.Nodup
  map : ∃ es, UMap Try.prog 27 .u32 wr bm es ∧ (∀ k, getL k es = if k ∈ ids then some (.bool true) else none) ∧ es.length ≤ ids.length
theorem SeenAt.more {w wr wy : World} {bm : Nat} {ids : List Nat} (h : SeenAt w bm ids wr) (m : Mod (fun _ => False) wr wy) : SeenAt w bm ids wy := by
  obtain ⟨es, h1, h2, h3⟩ := h.map
  exact ⟨h.mod.trans m, h.ge, h.nd, es, h1.keep m, h2, h3⟩
theorem SeenAt.start {w w1 : World} (m : Mod (fun _ => False) w w1) : SeenAt w w1.heap.size [] (w1.alloc (.map #[] 0)) :=
  ⟨m.alloc _, m.size, List.nodup_nil, [], UMap.made _ _ _ _, fun k => by simp [getL], Nat.le_refl _⟩
theorem zero_bool (w : World) : (zeroValue 4).run Try.prog w = .ok (.bool false) w := Try.zeroValue4 w
theorem SeenAt.look {w wr w' : World} {bm : Nat} {ids : List Nat} (h : SeenAt w bm ids wr) (m : Mod (fun _ => False) wr w') {k : Nat} (hk : (Lit.int .u32 (k : Int)).wf = true) : (Instr.lookup 25 (.map (some bm)) (.int .u32 (k : Int)) false).run Try.prog w' = .ok (.bool (decide (k ∈ ids))) w' := by
  obtain ⟨es, h1, h2, h3⟩ := h.map
  have := (h1.keep m).get Try.underlying27 Try.underlying25 (zero_bool w') hk
  rw [this, h2]
  by_cases hm : k ∈ ids <;> simp [hm]
theorem SeenAt.put {w wr w' : World} {bm : Nat} {ids : List Nat} (h : SeenAt w bm ids wr) (m : Mod (fun _ => False) wr w') {k : Nat} (hk : (Lit.int .u32 (k : Int)).wf = true) (hn : k ∉ ids) (hl : ids.length < maxLen) :
    ∃ w5, (Instr.mapUpdate 25 (.map (some bm)) (.int .u32 (k : Int)) (.bool true)).run Try.prog w' = .ok () w5 ∧ SeenAt w bm (ids ++ [k]) w5 := by
  obtain ⟨es, h1, h2, h3⟩ := h.map
  obtain ⟨w5, hr, hu, hm⟩ := (h1.keep m).store Try.underlying27 Try.underlying25 (by omega) hk (.bool true)
  have hge := h.ge
  refine ⟨w5, hr, (h.mod.trans m).trans' hm (fun i hlt e => by omega), h.ge, ?_, putL k (.bool true) es, hu, fun j => ?_, ?_⟩
  · rw [List.nodup_append]
    exact ⟨h.nd, by simp, fun a ha b hb => by simp at hb; subst hb; intro e; exact hn (e ▸ ha)⟩
  · rw [getL_putL, h2]
    by_cases hj : k = j
    · subst hj; simp
    · have : j ≠ k := fun e => hj e.symm
      by_cases hm : j ∈ ids <;> simp [hj, hm, this]
  · have := putL_length k (.bool true) es
    rw [List.length_append]
    simp only [List.length_singleton]
    omega

/-- A list turned about. -/
def rot {α : Type} (k : Nat) (l : List α) : List α := l.drop k ++ l.take k
theorem rot_length {α : Type} (k : Nat) (l : List α) : (rot k l).length = l.length := by simp [rot]; omega
theorem rot_perm {α : Type} (k : Nat) (l : List α) : l.Perm (rot k l) := by
  have := List.perm_append_comm (l₁ := l.take k) (l₂ := l.drop k)
  rwa [List.take_append_drop] at this
theorem rot_map {α β : Type} (f : α → β) (k : Nat) (l : List α) : rot k (l.map f) = (rot k l).map f := by simp [rot]
theorem rot_get {α : Type} {k n i : Nat} {l : List α} (hl : n = l.length) (hk : k < n) (hi : i < n) : (rot k l)[i]? = l[(k + i) % n]? := by
  unfold rot
  by_cases h : i < n - k
  · rw [List.getElem?_append_left (by simp; omega), List.getElem?_drop, Nat.mod_eq_of_lt (by omega)]
  · rw [List.getElem?_append_right (by simp; omega), List.getElem?_take, List.length_drop, ← hl, if_pos (by omega)]
    congr 1
    rw [Nat.mod_eq_sub_mod (by omega), Nat.mod_eq_of_lt (by omega)]
    omega

/-- Two lists that are being made. -/
structure OnAt (w : World) (o u : Value) (i : Nat) (A B : List Value) (wr : World) : Prop where
  one : Grow w 26 1 o i A wr
  two : Grow w 4 1 u i B wr
  apart : ∀ b, o.ownBlock = some b → u.ownBlock ≠ some b
structure OnMid (w : World) (o u : Value) (i : Nat) (A B : List Value) (wr : World) : Prop where
  one : Grow w 26 1 o (i + 1) A wr
  two : Grow w 4 1 u i B wr
  apart : ∀ b, o.ownBlock = some b → u.ownBlock ≠ some b
theorem OnAt.start {w w1 : World} (m : Mod (fun _ => False) w w1) : OnAt w (.slice none 0 0) (.slice none 0 0) 0 [] [] w1 :=
  ⟨(Grow.begin w _ _).more m, (Grow.begin w _ _).more m, fun b hb => by simp [Value.ownBlock] at hb⟩
theorem OnAt.more {w wr wy : World} {o u : Value} {i : Nat} {A B : List Value} (h : OnAt w o u i A B wr) (m : Mod (fun _ => False) wr wy) : OnAt w o u i A B wy := ⟨h.one.more m, h.two.more m, h.apart⟩
theorem OnMid.more {w wr wy : World} {o u : Value} {i : Nat} {A B : List Value} (h : OnMid w o u i A B wr) (m : Mod (fun _ => False) wr wy) : OnMid w o u i A B wy := ⟨h.one.more m, h.two.more m, h.apart⟩
theorem OnAt.app {w wr wy : World} {o u v' : Value} {i : Nat} {A B : List Value} {x : Value} (h : OnAt w o u i A B wr) (hs : Seg wy 26 1 v' (i + 1) (A ++ [x])) (hg : wr.grownBy wy o.ownBlock) (ho : v'.ownBlock = o.ownBlock ∨ v'.ownBlock = some wr.heap.size) : OnMid w v' u i (A ++ [x]) B wy := by
  have g := h.one.app hs hg ho
  refine ⟨g, ⟨g.mod, h.two.seg.mod (mod_grown hg) (fun b hb e => h.apart b e hb), h.two.own⟩, fun b hb e => ?_⟩
  rcases ho with ho | ho
  · exact h.apart b (by rw [← ho]; exact hb) e
  · rw [ho] at hb; injection hb with hb; have := h.two.seg.lt b e; omega
theorem OnMid.app {w wr wy : World} {o u v' : Value} {i : Nat} {A B : List Value} {x : Value} (h : OnMid w o u i A B wr) (hs : Seg wy 4 1 v' (i + 1) (B ++ [x])) (hg : wr.grownBy wy u.ownBlock) (ho : v'.ownBlock = u.ownBlock ∨ v'.ownBlock = some wr.heap.size) : OnAt w o v' (i + 1) A (B ++ [x]) wy := by
  have g := h.two.app hs hg ho
  refine ⟨⟨g.mod, h.one.seg.mod (mod_grown hg) (fun b hb e => h.apart b hb e), h.one.own⟩, g, fun b hb e => ?_⟩
  rcases ho with ho | ho
  · exact h.apart b hb (by rw [← ho]; exact e)
  · rw [ho] at e; injection e with e; have := h.one.seg.lt b hb; omega
theorem infoBool : (Try.prog.info? 4).map (fun i => (i.zero, i.size, i.bytes)) = some (some (.bool false), 1, 1) := by kernel_rfl
/-- append([]T{}, xs...), elements of any size. -/
theorem fresh_any {w w2 : World} {t : TypeId} {size : Nat} {v : Value} {n n0 : Nat} {xs : List Value} (hn : w.heap.size = n0)
    (hs : Seg w2 t size v (0 + n) ([] ++ xs)) (hg : (w.alloc (.cells #[] t)).grownBy w2 (Value.ownBlock (.slice (some ⟨n0, 0, none⟩) 0 0)))
    (ho : v.ownBlock = Value.ownBlock (.slice (some ⟨n0, 0, none⟩) 0 0) ∨ v.ownBlock = some (w.alloc (.cells #[] t)).heap.size) : Seg w2 t size v n xs ∧ Mod (fun _ => False) w w2 := by
  subst hn
  refine ⟨by simpa using hs, ((Mod.refl _ w).alloc _).grown hg (fun b hb hlt => ?_)⟩
  simp [Value.ownBlock] at hb; omega
theorem empty_any (w : World) (t : TypeId) (size : Nat) {n0 : Nat} (hn : w.heap.size = n0) : Seg (w.alloc (.cells #[] t)) t size (.slice (some ⟨n0, 0, none⟩) 0 0) 0 [] := by
  subst hn
  exact Seg.lit (e := t) (size := size) w #[] 0 (by simp) (Nat.zero_le _) (by simp)

/-- The counts by kind. -/
def cntA (l : List Rep) : Array Value := #[.int .i64 (cntK l 0 : Int), .int .i64 (cntK l 1 : Int), .int .i64 (cntK l 2 : Int), .int .i64 (cntK l 3 : Int), .int .i64 (cntK l 4 : Int)]
theorem cntA_get (l : List Rep) {j : Nat} (h : j < 5) : (cntA l)[j]? = some (.int .i64 (cntK l j : Int)) := by
  match j, h with
  | 0, _ | 1, _ | 2, _ | 3, _ | 4, _ => rfl
theorem cntK_snoc (l : List Rep) (r : Rep) (j : Nat) : cntK (l ++ [r]) j = cntK l j + (if r.kind % 5 = j then 1 else 0) := by
  simp [cntK, List.countP_append, List.countP_cons]
theorem cntA_set (l : List Rep) (r : Rep) : (cntA l).setIfInBounds (r.kind % 5) (.int .i64 ((cntK l (r.kind % 5) : Int) + 1)) = cntA (l ++ [r]) := by
  have h : r.kind % 5 < 5 := Nat.mod_lt _ (by omega)
  unfold cntA
  simp only [cntK_snoc]
  generalize r.kind % 5 = j at *
  match j, h with
  | 0, _ | 1, _ | 2, _ | 3, _ | 4, _ => simp
theorem cntK_le (l : List Rep) (j : Nat) : cntK l j ≤ l.length := List.countP_le_length
structure CtAt (w : World) (bx by_ : Nat) (cx cy : Array Value) (t : TypeId) (wr : World) : Prop where
  mod : Mod (fun _ => False) w wr
  ge : w.heap.size ≤ bx ∧ w.heap.size ≤ by_
  ne : bx ≠ by_
  x : wr.heap[bx]? = some (.cells cx t (0, 0))
  y : wr.heap[by_]? = some (.cells cy t (0, 0))
theorem CtAt.more {w wr wy : World} {bx by_ : Nat} {cx cy : Array Value} {t : TypeId} (h : CtAt w bx by_ cx cy t wr) (m : Mod (fun _ => False) wr wy) : CtAt w bx by_ cx cy t wy := ⟨h.mod.trans m, h.ge, h.ne, m.heap h.x (fun f => f), m.heap h.y (fun f => f)⟩
theorem CtAt.setx {w wr : World} {bx by_ : Nat} {cx cy : Array Value} {t : TypeId} (h : CtAt w bx by_ cx cy t wr) (j : Nat) (u : Value) : CtAt w bx by_ (cx.setIfInBounds j u) cy t (wr.setCell ⟨bx, j, none⟩ u) :=
  ⟨h.mod.setCell (fun hlt => absurd hlt (Nat.not_lt.2 h.ge.1)) u, h.ge, h.ne, row_setCell h.x j u, (heap_setCell_other _ _ _ _ (fun e => h.ne e.symm)).trans h.y⟩
theorem CtAt.sety {w wr : World} {bx by_ : Nat} {cx cy : Array Value} {t : TypeId} (h : CtAt w bx by_ cx cy t wr) (j : Nat) (u : Value) : CtAt w bx by_ cx (cy.setIfInBounds j u) t (wr.setCell ⟨by_, j, none⟩ u) :=
  ⟨h.mod.setCell (fun hlt => absurd hlt (Nat.not_lt.2 h.ge.2)) u, h.ge, h.ne, (heap_setCell_other _ _ _ _ h.ne).trans h.x, row_setCell h.y j u⟩
theorem CtAt.start (w : World) : CtAt w w.heap.size (w.heap.size + 1) (cntA ([] : List Rep)) (cntA ([] : List Rep)) 37 ((w.alloc (.cells #[.int .i64 0, .int .i64 0, .int .i64 0, .int .i64 0, .int .i64 0] 37)).alloc (.cells #[.int .i64 0, .int .i64 0, .int .i64 0, .int .i64 0, .int .i64 0] 37)) :=
  ⟨((Mod.refl _ _).alloc _).alloc _, ⟨Nat.le_refl _, Nat.le_succ _⟩, by omega, heap_alloc_old (heap_alloc_new' w _), by
    have h := heap_alloc_new' (w.alloc (.cells #[.int .i64 0, .int .i64 0, .int .i64 0, .int .i64 0, .int .i64 0] 37)) (.cells #[.int .i64 0, .int .i64 0, .int .i64 0, .int .i64 0, .int .i64 0] 37)
    have e : (w.alloc (.cells #[.int .i64 0, .int .i64 0, .int .i64 0, .int .i64 0, .int .i64 0] 37)).heap.size = w.heap.size + 1 := by simp
    rw [e] at h
    exact h⟩
end Go.Proofs.Ytdblilhkojafgaa
