/- Lists of lists of vertices, flags, and where each vertex is held first: the data. -/
import Derived.Test.YtdblilhkojafgaaV10
namespace Go.Proofs.Ytdblilhkojafgaa
set_option linter.unusedVariables false
open Go.RowKit

/-- A list with its slice. -/
structure Ls where
  v : Value
  l : List Vs
/-- A list of lists, only read. -/
structure LLRd (w : World) (v : Value) (ls : List Ls) : Prop where
  row : RdS w 1 v ls.length (ls.map Ls.v)
  each : ∀ s ∈ ls, LRd w s.v s.l
theorem LLRd.keep {w w' : World} {v : Value} {ls : List Ls} (h : LLRd w v ls) (m : Mod (fun _ => False) w w') : LLRd w' v ls := ⟨h.row.keep m, fun s hs => (h.each s hs).keep m⟩
theorem LLRd.at {w : World} {v : Value} {ls : List Ls} (h : LLRd w v ls) {i : Nat} {x : Ls} (hi : ls[i]? = some x) : LRd w x.v x.l := h.each x (List.mem_of_getElem? hi)
theorem RdS.one {w : World} {v : Value} {n m : Nat} {xs : List Value} (h : RdS w 1 v n xs) {i : Nat} {x : Value} (hi : xs[i]? = some x) {a : Option Addr} {c : Nat} (e : v = .slice a m c) :
    ∃ b off, a = some ⟨b, off, none⟩ ∧ b < w.heap.size ∧ w.cell? ⟨b, off + i, none⟩ = some x := by
  obtain ⟨a', c', e', -⟩ := h.shape
  rw [e] at e'
  injection e' with e1 e2 e3
  rw [e2] at e
  exact h.cell a c e i x hi
theorem LLRd.ent {w : World} {v : Value} {ls : List Ls} (h : LLRd w v ls) {i : Nat} {x : Ls} (hi : ls[i]? = some x) {a : Option Addr} {n c : Nat} (e : v = .slice a n c) :
    ∃ b off, a = some ⟨b, off, none⟩ ∧ b < w.heap.size ∧ w.cell? ⟨b, off + i, none⟩ = some x.v :=
  h.row.one (by simp [hi]) e
/-- Flags, only read. -/
def FRd (w : World) (v : Value) (up : List Bool) : Prop := RdS w 1 v up.length (up.map Value.bool)
theorem FRd.keep {w w' : World} {v : Value} {up : List Bool} (h : FRd w v up) (m : Mod (fun _ => False) w w') : FRd w' v up := RdS.keep h m
theorem FRd.ent {w : World} {v : Value} {up : List Bool} (h : FRd w v up) {i : Nat} {x : Bool} (hi : up[i]? = some x) {a : Option Addr} {n c : Nat} (e : v = .slice a n c) :
    ∃ b off, a = some ⟨b, off, none⟩ ∧ b < w.heap.size ∧ w.cell? ⟨b, off + i, none⟩ = some (.bool x) :=
  RdS.one h (by simp [hi]) e

/-- What is held where, in order: only where a list's flag is up. -/
def held (up : List Bool) : Nat → List Ls → List (Nat × Vs)
  | _, [] => []
  | n, s :: r => (if up[n]? = some true then s.l.map (fun x => (n, x)) else []) ++ held up (n + 1) r
def seatV (p : Nat × Vs) : Value := .agg #[.int .i64 (p.1 : Int), .int .u32 (p.2.x.id : Int), .bool p.2.x.there, p.2.vp, p.2.vh]
def seatF (ps : List (Nat × Vs)) (k : Nat) : Option (Nat × Vs) := ps.find? fun p => p.2.x.id == k
/-- The map tells, for each number, the first of the pairs that has it. -/
def Tells (ps : List (Nat × Vs)) (es : Ents) : Prop := ∀ k, getL k es = (seatF ps k).map seatV
theorem Tells.nil : Tells [] [] := fun k => rfl
theorem seatF_snoc (ps : List (Nat × Vs)) (p : Nat × Vs) (k : Nat) : seatF (ps ++ [p]) k = (seatF ps k).or (if p.2.x.id = k then some p else none) := by
  simp only [seatF, List.find?_append]
  congr 1
  by_cases h : p.2.x.id = k <;> simp [h]
theorem Tells.old {ps : List (Nat × Vs)} {es : Ents} (h : Tells ps es) (p : Nat × Vs) (ho : getL p.2.x.id es ≠ none) : Tells (ps ++ [p]) es := by
  intro k
  rw [seatF_snoc, h k]
  by_cases hk : p.2.x.id = k
  · subst hk
    rw [h] at ho
    cases hs : seatF ps p.2.x.id with
    | none => rw [hs] at ho; exact absurd rfl ho
    | some q => rfl
  · simp [hk]
theorem Tells.new {ps : List (Nat × Vs)} {es : Ents} (h : Tells ps es) (p : Nat × Vs) (ho : getL p.2.x.id es = none) : Tells (ps ++ [p]) (putL p.2.x.id (seatV p) es) := by
  intro k
  rw [seatF_snoc, getL_putL, h k]
  by_cases hk : p.2.x.id = k
  · subst hk
    rw [h] at ho
    have : seatF ps p.2.x.id = none := by
      cases hs : seatF ps p.2.x.id with
      | none => rfl
      | some q => rw [hs] at ho; cases ho
    simp [this]
  · simp [hk]
/-- The pairs ahead of list n. -/
def heldTo (up : List Bool) (ls : List Ls) (n : Nat) : List (Nat × Vs) := held up 0 (ls.take n)
theorem held_append (up : List Bool) : ∀ (a b : List Ls) (n : Nat), held up n (a ++ b) = held up n a ++ held up (n + a.length) b
  | [], b, n => by simp [held]
  | s :: r, b, n => by
    simp only [List.cons_append, held, held_append up r b (n + 1), List.append_assoc, List.length_cons]
    rw [show n + 1 + r.length = n + (r.length + 1) by omega]
theorem heldTo_succ (up : List Bool) (ls : List Ls) (n : Nat) (s : Ls) (h : ls[n]? = some s) : heldTo up ls (n + 1) = heldTo up ls n ++ (if up[n]? = some true then s.l.map (fun x => (n, x)) else []) := by
  obtain ⟨hn, rfl⟩ := List.getElem?_eq_some_iff.1 h
  unfold heldTo
  rw [List.take_succ_eq_append_getElem hn, held_append]
  simp [held, Nat.min_eq_left (Nat.le_of_lt hn)]
theorem heldTo_all (up : List Bool) (ls : List Ls) (n : Nat) (h : ls.length ≤ n) : heldTo up ls n = held up 0 ls := by
  unfold heldTo
  rw [List.take_of_length_le h]
end Go.Proofs.Ytdblilhkojafgaa
