/- A list of vertices. -/
import Derived.Test.YtdblilhkojafgaaV8
namespace Go.Proofs.Ytdblilhkojafgaa
set_option linter.unusedVariables false
open Go.RowKit

/-- A vertex with its slices. -/
structure Vs where
  x : Vtx
  vp : Value
  vh : Value
def Vs.v (s : Vs) : Value := vtxV s.x s.vp s.vh
def Vs.cells (s : Vs) : List Value := [.int .u32 (s.x.id : Int), .bool s.x.there, s.vp, s.vh]
def vcells (l : List Vs) : List Value := l.flatMap Vs.cells
theorem vcells_length (l : List Vs) : (vcells l).length = l.length * 4 := by
  induction l with
  | nil => rfl
  | cons x r ih => simp [vcells] at ih ⊢; rw [ih]; simp [Vs.cells]; omega
theorem vcells_get : ∀ (l : List Vs) (i j : Nat) (x : Vs), l[i]? = some x → j < 4 → (vcells l)[i * 4 + j]? = x.cells[j]?
  | [], i, j, x, h, _ => by simp at h
  | y :: r, 0, j, x, h, hj => by
    simp at h
    subst h
    show (y.cells ++ vcells r)[0 * 4 + j]? = _
    rw [Nat.zero_mul, Nat.zero_add, List.getElem?_append_left (by simpa [Vs.cells] using hj)]
  | y :: r, i + 1, j, x, h, hj => by
    simp at h
    show (y.cells ++ vcells r)[(i + 1) * 4 + j]? = _
    rw [List.getElem?_append_right (by simp [Vs.cells]; omega)]
    have e : (i + 1) * 4 + j - y.cells.length = i * 4 + j := by simp [Vs.cells]; omega
    rw [e]
    exact vcells_get r i j x h hj
/-- A list of vertices, only read. -/
structure LRd (w : World) (v : Value) (l : List Vs) : Prop where
  row : RdS w 4 v l.length (vcells l)
  each : ∀ s ∈ l, VRd w s.vp s.vh s.x
theorem LRd.keep {w w' : World} {v : Value} {l : List Vs} (h : LRd w v l) (m : Mod (fun _ => False) w w') : LRd w' v l := ⟨h.row.keep m, fun s hs => (h.each s hs).keep m⟩
theorem LRd.at {w : World} {v : Value} {l : List Vs} (h : LRd w v l) {i : Nat} {x : Vs} (hi : l[i]? = some x) : VRd w x.vp x.vh x.x := h.each x (List.mem_of_getElem? hi)
/-- The cells of element i. -/
theorem LRd.ent {w : World} {v : Value} {l : List Vs} (h : LRd w v l) {i : Nat} {x : Vs} (hi : l[i]? = some x) {a : Option Addr} {n c : Nat} (e : v = .slice a n c) :
    ∃ b off, a = some ⟨b, off, none⟩ ∧ b < w.heap.size ∧ w.cell? ⟨b, off + i * 4, none⟩ = some (.int .u32 (x.x.id : Int)) ∧ w.cell? ⟨b, off + i * 4 + 1, none⟩ = some (.bool x.x.there) ∧ w.cell? ⟨b, off + i * 4 + 2, none⟩ = some x.vp ∧ w.cell? ⟨b, off + i * 4 + 3, none⟩ = some x.vh := by
  have g := fun j hj => vcells_get l i j x hi hj
  obtain ⟨a', c', e', -⟩ := h.row.shape
  rw [e] at e'
  injection e' with e1 e2 e3
  rw [e2] at e
  obtain ⟨b, off, ea, hb, h0⟩ := h.row.cell a c e (i * 4 + 0) (.int .u32 (x.x.id : Int)) (by rw [g 0 (by omega)]; rfl)
  obtain ⟨b1, off1, ea1, _, h1⟩ := h.row.cell a c e (i * 4 + 1) (.bool x.x.there) (by rw [g 1 (by omega)]; rfl)
  obtain ⟨b2, off2, ea2, _, h2⟩ := h.row.cell a c e (i * 4 + 2) x.vp (by rw [g 2 (by omega)]; rfl)
  obtain ⟨b3, off3, ea3, _, h3⟩ := h.row.cell a c e (i * 4 + 3) x.vh (by rw [g 3 (by omega)]; rfl)
  rw [ea] at ea1 ea2 ea3
  injection ea1 with e1; injection e1 with e1 e1'
  injection ea2 with e2; injection e2 with e2 e2'
  injection ea3 with e3; injection e3 with e3 e3'
  subst e1 e1' e2 e2' e3 e3'
  exact ⟨b, off, ea, hb, h0, by rw [Nat.add_assoc]; exact h1, by rw [Nat.add_assoc]; exact h2, by rw [Nat.add_assoc]; exact h3⟩

theorem del_ins_le (k : Nat) (v : Value) (es : Ents) : (delL k (insL (k, v) es)).length ≤ es.length := by
  induction es with
  | nil => simp [insL, delL]
  | cons p r ih =>
    simp only [insL]
    split
    · have := List.length_filter_le (fun p : Nat × Value => !(p.1 == k)) (p :: r)
      show (List.filter _ ((k, v) :: p :: r)).length ≤ _
      rw [List.filter_cons_of_neg (by simp)]
      exact this
    · have h2 : (delL k (p :: insL (k, v) r)).length ≤ (delL k (insL (k, v) r)).length + 1 := by
        simp only [delL, List.filter_cons]
        split <;> simp
      simp only [List.length_cons]
      omega
theorem del_put_le (k : Nat) (v : Value) (es : Ents) : (delL k (putL k v es)).length ≤ (delL k es).length := del_ins_le k v _

theorem ins_le (k : Nat) (v : Value) (es : Ents) : (insL (k, v) es).length ≤ es.length + 1 := by
  induction es with
  | nil => simp [insL]
  | cons p r ih =>
    simp only [insL]
    split
    · simp
    · simp only [List.length_cons]; omega
theorem putL_length' (k : Nat) (v : Value) (es : Ents) : (putL k v es).length ≤ (delL k es).length + 1 := ins_le k v _

/-- The worlds of the loop of repair.right: the boxed vertex lies at b5, the graph at g. -/
structure RC (w0 : World) (g bm b5 id n : Nat) (o : Array Value) where
  w : World
  mod : Mod (fun _ => False) w0 w
  box : w.heap[b5]? = some (.cells o 31 (0, 0))
  es : Ents
  gat : GAt w g bm es
  l1 : es.length ≤ n + 1
  l2 : (delL id es).length ≤ n
theorem RC.cell {w0 : World} {g bm b5 id n : Nat} {o : Array Value} (x : RC w0 g bm b5 id n o) {a : Addr} {v : Value} (h : w0.cell? a = some v) : x.w.cell? a = some v := x.mod.cell h
theorem RC.boxc {w0 : World} {g bm b5 id n : Nat} {o : Array Value} (x : RC w0 g bm b5 id n o) {j : Nat} {v : Value} (h : o[j]? = some v) : x.w.cell? ⟨b5, j, none⟩ = some v := by
  have := cell_of_row x.box j
  rw [h] at this
  simpa using this
section
variable {w0 W : World} {g bm b5 id n : Nat} {o : Array Value}
theorem RC.startR (x : RC w0 g bm b5 id n o) (h : x.w = W) : ∃ y : RC w0 g bm b5 id n o, ({ W with drawn := W.drawn + 1 } : World) = y.w := by
  subst h
  exact ⟨⟨_, x.mod.trans (Mod.refl (fun _ => False) x.w).drew, (Mod.refl (fun _ => False) x.w).drew.heap x.box (fun f => f), x.es, x.gat.mod (Mod.refl (fun _ => False) x.w).drew (fun f => f) (fun f => f), x.l1, x.l2⟩, rfl⟩
theorem wp_region_RC {P : Program} {k : Nat} {Q : Exit → Act → World → Prop} {a : Act} {l : List Oper} (x : RC w0 g bm b5 id n o) (hx : x.w = W) (hm : P.follows .mixedOrders = true) (hB : Region.lexB .any l.toArray = true)
    (h : wpQuiet P l.toArray (fun w' => ∃ x : RC w0 g bm b5 id n o, w' = x.w) (fun a' => ∀ w', (∃ x : RC w0 g bm b5 id n o, w' = x.w) → Q .normal a' w') l a) : (Code.region k l.toArray true).wp P Q a W :=
  wp_region_quiet (C := fun w' => ∃ x : RC w0 g bm b5 id n o, w' = x.w) hm hB (x.startR hx) (by simpa using h)
end
/-- Put, in the loop. -/
theorem put_RC (s : Vs) {w0 : World} {g bm b5 n : Nat} {o : Array Value} (hb : w0.heap.size ≤ bm) (h5 : bm ≠ b5) (hn : n + 1 < 1000000) (hr : s.x.right = true) (ht : s.x.there = true) (hv : VRd w0 s.vp s.vh s.x) (x : RC w0 g bm b5 s.x.id n o) :
    Calls Try.prog 54 #[.pointer (some ⟨g, 0, none⟩), vtxV s.x s.vp s.vh] x.w fun e w' => e = .returned (.int .i64 0) ∧ ∃ x' : RC w0 g bm b5 s.x.id n o, w' = x'.w := by
  refine (put_good s.x s.vp s.vh g bm x.es x.w (hv.keep x.mod) hr ht x.gat (by have := x.l1; omega)).mono ?_
  rintro e w' ⟨a, rfl, hm, ha, hg, -⟩
  have hm0 : Mod (fun _ => False) w0 w' := x.mod.trans' hm (fun i hlt hi => absurd hlt (by rw [hi]; omega))
  exact ⟨rfl, ⟨w', hm0, hm.heap x.box (fun h => h5 h.symm), _, hg, Nat.le_trans (putL_length' _ _ _) (by have := x.l2; omega), Nat.le_trans (del_put_le _ _ _) x.l2⟩, rfl⟩
theorem put_RCbad (s : Vs) {w0 : World} {g bm b5 n : Nat} {o : Array Value} (hr : s.x.right = false) (hv : VRd w0 s.vp s.vh s.x) (x : RC w0 g bm b5 s.x.id n o) :
    Calls Try.prog 54 #[.pointer (some ⟨g, 0, none⟩), vtxV s.x s.vp s.vh] x.w fun e w' => e = .returned (.int .i64 3) ∧ ∃ x' : RC w0 g bm b5 s.x.id n o, w' = x'.w := by
  refine (put_bad s.x s.vp s.vh _ x.w (hv.keep x.mod) hr).mono ?_
  rintro e w' ⟨rfl, hm⟩
  exact ⟨rfl, ⟨w', x.mod.trans hm, hm.heap x.box (fun f => f), x.es, x.gat.mod hm (fun f => f) (fun f => f), x.l1, x.l2⟩, rfl⟩
end Go.Proofs.Ytdblilhkojafgaa
