/- VC: what is needed of it (by shake.py). -/
import Derived.Test.YtnkmfgklmfmfeaaGreatDoorVB

/- VC, as far as the seat goes. -/
/- V8, V9, V10, V11 in one. -/
/- repair.half. -/
namespace Go.Proofs.YtnkmfgklmfmfeaaGreatDoor
set_option linter.unusedVariables false
open Go.RowKit
structure HalfAt (w : World) (o : Array Value) (wx : World) : Prop where
  mod : Mod (fun _ => False) w wx
  box : wx.heap[w.heap.size]? = some (.cells o 44 (0, 0))
  ret : wx.heap[w.heap.size + 2]? = some (.cells #[.int .u8 0, .int .i64 0, zval] 55 (0, 0))
theorem HalfAt.begin (w : World) (o : Array Value) (far : Int) : HalfAt w o (((w.alloc (.cells o 44)).alloc (.cells #[.int .u32 far] 28)).alloc (.cells #[.int .u8 0, .int .i64 0, zval] 55)) :=
  ⟨(((Mod.refl _ _).alloc _).alloc _).alloc _, heap_alloc_old (heap_alloc_old (heap_alloc_new' w _)), by
    have h := heap_alloc_new' ((w.alloc (.cells o 44)).alloc (.cells #[.int .u32 far] 28)) (.cells #[.int .u8 0, .int .i64 0, zval] 55)
    simpa using h⟩
theorem HalfAt.more {w wx wy : World} {o : Array Value} (h : HalfAt w o wx) (m : Mod (fun _ => False) wx wy) : HalfAt w o wy := ⟨h.mod.trans m, m.heap h.box (fun f => f), m.heap h.ret (fun f => f)⟩
theorem far_cell (w : World) (o : Array Value) (far : Int) : (((w.alloc (.cells o 44)).alloc (.cells #[.int .u32 far] 28)).alloc (.cells #[.int .u8 0, .int .i64 0, zval] 55)).cell? ⟨w.heap.size + 1, 0, none⟩ = some (.int .u32 far) := by
  have h := heap_alloc_new' (w.alloc (.cells o 44)) (.cells #[.int .u32 far] 28)
  have h2 : ((w.alloc (.cells o 44)).alloc (.cells #[.int .u32 far] 28)).heap[w.heap.size + 1]? = some (.cells #[.int .u32 far] 28 (0, 0)) := by simpa using h
  have h3 := cell_of_row (heap_alloc_old (o' := .cells #[.int .u8 0, .int .i64 0, zval] 55) h2) 0
  simpa using h3
set_option maxRecDepth 100000 in
set_option maxHeartbeats 1000000 in
theorem half_some (x : Vtx) (vp vh : Value) (far k : Nat) (y : Ent) (w : World) (hx : VRd w vp vh x) (hy : x.halves[k]? = some y) (hk : idxE far x.halves 0 = (k : Int)) :
    Calls Tryz.prog 51 #[vtxV x vp vh, .int .u32 (far : Int)] w fun e w' => e = .returned (.tuple #[.agg #[.int .u8 (y.val.k : Int), .int .i64 y.val.n, .string y.val.s], .bool true]) ∧ Mod (fun _ => False) w w' := by
  obtain ⟨id, there, ps, hs⟩ := x
  obtain ⟨ah, ch, rfl, hc1, hc2, -⟩ := hx.halves.shape
  have HH := Lib.hid hx.halves
  simp only at hy hk hc1 HH
  show Calls _ _ #[.agg #[.int .u32 (id : Int), .bool there, vp, .slice ah hs.length ch], .int .u32 (far : Int)] w _
  have HI : Hid (∀ wx, Mod (fun _ => False) w wx → wx.cell? ⟨w.heap.size + 1, 0, none⟩ = some (.int .u32 (far : Int)) → Calls Tryz.prog 65 #[.slice ah hs.length ch, .func (.func 66) #[] #[.pointer (some ⟨w.heap.size + 1, 0, none⟩)]] wx fun e w' => e = .returned (.int .i64 (k : Int)) ∧ Mod (fun _ => False) wx w') := Lib.hid (by
    intro wx m hf
    have := idx_any (.slice ah hs.length ch) hs (w.heap.size + 1) far wx (HH.out.keep m) hf
    rw [hk] at this
    exact this)
  have hkn : k < hs.length := (List.getElem?_eq_some_iff.1 hy).1
  obtain ⟨b, off, rfl, hb, p0, p1, p2, p3⟩ := HH.out.ent hy rfl
  have H0 := Lib.hid (HalfAt.begin w #[.int .u32 (id : Int), .bool there, vp, .slice (some ⟨b, off, none⟩) hs.length ch] (far : Int))
  have HC0 := Lib.hid (far_cell w #[.int .u32 (id : Int), .bool there, vp, .slice (some ⟨b, off, none⟩) hs.length ch] (far : Int))
  obtain ⟨key, vk, vn, vs⟩ := y
  simp only at p0 p1 p2 p3
  obtain ⟨n, hn⟩ : ∃ n, n = hs.length := ⟨_, rfl⟩
  rw [← hn] at hkn hc1 HI H0 HC0 ⊢
  have P1 := Lib.hid p1
  have P2 := Lib.hid p2
  have P3 := Lib.hid p3
  clear hx hy hk hn p0 p1 p2 p3 HH
  go_enter Tryz.func51, Tryz.ntmps51
  go_wp2_with fail
  refine (HI.out _ H0.out.mod HC0.out).mono ?_
  rintro e w3 ⟨rfl, hm⟩
  have H3 := Lib.hid (H0.out.more hm)
  have b3 := cell_of_row H3.out.box 3
  have r0 := cell_of_row H3.out.ret 0
  have r1 := cell_of_row H3.out.ret 1
  have r2 := cell_of_row H3.out.ret 2
  have f0 := free_of_row H3.out.ret 0
  have f1 := free_of_row H3.out.ret 1
  have f2 := free_of_row H3.out.ret 2
  simp at b3 r0 r1 r2
  have p1 := H3.out.mod.cell P1.out
  have p2 := H3.out.mod.cell P2.out
  have p3 := H3.out.mod.cell P3.out
  have p2' : w3.cell? ⟨b, off + k * 4 + 1 + 1, none⟩ = some (.int .i64 vn) := p2
  have p3' : w3.cell? ⟨b, off + k * 4 + 1 + 2, none⟩ = some (.string vs) := p3
  clear hm
  have hk0 : ¬ ((k : Int) < 0) := by omega
  go_wp2
  go_outline
  have hb3 := H3.out.mod
  refine bodyPost_ret (v := .tuple #[.agg #[.int .u8 (vk : Int), .int .i64 vn, .string vs], .bool true]) (by simp [results, Tryz.results51, go_sem, r0, r1, r2]) rfl ⟨rfl, ?_⟩
  have hlt : ¬ (w.heap.size + 1 + 1 < w.heap.size) := by omega
  exact ((hb3.setCell (fun h => absurd h hlt) _).setCell (fun h => absurd h hlt) _).setCell (fun h => absurd h hlt) _
set_option maxRecDepth 100000 in
set_option maxHeartbeats 1000000 in
theorem half_none (x : Vtx) (vp vh : Value) (far : Nat) (w : World) (hx : VRd w vp vh x) (hk : idxE far x.halves 0 = -1) :
    Calls Tryz.prog 51 #[vtxV x vp vh, .int .u32 (far : Int)] w fun e w' => e = .returned (.tuple #[.agg #[.int .u8 0, .int .i64 0, zval], .bool false]) ∧ Mod (fun _ => False) w w' := by
  obtain ⟨id, there, ps, hs⟩ := x
  obtain ⟨ah, ch, rfl, hc1, hc2, -⟩ := hx.halves.shape
  have HH := Lib.hid hx.halves
  simp only at hk hc1 HH
  show Calls _ _ #[.agg #[.int .u32 (id : Int), .bool there, vp, .slice ah hs.length ch], .int .u32 (far : Int)] w _
  have HI : Hid (∀ wx, Mod (fun _ => False) w wx → wx.cell? ⟨w.heap.size + 1, 0, none⟩ = some (.int .u32 (far : Int)) → Calls Tryz.prog 65 #[.slice ah hs.length ch, .func (.func 66) #[] #[.pointer (some ⟨w.heap.size + 1, 0, none⟩)]] wx fun e w' => e = .returned (.int .i64 (-1)) ∧ Mod (fun _ => False) wx w') := Lib.hid (by
    intro wx m hf
    have := idx_any (.slice ah hs.length ch) hs (w.heap.size + 1) far wx (HH.out.keep m) hf
    rw [hk] at this
    exact this)
  have H0 := Lib.hid (HalfAt.begin w #[.int .u32 (id : Int), .bool there, vp, .slice ah hs.length ch] (far : Int))
  have HC0 := Lib.hid (far_cell w #[.int .u32 (id : Int), .bool there, vp, .slice ah hs.length ch] (far : Int))
  obtain ⟨n, hn⟩ : ∃ n, n = hs.length := ⟨_, rfl⟩
  rw [← hn] at hc1 HI H0 HC0 ⊢
  clear hx hk hn HH
  go_enter Tryz.func51, Tryz.ntmps51
  go_wp2_with fail
  refine (HI.out _ H0.out.mod HC0.out).mono ?_
  rintro e w3 ⟨rfl, hm⟩
  have H3 := Lib.hid (H0.out.more hm)
  have b3 := cell_of_row H3.out.box 3
  have r0 := cell_of_row H3.out.ret 0
  have r1 := cell_of_row H3.out.ret 1
  have r2 := cell_of_row H3.out.ret 2
  have f0 := free_of_row H3.out.ret 0
  have f1 := free_of_row H3.out.ret 1
  have f2 := free_of_row H3.out.ret 2
  simp at b3 r0 r1 r2
  clear hm
  go_wp2
  refine bodyPost_ret (v := .tuple #[.agg #[.int .u8 0, .int .i64 0, zval], .bool false]) (by simp [results, Tryz.results51, go_sem, zval, r0, r1, r2]) rfl ⟨rfl, ?_⟩
  have hlt : ¬ (w.heap.size + 1 + 1 < w.heap.size) := by omega
  exact ((H3.out.mod.setCell (fun h => absurd h hlt) _).setCell (fun h => absurd h hlt) _).setCell (fun h => absurd h hlt) _
end Go.Proofs.YtnkmfgklmfmfeaaGreatDoor
/- A list of vertices. -/
namespace Go.Proofs.YtnkmfgklmfmfeaaGreatDoor
set_option linter.unusedVariables false
open Go.RowKit
/-- A vertex with its slices. -/
structure Vs where
  x : Vtx
  vp : Value
  vh : Value
def Vs.v (s : Vs) : Value := vtxV s.x s.vp s.vh
def Vs.cells (s : Vs) : List Value := [.int .u32 (s.x.id : Int), .bool s.x.there, s.vp, s.vh]
def vcells (l : List Vs) : List Value := l.flatMap Vs.cells
theorem vcells_get : ∀ (l : List Vs) (i j : Nat) (x : Vs), l[i]? = some x → j < 4 → (vcells l)[i * 4 + j]? = x.cells[j]?
  | [], i, j, x, h, _ => by simp at h
  | y :: r, 0, j, x, h, hj => by
    simp at h
    subst h
    show (y.cells ++ vcells r)[0 * 4 + j]? = _
    rw [Nat.zero_mul, Nat.zero_add, List.getElem?_append_left (by simpa [Vs.cells] using hj)]
  | y :: r, i + 1, j, x, h, hj => by
    simp at h
    show (y.cells ++ vcells r)[(i + 1) * 4 + j]? = _
    rw [List.getElem?_append_right (by simp [Vs.cells]; omega)]
    have e : (i + 1) * 4 + j - y.cells.length = i * 4 + j := by simp [Vs.cells]; omega
    rw [e]
    exact vcells_get r i j x h hj
/-- A list of vertices, only read. -/
structure LRd (w : World) (v : Value) (l : List Vs) : Prop where
  row : RdS w 4 v l.length (vcells l)
  each : ∀ s ∈ l, VRd w s.vp s.vh s.x
theorem LRd.keep {w w' : World} {v : Value} {l : List Vs} (h : LRd w v l) (m : Mod (fun _ => False) w w') : LRd w' v l := ⟨h.row.keep m, fun s hs => (h.each s hs).keep m⟩
theorem LRd.at {w : World} {v : Value} {l : List Vs} (h : LRd w v l) {i : Nat} {x : Vs} (hi : l[i]? = some x) : VRd w x.vp x.vh x.x := h.each x (List.mem_of_getElem? hi)
/-- The cells of element i. -/
theorem LRd.ent {w : World} {v : Value} {l : List Vs} (h : LRd w v l) {i : Nat} {x : Vs} (hi : l[i]? = some x) {a : Option Addr} {n c : Nat} (e : v = .slice a n c) :
    ∃ b off, a = some ⟨b, off, none⟩ ∧ b < w.heap.size ∧ w.cell? ⟨b, off + i * 4, none⟩ = some (.int .u32 (x.x.id : Int)) ∧ w.cell? ⟨b, off + i * 4 + 1, none⟩ = some (.bool x.x.there) ∧ w.cell? ⟨b, off + i * 4 + 2, none⟩ = some x.vp ∧ w.cell? ⟨b, off + i * 4 + 3, none⟩ = some x.vh := by
  have g := fun j hj => vcells_get l i j x hi hj
  obtain ⟨a', c', e', -⟩ := h.row.shape
  rw [e] at e'
  injection e' with e1 e2 e3
  rw [e2] at e
  obtain ⟨b, off, ea, hb, h0⟩ := h.row.cell a c e (i * 4 + 0) (.int .u32 (x.x.id : Int)) (by rw [g 0 (by omega)]; rfl)
  obtain ⟨b1, off1, ea1, _, h1⟩ := h.row.cell a c e (i * 4 + 1) (.bool x.x.there) (by rw [g 1 (by omega)]; rfl)
  obtain ⟨b2, off2, ea2, _, h2⟩ := h.row.cell a c e (i * 4 + 2) x.vp (by rw [g 2 (by omega)]; rfl)
  obtain ⟨b3, off3, ea3, _, h3⟩ := h.row.cell a c e (i * 4 + 3) x.vh (by rw [g 3 (by omega)]; rfl)
  rw [ea] at ea1 ea2 ea3
  injection ea1 with e1; injection e1 with e1 e1'
  injection ea2 with e2; injection e2 with e2 e2'
  injection ea3 with e3; injection e3 with e3 e3'
  subst e1 e1' e2 e2' e3 e3'
  exact ⟨b, off, ea, hb, h0, by rw [Nat.add_assoc]; exact h1, by rw [Nat.add_assoc]; exact h2, by rw [Nat.add_assoc]; exact h3⟩
theorem del_ins_le (k : Nat) (v : Value) (es : Ents) : (delL k (insL (k, v) es)).length ≤ es.length := by
  induction es with
  | nil => simp [insL, delL]
  | cons p r ih =>
    simp only [insL]
    split
    · have := List.length_filter_le (fun p : Nat × Value => !(p.1 == k)) (p :: r)
      show (List.filter _ ((k, v) :: p :: r)).length ≤ _
      rw [List.filter_cons_of_neg (by simp)]
      exact this
    · have h2 : (delL k (p :: insL (k, v) r)).length ≤ (delL k (insL (k, v) r)).length + 1 := by
        simp only [delL, List.filter_cons]
        split <;> simp
      simp only [List.length_cons]
      omega
theorem del_put_le (k : Nat) (v : Value) (es : Ents) : (delL k (putL k v es)).length ≤ (delL k es).length := del_ins_le k v _
theorem ins_le (k : Nat) (v : Value) (es : Ents) : (insL (k, v) es).length ≤ es.length + 1 := by
  induction es with
  | nil => simp [insL]
  | cons p r ih =>
    simp only [insL]
    split
    · simp
    · simp only [List.length_cons]; omega
theorem putL_length' (k : Nat) (v : Value) (es : Ents) : (putL k v es).length ≤ (delL k es).length + 1 := ins_le k v _
/-- The worlds of the loop of repair.right: the boxed vertex lies at b5, the graph at g. -/
structure RC (w0 : World) (g bm b5 id n : Nat) (o : Array Value) where
  w : World
  mod : Mod (fun _ => False) w0 w
  box : w.heap[b5]? = some (.cells o 44 (0, 0))
  es : Ents
  gat : GAt w g bm es
  l1 : es.length ≤ n + 1
  l2 : (delL id es).length ≤ n
theorem RC.cell {w0 : World} {g bm b5 id n : Nat} {o : Array Value} (x : RC w0 g bm b5 id n o) {a : Addr} {v : Value} (h : w0.cell? a = some v) : x.w.cell? a = some v := x.mod.cell h
theorem RC.boxc {w0 : World} {g bm b5 id n : Nat} {o : Array Value} (x : RC w0 g bm b5 id n o) {j : Nat} {v : Value} (h : o[j]? = some v) : x.w.cell? ⟨b5, j, none⟩ = some v := by
  have := cell_of_row x.box j
  rw [h] at this
  simpa using this
section
variable {w0 W : World} {g bm b5 id n : Nat} {o : Array Value}
theorem RC.startR (x : RC w0 g bm b5 id n o) (h : x.w = W) : ∃ y : RC w0 g bm b5 id n o, ({ W with drawn := W.drawn + 1 } : World) = y.w := by
  subst h
  exact ⟨⟨_, x.mod.trans (Mod.refl (fun _ => False) x.w).drew, (Mod.refl (fun _ => False) x.w).drew.heap x.box (fun f => f), x.es, x.gat.mod (Mod.refl (fun _ => False) x.w).drew (fun f => f) (fun f => f), x.l1, x.l2⟩, rfl⟩
theorem wp_region_RC {P : Program} {k : Nat} {Q : Exit → Act → World → Prop} {a : Act} {l : List Oper} (x : RC w0 g bm b5 id n o) (hx : x.w = W) (hm : P.follows .mixedOrders = true) (hB : Region.lexB .any l.toArray = true)
    (h : wpQuiet P l.toArray (fun w' => ∃ x : RC w0 g bm b5 id n o, w' = x.w) (fun a' => ∀ w', (∃ x : RC w0 g bm b5 id n o, w' = x.w) → Q .normal a' w') l a) : (Code.region k l.toArray true).wp P Q a W :=
  wp_region_quiet (C := fun w' => ∃ x : RC w0 g bm b5 id n o, w' = x.w) hm hB (x.startR hx) (by simpa using h)
end
/-- Put, in the loop. -/
theorem put_RC (s : Vs) {w0 : World} {g bm b5 n : Nat} {o : Array Value} (hb : w0.heap.size ≤ bm) (h5 : bm ≠ b5) (hn : n + 1 < 1000000) (hr : s.x.right = true) (ht : s.x.there = true) (hv : VRd w0 s.vp s.vh s.x) (x : RC w0 g bm b5 s.x.id n o) :
    Calls Tryz.prog 49 #[.pointer (some ⟨g, 0, none⟩), vtxV s.x s.vp s.vh] x.w fun e w' => e = .returned (.int .i64 0) ∧ ∃ x' : RC w0 g bm b5 s.x.id n o, w' = x'.w := by
  refine (put_good s.x s.vp s.vh g bm x.es x.w (hv.keep x.mod) hr ht x.gat (by have := x.l1; omega)).mono ?_
  rintro e w' ⟨a, rfl, hm, ha, hg, -⟩
  have hm0 : Mod (fun _ => False) w0 w' := x.mod.trans' hm (fun i hlt hi => absurd hlt (by rw [hi]; omega))
  exact ⟨rfl, ⟨w', hm0, hm.heap x.box (fun h => h5 h.symm), _, hg, Nat.le_trans (putL_length' _ _ _) (by have := x.l2; omega), Nat.le_trans (del_put_le _ _ _) x.l2⟩, rfl⟩
theorem put_RCbad (s : Vs) {w0 : World} {g bm b5 n : Nat} {o : Array Value} (hr : s.x.right = false) (hv : VRd w0 s.vp s.vh s.x) (x : RC w0 g bm b5 s.x.id n o) :
    Calls Tryz.prog 49 #[.pointer (some ⟨g, 0, none⟩), vtxV s.x s.vp s.vh] x.w fun e w' => e = .returned (.int .i64 3) ∧ ∃ x' : RC w0 g bm b5 s.x.id n o, w' = x'.w := by
  refine (put_bad s.x s.vp s.vh _ x.w (hv.keep x.mod) hr).mono ?_
  rintro e w' ⟨rfl, hm⟩
  exact ⟨rfl, ⟨w', x.mod.trans hm, hm.heap x.box (fun f => f), x.es, x.gat.mod hm (fun f => f) (fun f => f), x.l1, x.l2⟩, rfl⟩
end Go.Proofs.YtnkmfgklmfmfeaaGreatDoor
/- repair.right: is a list in form? -/
namespace Go.Proofs.YtnkmfgklmfmfeaaGreatDoor
set_option linter.unusedVariables false
open Go.RowKit
def listOK : Option Nat → List Vs → Bool
  | _, [] => true
  | p, s :: r => ((s.x.there && s.x.right) && above p s.x.id) && listOK (some s.x.id) r
def prevV (l : List Vs) (i : Nat) : Option Nat := match i with | 0 => none | i + 1 => (l[i]?).map fun s => s.x.id
theorem listOK_step {l : List Vs} {i : Nat} {s : Vs} (h : l[i]? = some s) : listOK (prevV l i) (l.drop i) = (((s.x.there && s.x.right) && above (prevV l i) s.x.id) && listOK (prevV l (i + 1)) (l.drop (i + 1))) := by
  obtain ⟨hi, hx⟩ := List.getElem?_eq_some_iff.1 h
  rw [List.drop_eq_getElem_cons hi, hx, listOK]
  congr 2
  simp [prevV, h]
theorem prevV_zero {l : List Vs} {k : Nat} (h : k = 0) : prevV l k = none := by subst h; rfl
theorem prevV_pos {l : List Vs} {k : Nat} (h : 0 < k) {y : Vs} (hy : l[k - 1]? = some y) : prevV l k = some y.x.id := by
  obtain ⟨m, rfl⟩ : ∃ m, k = m + 1 := ⟨k - 1, by omega⟩
  simp only [Nat.add_sub_cancel] at hy
  simp [prevV, hy]
theorem listOK_nil {l : List Vs} {k : Nat} (h : l.length ≤ k) (p : Option Nat) : listOK p (l.drop k) = true := by
  rw [List.drop_of_length_le h]; rfl
/-- The worlds of the loop, at a round's head. -/
structure RLoop (w : World) (k : Nat) (wr : World) : Prop where
  mod : Mod (fun _ => False) w wr
  gat : ∃ es, GAt wr (w.heap.size + 1) w.heap.size es ∧ es.length ≤ k
theorem RLoop.start {w wr : World} {k : Nat} (h : RLoop w k wr) (id : Nat) (o : Array Value) : ∃ x : RC w (w.heap.size + 1) w.heap.size wr.heap.size id k o, x.w = wr.alloc (.cells o 44) := by
  obtain ⟨es, hg, hl⟩ := h.gat
  exact ⟨⟨_, h.mod.alloc _, heap_alloc_new' wr _, es, hg.mod ((Mod.refl (fun _ => False) wr).alloc _) (fun f => f) (fun f => f), by omega, Nat.le_trans (List.length_filter_le _ _) hl⟩, rfl⟩
theorem RLoop.next {w w' : World} {k b5 id : Nat} {o : Array Value} (h : ∃ x : RC w (w.heap.size + 1) w.heap.size b5 id k o, w' = x.w) : RLoop w (k + 1) w' := by
  obtain ⟨x, rfl⟩ := h
  exact ⟨x.mod, x.es, x.gat, x.l1⟩
theorem RC.mod_of {w0 w' : World} {g bm b5 id n : Nat} {o : Array Value} (h : ∃ x : RC w0 g bm b5 id n o, w' = x.w) : Mod (fun _ => False) w0 w' := by
  obtain ⟨x, rfl⟩ := h
  exact x.mod
set_option maxRecDepth 100000 in
set_option maxHeartbeats 2000000 in
theorem rright_any (v : Value) (l : List Vs) (w : World) (hv : LRd w v l) (hl : l.length < 999999) :
    Calls Tryz.prog 28 #[v] w fun e w' => e = .returned (.bool (listOK none l)) ∧ Mod (fun _ => False) w w' := by
  have HV := Lib.hid hv
  obtain ⟨a, c, rfl, hc1, hc2, -⟩ := hv.row.shape
  clear hv
  obtain ⟨n, hn⟩ : ∃ n, n = l.length := ⟨_, rfl⟩
  have HN := Lib.hid hn
  rw [← hn] at HV hc1 hl ⊢
  clear hn
  have HNEW := Lib.hid (new_any w)
  go_enter Tryz.func28, Tryz.ntmps28
  go_wp2_with (go_at_call 7; refine HNEW.out.mono ?_; rintro e w3 ⟨rfl, hm, hg⟩; have HL0 : Hid (RLoop w 0 w3) := Lib.hid ⟨hm, _, hg, Nat.le_refl _⟩; clear hm hg HNEW)
  go_loopw [9] (fun i wr => ∃ k : Nat, i = .int .i64 k ∧ k ≤ n ∧ listOK none l = listOK (prevV l k) (l.drop k) ∧ RLoop w k wr) (fun i _ => n - (intOf i).toNat)
  case atStart => exact ⟨0, rfl, Nat.zero_le _, rfl, HL0.out⟩
  case round =>
    obtain ⟨k, rfl, hk, hch, hm⟩ := hrel
    have HCH := Lib.hid hch
    have HM := Lib.hid hm
    clear hch hm HL0
    by_cases hkn : k < n
    · obtain ⟨x, hx⟩ : ∃ x, l[k]? = some x := ⟨_, List.getElem?_eq_getElem (by rw [← HN.out]; exact hkn)⟩
      have HX := Lib.hid hx
      obtain ⟨b, off, rfl, hb, p0, p1, p2, p3⟩ := HV.out.ent hx rfl
      have p0 := HM.out.mod.cell p0
      have p1 := HM.out.mod.cell p1
      have p2 := HM.out.mod.cell p2
      have p3 := HM.out.mod.cell p3
      have HVR := Lib.hid (HV.out.at hx)
      have zb : w.heap.size + 1 < wr.heap.size := by
        obtain ⟨es, hg, -⟩ := HM.out.gat
        exact lt_of_block hg.cell
      clear hx
      obtain ⟨⟨id, there, ps, hs⟩, vp, vh⟩ := x
      obtain ⟨np, ap, cp, rfl⟩ : ∃ np ap cp, vp = .slice ap np cp := by
        obtain ⟨a, c, e, _⟩ := HVR.out.props.shape
        exact ⟨_, _, _, e⟩
      obtain ⟨nh, ah, ch, rfl⟩ : ∃ np ap cp, vh = .slice ap np cp := by
        obtain ⟨a, c, e, _⟩ := HVR.out.halves.shape
        exact ⟨_, _, _, e⟩
      simp only at p0 p1 p2 p3 HVR
      have HST := Lib.hid (listOK_step HX.out)
      simp only at HST
      have hk6 : k + 1 < 1000000 := by omega
      cases there with
      | false =>
        have HR : Hid (listOK none l = false) := Lib.hid (by rw [HCH.out, HST.out]; simp)
        clear HST
        obtain ⟨x0, hx0⟩ := HM.out.start id #[.int .u32 (id : Int), .bool false, (.slice ap np cp), (.slice ah nh ch)]
        haveI hne0 : Nonempty (RC w (w.heap.size + 1) w.heap.size wr.heap.size id k #[.int .u32 (id : Int), .bool false, (.slice ap np cp), (.slice ah nh ch)]) := ⟨x0⟩
        have c0 : ∀ x : RC w (w.heap.size + 1) w.heap.size wr.heap.size id k #[.int .u32 (id : Int), .bool false, (.slice ap np cp), (.slice ah nh ch)], x.w.cell? ⟨wr.heap.size, 0, none⟩ = some (.int .u32 (id : Int)) := fun x => x.boxc (by simp)
        have c1 : ∀ x : RC w (w.heap.size + 1) w.heap.size wr.heap.size id k #[.int .u32 (id : Int), .bool false, (.slice ap np cp), (.slice ah nh ch)], x.w.cell? ⟨wr.heap.size, 1, none⟩ = some (.bool false) := fun x => x.boxc (by simp)
        have c2 : ∀ x : RC w (w.heap.size + 1) w.heap.size wr.heap.size id k #[.int .u32 (id : Int), .bool false, (.slice ap np cp), (.slice ah nh ch)], x.w.cell? ⟨wr.heap.size, 2, none⟩ = some (.slice ap np cp) := fun x => x.boxc (by simp)
        have c3 : ∀ x : RC w (w.heap.size + 1) w.heap.size wr.heap.size id k #[.int .u32 (id : Int), .bool false, (.slice ap np cp), (.slice ah nh ch)], x.w.cell? ⟨wr.heap.size, 3, none⟩ = some (.slice ah nh ch) := fun x => x.boxc (by simp)
        go_wp2_with fail
        refine wp_region_RC x0 hx0 (by kernel_rfl) (by kernel_rfl) ?_
        repeat (go_big_quiet_step (fail))
        refine wpQuiet_nil ?_
        intro w3 hm3
        have M3 : Hid (Mod (fun _ => False) w w3) := Lib.hid (RC.mod_of hm3)
        clear hm3 hx0 x0 c0 c1 c2 c3
        go_wp2
        go_ret
        exact ⟨ret_bool HR.out.symm, M3.out⟩
      | true =>
        obtain ⟨rb, hrb⟩ : ∃ rb, Vtx.right ⟨id, true, ps, hs⟩ = rb := ⟨_, rfl⟩
        have HRB := Lib.hid hrb
        clear hrb
        cases rb with
        | false =>
          have HR : Hid (listOK none l = false) := Lib.hid (by rw [HCH.out, HST.out, HRB.out]; simp)
          have HPUT : Hid (∀ x : RC w (w.heap.size + 1) w.heap.size wr.heap.size id k #[.int .u32 (id : Int), .bool true, (.slice ap np cp), (.slice ah nh ch)], Calls Tryz.prog 49 #[.pointer (some ⟨w.heap.size + 1, 0, none⟩), .agg #[.int .u32 (id : Int), .bool true, (.slice ap np cp), (.slice ah nh ch)]] x.w fun e w' => e = .returned (.int .i64 3) ∧ ∃ x' : RC w (w.heap.size + 1) w.heap.size wr.heap.size id k #[.int .u32 (id : Int), .bool true, (.slice ap np cp), (.slice ah nh ch)], w' = x'.w) := Lib.hid (fun x => put_RCbad ⟨⟨id, true, ps, hs⟩, (.slice ap np cp), (.slice ah nh ch)⟩ HRB.out HVR.out x)
          clear HST
          obtain ⟨x0, hx0⟩ := HM.out.start id #[.int .u32 (id : Int), .bool true, (.slice ap np cp), (.slice ah nh ch)]
          haveI hne0 : Nonempty (RC w (w.heap.size + 1) w.heap.size wr.heap.size id k #[.int .u32 (id : Int), .bool true, (.slice ap np cp), (.slice ah nh ch)]) := ⟨x0⟩
          have c0 : ∀ x : RC w (w.heap.size + 1) w.heap.size wr.heap.size id k #[.int .u32 (id : Int), .bool true, (.slice ap np cp), (.slice ah nh ch)], x.w.cell? ⟨wr.heap.size, 0, none⟩ = some (.int .u32 (id : Int)) := fun x => x.boxc (by simp)
          have c1 : ∀ x : RC w (w.heap.size + 1) w.heap.size wr.heap.size id k #[.int .u32 (id : Int), .bool true, (.slice ap np cp), (.slice ah nh ch)], x.w.cell? ⟨wr.heap.size, 1, none⟩ = some (.bool true) := fun x => x.boxc (by simp)
          have c2 : ∀ x : RC w (w.heap.size + 1) w.heap.size wr.heap.size id k #[.int .u32 (id : Int), .bool true, (.slice ap np cp), (.slice ah nh ch)], x.w.cell? ⟨wr.heap.size, 2, none⟩ = some (.slice ap np cp) := fun x => x.boxc (by simp)
          have c3 : ∀ x : RC w (w.heap.size + 1) w.heap.size wr.heap.size id k #[.int .u32 (id : Int), .bool true, (.slice ap np cp), (.slice ah nh ch)], x.w.cell? ⟨wr.heap.size, 3, none⟩ = some (.slice ah nh ch) := fun x => x.boxc (by simp)
          go_wp2_with fail
          refine wp_region_RC x0 hx0 (by kernel_rfl) (by kernel_rfl) ?_
          repeat (go_big_quiet_step ((go_at_call 49; exact HPUT.out _)))
          refine wpQuiet_nil ?_
          intro w3 hm3
          have M3 : Hid (Mod (fun _ => False) w w3) := Lib.hid (RC.mod_of hm3)
          clear hm3 hx0 x0 c0 c1 c2 c3
          go_wp2
          go_ret
          exact ⟨ret_bool HR.out.symm, M3.out⟩
        | true =>
          have HPUT : Hid (∀ x : RC w (w.heap.size + 1) w.heap.size wr.heap.size id k #[.int .u32 (id : Int), .bool true, (.slice ap np cp), (.slice ah nh ch)], Calls Tryz.prog 49 #[.pointer (some ⟨w.heap.size + 1, 0, none⟩), .agg #[.int .u32 (id : Int), .bool true, (.slice ap np cp), (.slice ah nh ch)]] x.w fun e w' => e = .returned (.int .i64 0) ∧ ∃ x' : RC w (w.heap.size + 1) w.heap.size wr.heap.size id k #[.int .u32 (id : Int), .bool true, (.slice ap np cp), (.slice ah nh ch)], w' = x'.w) := Lib.hid (fun x => put_RC ⟨⟨id, true, ps, hs⟩, (.slice ap np cp), (.slice ah nh ch)⟩ (Nat.le_refl _) (by omega) hk6 HRB.out rfl HVR.out x)
          by_cases hk0 : k = 0
          · have tk : ¬ ((0 : Int) < (k : Int)) := by omega
            have tk3 : ¬ 0 < k := by omega
            have tk2 : decide (0 < k) = false := by simpa using tk3
            have HG : Hid (listOK none l = listOK (prevV l (k + 1)) (l.drop (k + 1))) := Lib.hid (by rw [HCH.out, HST.out, HRB.out, prevV_zero hk0]; simp [above])
            clear HST hk0
            obtain ⟨x0, hx0⟩ := HM.out.start id #[.int .u32 (id : Int), .bool true, (.slice ap np cp), (.slice ah nh ch)]
            haveI hne0 : Nonempty (RC w (w.heap.size + 1) w.heap.size wr.heap.size id k #[.int .u32 (id : Int), .bool true, (.slice ap np cp), (.slice ah nh ch)]) := ⟨x0⟩
            have c0 : ∀ x : RC w (w.heap.size + 1) w.heap.size wr.heap.size id k #[.int .u32 (id : Int), .bool true, (.slice ap np cp), (.slice ah nh ch)], x.w.cell? ⟨wr.heap.size, 0, none⟩ = some (.int .u32 (id : Int)) := fun x => x.boxc (by simp)
            have c1 : ∀ x : RC w (w.heap.size + 1) w.heap.size wr.heap.size id k #[.int .u32 (id : Int), .bool true, (.slice ap np cp), (.slice ah nh ch)], x.w.cell? ⟨wr.heap.size, 1, none⟩ = some (.bool true) := fun x => x.boxc (by simp)
            have c2 : ∀ x : RC w (w.heap.size + 1) w.heap.size wr.heap.size id k #[.int .u32 (id : Int), .bool true, (.slice ap np cp), (.slice ah nh ch)], x.w.cell? ⟨wr.heap.size, 2, none⟩ = some (.slice ap np cp) := fun x => x.boxc (by simp)
            have c3 : ∀ x : RC w (w.heap.size + 1) w.heap.size wr.heap.size id k #[.int .u32 (id : Int), .bool true, (.slice ap np cp), (.slice ah nh ch)], x.w.cell? ⟨wr.heap.size, 3, none⟩ = some (.slice ah nh ch) := fun x => x.boxc (by simp)
            go_wp2_with fail
            refine wp_region_RC x0 hx0 (by kernel_rfl) (by kernel_rfl) ?_
            repeat (go_big_quiet_step ((go_at_call 49; exact HPUT.out _)))
            refine wpQuiet_nil ?_
            intro w3 hm3
            have M3 : Hid (RLoop w (k + 1) w3) := Lib.hid (RLoop.next hm3)
            clear hm3 hx0 x0 c0 c1 c2 c3
            go_wp2
            go_roundw
            case rel => exact ⟨k + 1, by go_num, by omega, HG.out, M3.out⟩
            case measure => simp [intOf]; omega
          · have tk : (0 : Int) < (k : Int) := by omega
            have tk1 : (k : Int) - 1 = ((k - 1 : Nat) : Int) := by omega
            have hkp : 0 < k := by omega
            have hkn1 : k - 1 < n := by omega
            obtain ⟨y, hy⟩ : ∃ y, l[k - 1]? = some y := ⟨_, List.getElem?_eq_getElem (by rw [← HN.out]; exact hkn1)⟩
            obtain ⟨b', off', hb', _, y0, _, _, _⟩ := HV.out.ent hy rfl
            injection hb' with hb'
            injection hb' with e1 e2
            subst e1 e2
            have HPV := Lib.hid (prevV_pos hkp hy)
            generalize y.x.id = ykey at y0 HPV
            clear hy
            by_cases hlt : ykey < id
            · have tl : ¬ ((id : Int) ≤ (ykey : Int)) := by omega
              have tl2 : decide ((id : Int) ≤ (ykey : Int)) = false := by simpa using tl
              have HG : Hid (listOK none l = listOK (prevV l (k + 1)) (l.drop (k + 1))) := Lib.hid (by rw [HCH.out, HST.out, HRB.out, HPV.out]; simp [above, hlt])
              clear HST hlt
              obtain ⟨x0, hx0⟩ := HM.out.start id #[.int .u32 (id : Int), .bool true, (.slice ap np cp), (.slice ah nh ch)]
              haveI hne0 : Nonempty (RC w (w.heap.size + 1) w.heap.size wr.heap.size id k #[.int .u32 (id : Int), .bool true, (.slice ap np cp), (.slice ah nh ch)]) := ⟨x0⟩
              have c0 : ∀ x : RC w (w.heap.size + 1) w.heap.size wr.heap.size id k #[.int .u32 (id : Int), .bool true, (.slice ap np cp), (.slice ah nh ch)], x.w.cell? ⟨wr.heap.size, 0, none⟩ = some (.int .u32 (id : Int)) := fun x => x.boxc (by simp)
              have c1 : ∀ x : RC w (w.heap.size + 1) w.heap.size wr.heap.size id k #[.int .u32 (id : Int), .bool true, (.slice ap np cp), (.slice ah nh ch)], x.w.cell? ⟨wr.heap.size, 1, none⟩ = some (.bool true) := fun x => x.boxc (by simp)
              have c2 : ∀ x : RC w (w.heap.size + 1) w.heap.size wr.heap.size id k #[.int .u32 (id : Int), .bool true, (.slice ap np cp), (.slice ah nh ch)], x.w.cell? ⟨wr.heap.size, 2, none⟩ = some (.slice ap np cp) := fun x => x.boxc (by simp)
              have c3 : ∀ x : RC w (w.heap.size + 1) w.heap.size wr.heap.size id k #[.int .u32 (id : Int), .bool true, (.slice ap np cp), (.slice ah nh ch)], x.w.cell? ⟨wr.heap.size, 3, none⟩ = some (.slice ah nh ch) := fun x => x.boxc (by simp)
              have c4 : ∀ x : RC w (w.heap.size + 1) w.heap.size wr.heap.size id k #[.int .u32 (id : Int), .bool true, (.slice ap np cp), (.slice ah nh ch)], x.w.cell? ⟨b, off + (k - 1) * 4, none⟩ = some (.int .u32 (ykey : Int)) := fun x => x.cell y0
              go_wp2_with fail
              refine wp_region_RC x0 hx0 (by kernel_rfl) (by kernel_rfl) ?_
              repeat (go_big_quiet_step ((go_at_call 49; exact HPUT.out _)))
              refine wpQuiet_nil ?_
              intro w3 hm3
              have M3 : Hid (RLoop w (k + 1) w3) := Lib.hid (RLoop.next hm3)
              clear hm3 hx0 x0 c0 c1 c2 c3 c4
              go_wp2
              go_roundw
              case rel => exact ⟨k + 1, by go_num, by omega, HG.out, M3.out⟩
              case measure => simp [intOf]; omega
            · have tl : (id : Int) ≤ (ykey : Int) := by omega
              have tl2 : decide ((id : Int) ≤ (ykey : Int)) = true := by simpa using tl
              have HR : Hid (listOK none l = false) := Lib.hid (by rw [HCH.out, HST.out, HRB.out, HPV.out]; simp [above, hlt])
              clear HST hlt
              obtain ⟨x0, hx0⟩ := HM.out.start id #[.int .u32 (id : Int), .bool true, (.slice ap np cp), (.slice ah nh ch)]
              haveI hne0 : Nonempty (RC w (w.heap.size + 1) w.heap.size wr.heap.size id k #[.int .u32 (id : Int), .bool true, (.slice ap np cp), (.slice ah nh ch)]) := ⟨x0⟩
              have c0 : ∀ x : RC w (w.heap.size + 1) w.heap.size wr.heap.size id k #[.int .u32 (id : Int), .bool true, (.slice ap np cp), (.slice ah nh ch)], x.w.cell? ⟨wr.heap.size, 0, none⟩ = some (.int .u32 (id : Int)) := fun x => x.boxc (by simp)
              have c1 : ∀ x : RC w (w.heap.size + 1) w.heap.size wr.heap.size id k #[.int .u32 (id : Int), .bool true, (.slice ap np cp), (.slice ah nh ch)], x.w.cell? ⟨wr.heap.size, 1, none⟩ = some (.bool true) := fun x => x.boxc (by simp)
              have c2 : ∀ x : RC w (w.heap.size + 1) w.heap.size wr.heap.size id k #[.int .u32 (id : Int), .bool true, (.slice ap np cp), (.slice ah nh ch)], x.w.cell? ⟨wr.heap.size, 2, none⟩ = some (.slice ap np cp) := fun x => x.boxc (by simp)
              have c3 : ∀ x : RC w (w.heap.size + 1) w.heap.size wr.heap.size id k #[.int .u32 (id : Int), .bool true, (.slice ap np cp), (.slice ah nh ch)], x.w.cell? ⟨wr.heap.size, 3, none⟩ = some (.slice ah nh ch) := fun x => x.boxc (by simp)
              have c4 : ∀ x : RC w (w.heap.size + 1) w.heap.size wr.heap.size id k #[.int .u32 (id : Int), .bool true, (.slice ap np cp), (.slice ah nh ch)], x.w.cell? ⟨b, off + (k - 1) * 4, none⟩ = some (.int .u32 (ykey : Int)) := fun x => x.cell y0
              go_wp2_with fail
              refine wp_region_RC x0 hx0 (by kernel_rfl) (by kernel_rfl) ?_
              repeat (go_big_quiet_step ((go_at_call 49; exact HPUT.out _)))
              refine wpQuiet_nil ?_
              intro w3 hm3
              have M3 : Hid (Mod (fun _ => False) w w3) := Lib.hid (RC.mod_of hm3)
              clear hm3 hx0 x0 c0 c1 c2 c3 c4
              go_wp2
              go_ret
              exact ⟨ret_bool HR.out.symm, M3.out⟩
    · have HF : Hid (listOK none l = true) := Lib.hid (by rw [HCH.out]; exact listOK_nil (by have := HN.out; omega) _)
      go_wp2
      go_ret
      exact ⟨ret_bool HF.out.symm, HM.out.mod⟩
end Go.Proofs.YtnkmfgklmfmfeaaGreatDoor
/- Lists of lists of vertices, flags, and where each vertex is held first: the data. -/
namespace Go.Proofs.YtnkmfgklmfmfeaaGreatDoor
set_option linter.unusedVariables false
open Go.RowKit
/-- A list with its slice. -/
structure Ls where
  v : Value
  l : List Vs
/-- A list of lists, only read. -/
structure LLRd (w : World) (v : Value) (ls : List Ls) : Prop where
  row : RdS w 1 v ls.length (ls.map Ls.v)
  each : ∀ s ∈ ls, LRd w s.v s.l
theorem LLRd.keep {w w' : World} {v : Value} {ls : List Ls} (h : LLRd w v ls) (m : Mod (fun _ => False) w w') : LLRd w' v ls := ⟨h.row.keep m, fun s hs => (h.each s hs).keep m⟩
theorem LLRd.at {w : World} {v : Value} {ls : List Ls} (h : LLRd w v ls) {i : Nat} {x : Ls} (hi : ls[i]? = some x) : LRd w x.v x.l := h.each x (List.mem_of_getElem? hi)
theorem RdS.one {w : World} {v : Value} {n m : Nat} {xs : List Value} (h : RdS w 1 v n xs) {i : Nat} {x : Value} (hi : xs[i]? = some x) {a : Option Addr} {c : Nat} (e : v = .slice a m c) :
    ∃ b off, a = some ⟨b, off, none⟩ ∧ b < w.heap.size ∧ w.cell? ⟨b, off + i, none⟩ = some x := by
  obtain ⟨a', c', e', -⟩ := h.shape
  rw [e] at e'
  injection e' with e1 e2 e3
  rw [e2] at e
  exact h.cell a c e i x hi
theorem LLRd.ent {w : World} {v : Value} {ls : List Ls} (h : LLRd w v ls) {i : Nat} {x : Ls} (hi : ls[i]? = some x) {a : Option Addr} {n c : Nat} (e : v = .slice a n c) :
    ∃ b off, a = some ⟨b, off, none⟩ ∧ b < w.heap.size ∧ w.cell? ⟨b, off + i, none⟩ = some x.v :=
  h.row.one (by simp [hi]) e
/-- Flags, only read. -/
def FRd (w : World) (v : Value) (up : List Bool) : Prop := RdS w 1 v up.length (up.map Value.bool)
theorem FRd.keep {w w' : World} {v : Value} {up : List Bool} (h : FRd w v up) (m : Mod (fun _ => False) w w') : FRd w' v up := RdS.keep h m
theorem FRd.ent {w : World} {v : Value} {up : List Bool} (h : FRd w v up) {i : Nat} {x : Bool} (hi : up[i]? = some x) {a : Option Addr} {n c : Nat} (e : v = .slice a n c) :
    ∃ b off, a = some ⟨b, off, none⟩ ∧ b < w.heap.size ∧ w.cell? ⟨b, off + i, none⟩ = some (.bool x) :=
  RdS.one h (by simp [hi]) e
/-- What is held where, in order: only where a list's flag is up. -/
def held (up : List Bool) : Nat → List Ls → List (Nat × Vs)
  | _, [] => []
  | n, s :: r => (if up[n]? = some true then s.l.map (fun x => (n, x)) else []) ++ held up (n + 1) r
def seatV (p : Nat × Vs) : Value := .agg #[.int .i64 (p.1 : Int), .int .u32 (p.2.x.id : Int), .bool p.2.x.there, p.2.vp, p.2.vh]
def seatF (ps : List (Nat × Vs)) (k : Nat) : Option (Nat × Vs) := ps.find? fun p => p.2.x.id == k
/-- The map tells, for each number, the first of the pairs that has it. -/
def Tells (ps : List (Nat × Vs)) (es : Ents) : Prop := ∀ k, getL k es = (seatF ps k).map seatV
theorem Tells.nil : Tells [] [] := fun k => rfl
theorem seatF_snoc (ps : List (Nat × Vs)) (p : Nat × Vs) (k : Nat) : seatF (ps ++ [p]) k = (seatF ps k).or (if p.2.x.id = k then some p else none) := by
  simp only [seatF, List.find?_append]
  congr 1
  by_cases h : p.2.x.id = k <;> simp [h]
theorem Tells.old {ps : List (Nat × Vs)} {es : Ents} (h : Tells ps es) (p : Nat × Vs) (ho : getL p.2.x.id es ≠ none) : Tells (ps ++ [p]) es := by
  intro k
  rw [seatF_snoc, h k]
  by_cases hk : p.2.x.id = k
  · subst hk
    rw [h] at ho
    cases hs : seatF ps p.2.x.id with
    | none => rw [hs] at ho; exact absurd rfl ho
    | some q => rfl
  · simp [hk]
theorem Tells.new {ps : List (Nat × Vs)} {es : Ents} (h : Tells ps es) (p : Nat × Vs) (ho : getL p.2.x.id es = none) : Tells (ps ++ [p]) (putL p.2.x.id (seatV p) es) := by
  intro k
  rw [seatF_snoc, getL_putL, h k]
  by_cases hk : p.2.x.id = k
  · subst hk
    rw [h] at ho
    have : seatF ps p.2.x.id = none := by
      cases hs : seatF ps p.2.x.id with
      | none => rfl
      | some q => rw [hs] at ho; cases ho
    simp [this]
  · simp [hk]
/-- The pairs ahead of list n. -/
def heldTo (up : List Bool) (ls : List Ls) (n : Nat) : List (Nat × Vs) := held up 0 (ls.take n)
theorem held_append (up : List Bool) : ∀ (a b : List Ls) (n : Nat), held up n (a ++ b) = held up n a ++ held up (n + a.length) b
  | [], b, n => by simp [held]
  | s :: r, b, n => by
    simp only [List.cons_append, held, held_append up r b (n + 1), List.append_assoc, List.length_cons]
    rw [show n + 1 + r.length = n + (r.length + 1) by omega]
theorem heldTo_succ (up : List Bool) (ls : List Ls) (n : Nat) (s : Ls) (h : ls[n]? = some s) : heldTo up ls (n + 1) = heldTo up ls n ++ (if up[n]? = some true then s.l.map (fun x => (n, x)) else []) := by
  obtain ⟨hn, rfl⟩ := List.getElem?_eq_some_iff.1 h
  unfold heldTo
  rw [List.take_succ_eq_append_getElem hn, held_append]
  simp [held, Nat.min_eq_left (Nat.le_of_lt hn)]
theorem heldTo_all (up : List Bool) (ls : List Ls) (n : Nat) (h : ls.length ≤ n) : heldTo up ls n = held up 0 ls := by
  unfold heldTo
  rw [List.take_of_length_le h]
end Go.Proofs.YtnkmfgklmfmfeaaGreatDoor
