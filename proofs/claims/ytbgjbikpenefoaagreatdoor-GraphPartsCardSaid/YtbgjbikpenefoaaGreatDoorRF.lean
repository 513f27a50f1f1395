/- RF: what is needed of it (by shake.py). -/
import Derived.Test.YtbgjbikpenefoaaGreatDoorM10
import Derived.Test.YtbgjbikpenefoaaGreatDoorM18
import Derived.Test.YtbgjbikpenefoaaGreatDoorR14
import Derived.Test.YtbgjbikpenefoaaGreatDoorM08
import Derived.Deep.OwnRows

/- RF, as far as the seat goes. -/
/- R17, R18, R19 in one. -/
/- gussetref03.Do: requests that are refused, that ask for nothing, or who is near. -/
namespace Go.Proofs.YtbgjbikpenefoaaGreatDoor
set_option linter.unusedVariables false
set_option linter.unusedSimpArgs false
open Go.RowKit
/-- The worlds of Do: the request's box, the answer's. -/
structure DoAt (w : World) (x0 x1 x2 x3 x4 : Value) (w0 : World) : Prop where
  mod : Mod (fun _ => False) w w0
  size : w.heap.size + 2 ≤ w0.heap.size
  box : w0.heap[w.heap.size]? = some (.cells #[x0, x1, x2, x3, x4] 29 (0, 0))
  ret : w0.heap[w.heap.size + 1]? = some (.cells #[.int .i64 0, .int .i64 0, .slice none 0 0, .slice none 0 0] 34 (0, 0))
theorem DoAt.start (w : World) (x0 x1 x2 x3 x4 : Value) : DoAt w x0 x1 x2 x3 x4 ((w.alloc (.cells #[x0, x1, x2, x3, x4] 29)).alloc (.cells #[.int .i64 0, .int .i64 0, .slice none 0 0, .slice none 0 0] 34)) := by
  refine ⟨((Mod.refl _ _).alloc _).alloc _, by simp, heap_alloc_old (heap_alloc_new' w _), ?_⟩
  have h := heap_alloc_new' (w.alloc (.cells #[x0, x1, x2, x3, x4] 29)) (.cells #[.int .i64 0, .int .i64 0, .slice none 0 0, .slice none 0 0] 34)
  simpa using h
theorem DoAt.next {S : Nat → Prop} {w w0 w1 : World} {x0 x1 x2 x3 x4 : Value} (h : DoAt w x0 x1 x2 x3 x4 w0) (m : Mod S w0 w1) (hs : ∀ k, S k → w.heap.size + 2 ≤ k) : DoAt w x0 x1 x2 x3 x4 w1 :=
  ⟨h.mod.trans' m (fun i hi s => by have := hs i s; omega), Nat.le_trans h.size m.size, m.heap h.box (fun s => by have := hs _ s; omega), m.heap h.ret (fun s => by have := hs _ s; omega)⟩
theorem DoAt.retf {w w0 : World} {x0 x1 x2 x3 x4 : Value} (h : DoAt w x0 x1 x2 x3 x4 w0) :
    w0.cell? ⟨w.heap.size + 1, 0, none⟩ = some (.int .i64 0) ∧ w0.cell? ⟨w.heap.size + 1, 1, none⟩ = some (.int .i64 0) ∧ w0.cell? ⟨w.heap.size + 1, 2, none⟩ = some (.slice none 0 0) ∧ w0.cell? ⟨w.heap.size + 1, 3, none⟩ = some (.slice none 0 0) ∧
    w0.frozen? ⟨w.heap.size + 1, 0, none⟩ = false ∧ w0.frozen? ⟨w.heap.size + 1, 1, none⟩ = false ∧ w0.frozen? ⟨w.heap.size + 1, 2, none⟩ = false ∧ w0.frozen? ⟨w.heap.size + 1, 3, none⟩ = false ∧ w.heap.size + 1 < w0.heap.size :=
  ⟨cell_of_row h.ret 0, cell_of_row h.ret 1, cell_of_row h.ret 2, cell_of_row h.ret 3, free_of_row h.ret 0, free_of_row h.ret 1, free_of_row h.ret 2, free_of_row h.ret 3, lt_of_block h.ret⟩
theorem DoAt.boxf {w w0 : World} {x0 x1 x2 x3 x4 : Value} (h : DoAt w x0 x1 x2 x3 x4 w0) :
    w0.cell? ⟨w.heap.size, 0, none⟩ = some x0 ∧ w0.cell? ⟨w.heap.size, 1, none⟩ = some x1 ∧ w0.cell? ⟨w.heap.size, 2, none⟩ = some x2 ∧ w0.cell? ⟨w.heap.size, 3, none⟩ = some x3 ∧ w0.cell? ⟨w.heap.size, 4, none⟩ = some x4 ∧ w.heap.size < w0.heap.size :=
  ⟨cell_of_row h.box 0, cell_of_row h.box 1, cell_of_row h.box 2, cell_of_row h.box 3, cell_of_row h.box 4, lt_of_block h.box⟩
abbrev doEnd (wy : World) (n : Nat) (u0 u1 u2 u3 : Value) : World := (((wy.setCell ⟨n, 0, none⟩ u0).setCell ⟨n, 1, none⟩ u1).setCell ⟨n, 2, none⟩ u2).setCell ⟨n, 3, none⟩ u3
theorem DoAt.finish {w wy : World} {x0 x1 x2 x3 x4 : Value} (h : DoAt w x0 x1 x2 x3 x4 wy) (u0 u1 u2 u3 : Value) :
    Mod (fun _ => False) w (doEnd wy (w.heap.size + 1) u0 u1 u2 u3) ∧ Mod (fun k => k = w.heap.size + 1) wy (doEnd wy (w.heap.size + 1) u0 u1 u2 u3) := by
  have m : Mod (fun k => k = w.heap.size + 1) wy (doEnd wy (w.heap.size + 1) u0 u1 u2 u3) :=
    ((((Mod.refl (fun k => k = w.heap.size + 1) wy).setCell (p := ⟨w.heap.size + 1, 0, none⟩) (fun _ => rfl) u0).setCell (p := ⟨w.heap.size + 1, 1, none⟩) (fun _ => rfl) u1).setCell (p := ⟨w.heap.size + 1, 2, none⟩) (fun _ => rfl) u2).setCell (p := ⟨w.heap.size + 1, 3, none⟩) (fun _ => rfl) u3
  exact ⟨h.mod.trans' m (fun i hi e => by omega), m⟩
/-- A list that is read besides the answer's box. -/
theorem DoAt.list {w wy : World} {x0 x1 x2 x3 x4 : Value} (h : DoAt w x0 x1 x2 x3 x4 wy) (u0 u1 u2 u3 : Value) {t : TypeId} {size n : Nat} {v : Value} {xs : List Value} (hs : Seg wy t size v n xs) (ht : t ≠ 34) : Seg (doEnd wy (w.heap.size + 1) u0 u1 u2 u3) t size v n xs :=
  hs.mod (h.finish u0 u1 u2 u3).2 (fun b hb e => hs.off_box h.ret ht b hb e)
end Go.Proofs.YtbgjbikpenefoaaGreatDoor
/- Appending where the block's pattern is kept; what is read lies in no such block. -/
namespace Go.Proofs.YtbgjbikpenefoaaGreatDoor
set_option linter.unusedVariables false
set_option linter.unusedSimpArgs false
open Go.RowKit
/-- The slice's block has its pattern: the cell at j is as φ j says. -/
def PatB (φ : Nat → Value → Prop) (w : World) (v : Value) : Prop := ∀ g off n cap, v = .slice (some ⟨g, off, none⟩) n cap → off = 0 ∧ ∃ cur t, w.heap[g]? = some (.cells cur t (0, 0)) ∧ ∀ (j : Nat) (u : Value), cur[j]? = some u → φ j u
theorem PatB.nil (φ : Nat → Value → Prop) (w : World) : PatB φ w (.slice none 0 0) := fun g off n cap e => by cases e
theorem PatB.mod {φ : Nat → Value → Prop} {S : Nat → Prop} {w w' : World} {v : Value} (h : PatB φ w v) (m : Mod S w w') (hs : ∀ b, v.ownBlock = some b → ¬ S b) : PatB φ w' v := fun g off n cap e => by
  obtain ⟨h1, cur, t, h2, h3⟩ := h g off n cap e
  exact ⟨h1, cur, t, m.heap h2 (hs g (by rw [e]; rfl)), h3⟩
theorem get_splice {l news : List Value} {k j : Nat} {u : Value} (h : (l.take k ++ news ++ l.drop (k + news.length))[j]? = some u) (hk : k + news.length ≤ l.length) (hj : k + news.length ≤ j) : l[j]? = some u := by
  rw [List.append_assoc, List.getElem?_append_right (by rw [List.length_take]; omega), List.getElem?_append_right (by rw [List.length_take]; omega), List.getElem?_drop, List.length_take] at h
  rw [← h]
  congr 1
  omega
theorem run_append_pat {P : Program} {w : World} {e : TypeId} {v : Value} {n : Nat} {xs : List Value} (t ty : TypeId) (i : TypeInfo) (z : Value) (size bytes : Nat) (ht : P.underlying t = some (.slice e)) (hi : P.info? e = some i) (hz : i.zero = some z)
    (hsize : i.size = size) (hby : i.bytes = bytes) (hzs : z.cells.size = size) (hsz : 0 < size)
    (hown : Seg w e size v n xs) (x : Value) (m : Nat) (news : List Value) (hx : Src w size x m news)
    (h63 : n + m ≤ maxLen) (hbytes : (n + m) * bytes ≤ 140737488355328)
    (φ : Nat → Value → Prop) (hp : PatB φ w v) (hall : ∀ (j : Nat) (u : Value), (xs ++ news)[j]? = some u → φ j u) (hzero : ∀ (k q j : Nat) (u : Value), (Builtin.zeroCells z.cells k)[j]? = some u → φ (q * size + j) u)
    (v' : Value) (w' : World) (hr' : (Builtin.append_ #[t, t] ty #[v, x]).run P w = .ok v' w') (hseg' : Seg w' e size v' (n + m) (xs ++ news)) : PatB φ w' v' := by
  subst hsize
  subst hby
  have hsmall : n + m ≤ 9223372036854775807 := by simp only [maxLen] at h63; omega
  have hlen : (xs ++ news).length = (n + m) * i.size := by rw [List.length_append, hown.1, hx.1, Nat.add_mul]
  have grown : ∀ (old : Nat), PatB φ (w.drew.alloc (.cells (xs.toArray ++ news.toArray ++ Builtin.zeroCells z.cells (grownCap w (n + m) old e - (n + m))) e)) (.slice (some ⟨w.heap.size, 0, none⟩) (n + m) (grownCap w (n + m) old e)) := by
    intro old g off n2 cap2 e2
    injection e2 with e3 e4 e5
    injection e3 with e3
    injection e3 with e3 e6
    subst e3 e6
    refine ⟨rfl, _, _, heap_alloc_new' w.drew _, fun j u hu => ?_⟩
    by_cases hj : j < (xs.toArray ++ news.toArray).size
    · rw [Array.getElem?_append_left hj] at hu
      refine hall j u ?_
      rw [← List.getElem?_toArray, ← List.append_toArray]
      exact hu
    · rw [Array.getElem?_append_right (by omega)] at hu
      have hs : (xs.toArray ++ news.toArray).size = (n + m) * i.size := by rw [← hlen]; simp
      rw [hs] at hu hj
      have := hzero _ (n + m) _ u hu
      rwa [show (n + m) * i.size + (j - (n + m) * i.size) = j by omega] at this
  rcases hx.2.2 with ⟨rfl, rfl⟩ | ⟨a, c, rfl, hnews⟩
  · obtain ⟨a0, cap, rfl, hnc, hcm⟩ := hown.shape
    have hr : (Builtin.append_ #[t, t] ty #[.slice a0 n cap, .slice none 0 0]).run P w = .ok (.slice a0 n cap) w := by
      cases a0 <;> simp [Builtin.append_, run_underlying ht, sizeOf, typeInfo, hi, Builtin.lenOf, Builtin.firstCells, storeCells, hnc]
    rw [hr] at hr'
    injection hr' with e1 e2
    subst e1 e2
    exact hp
  rcases hown.2.2 with ⟨rfl, rfl⟩ | ⟨g, off, cap, cur, rfl, hg, hnc, hcm, hcs, htake⟩
  · have hxs : xs = [] := List.eq_nil_of_length_eq_zero (by simpa using hown.1)
    subst hxs
    by_cases hm : m = 0
    · subst hm
      have hn : news = [] := List.eq_nil_of_length_eq_zero (by simpa using hx.1)
      subst hn
      have hr : (Builtin.append_ #[t, t] ty #[.slice none 0 0, .slice (some a) 0 c]).run P w = .ok (.slice none 0 0) w := by
        simp [Builtin.append_, run_underlying ht, sizeOf, typeInfo, hi, Builtin.lenOf, Builtin.firstCells, loadCells, loadCellsFrom]
      rw [hr] at hr'
      injection hr' with e1 e2
      subst e1 e2
      exact hp
    · have hr := run_append_nil (P := P) w t ty e i z ht hi hz a m c news hx.1 hnews (by omega) (by omega) (by have hb := hbytes; simp only [Nat.zero_add] at hb; omega)
      have hgr := grown 0
      simp only [Nat.zero_add, List.nil_append, Array.empty_append] at hgr
      rw [hr] at hr'
      injection hr' with e1 e2
      subst e1 e2
      exact hgr
  · by_cases hroom : n + m ≤ cap
    · have hfit : off + n * i.size + news.length ≤ cur.size := by
        have := Nat.mul_le_mul_right i.size hroom
        rw [hx.1]; rw [Nat.add_mul] at this; omega
      have hf := run_firstCells_some (P := P) w i.size m a m c news hx.1 hnews
      have hst := run_storeCells_at P g (off + n * i.size) e news 0 cur w hg (by simpa using hfit) hx.2.1
      simp only [Nat.add_zero] at hst
      have hr : (Builtin.append_ #[t, t] ty #[.slice (some ⟨g, off, none⟩) n cap, .slice (some a) m c]).run P w = .ok (.slice (some ⟨g, off, none⟩) (n + m) cap) (w.setRow g (cur.toList.take (off + n * i.size) ++ news ++ cur.toList.drop (off + n * i.size + news.length)).toArray) := by
        simp [Builtin.append_, run_underlying ht, sizeOf, typeInfo, hi, Builtin.lenOf, hroom, hf, addr_add, hst]
      rw [hr] at hr'
      injection hr' with e1 e2
      subst e1 e2
      obtain ⟨rfl, cur2, t2, hg2, hpat⟩ := hp g off n cap rfl
      rw [hg] at hg2
      injection hg2 with hg2
      injection hg2 with hg2 hg3
      subst hg2
      have hnew := setRow_heap w g cur (cur.toList.take (0 + n * i.size) ++ news ++ cur.toList.drop (0 + n * i.size + news.length)).toArray e _ hg
      intro g3 off3 n3 cap3 e3
      injection e3 with e3 e4 e5
      injection e3 with e3
      injection e3 with e3 e6
      subst e3 e6
      refine ⟨rfl, _, _, hnew, fun j u hu => ?_⟩
      by_cases hj : j < (n + m) * i.size
      · refine hall j u ?_
        rcases hseg'.2.2 with ⟨e, _⟩ | ⟨g4, off4, cap4, cur4, e4, hg4, -, -, -, h4⟩
        · cases e
        · injection e4 with e4 e5 e6
          injection e4 with e4
          injection e4 with e4 e7
          subst e4 e7
          rw [hnew] at hg4
          injection hg4 with hg4
          injection hg4 with hg4 hg5
          rw [← h4, List.getElem?_take, if_pos hj, ← hg4]
          simpa using hu
      · refine hpat j u ?_
        rw [List.getElem?_toArray] at hu
        have hk : n * i.size + news.length = (n + m) * i.size := by rw [hx.1, Nat.add_mul]
        have := get_splice hu (by simpa using hfit) (by omega)
        simpa using this
    · have holds : ∀ j u, xs[j]? = some u → w.cell? ((⟨g, off, none⟩ : Addr).add j) = some u := fun j u hu => by
        rw [addr_add, cell_of_row hg]
        rw [← htake, List.getElem?_take] at hu
        split at hu
        · simpa using hu
        · cases hu
      have hr := run_append_grow (P := P) w t ty e i z ht hi hz ⟨g, off, none⟩ n cap xs hown.1 holds a m c news hx.1 hnews (by omega) (by omega) (growslice_fits (by omega) hbytes)
      rw [hr] at hr'
      injection hr' with e1 e2
      subst e1 e2
      exact grown cap
theorem wpList_append_pat {P : Program} {w : World} {e : TypeId} {v : Value} {n : Nat} {xs : List Value} {ops : Array Oper} {rest : List Oper} {o : Oper} {a : Act} {Q : Exit → Act → World → Prop} (hgd : o.guard = none) (s x : Operand) (t : TypeId)
    (ho : o.op = .call { callee := .builtin .append, args := #[s, x], argTypes := #[t, t] })
    (i : TypeInfo) (z : Value) (size bytes : Nat) (ht : P.underlying t = some (.slice e)) (hi : P.info? e = some i) (hz : i.zero = some z)
    (hsize : i.size = size) (hby : i.bytes = bytes) (hzs : z.cells.size = size) (hsz : 0 < size)
    (hs : a.eval s = v) (hown : Seg w e size v n xs) (xv : Value) (m : Nat) (news : List Value) (hx : a.eval x = xv) (hsrc : Src w size xv m news)
    (h63 : n + m ≤ maxLen) (hbytes : (n + m) * bytes ≤ 140737488355328)
    (φ : Nat → Value → Prop) (hp : PatB φ w v) (hall : ∀ (j : Nat) (u : Value), (xs ++ news)[j]? = some u → φ j u) (hzero : ∀ (k q j : Nat) (u : Value), (Builtin.zeroCells z.cells k)[j]? = some u → φ (q * size + j) u)
    (h : ∀ v' w', Seg w' e size v' (n + m) (xs ++ news) → PatB φ w' v' → w.grownBy w' v.ownBlock → (v'.ownBlock = v.ownBlock ∨ v'.ownBlock = some w.heap.size) → wpList P ops Q rest (a.put o.dst v') w') : wpList P ops Q (o :: rest) a w :=
  wpList_plain hgd fun _ hK => by
    obtain ⟨v', w', hr, h2, h3, h4⟩ := run_append_seg (P := P) t o.type i z size bytes ht hi hz hsize hby hzs hsz hown xv m news hsrc h63 hbytes
    have h5 := run_append_pat (P := P) t o.type i z size bytes ht hi hz hsize hby hzs hsz hown xv m news hsrc h63 hbytes φ hp hall hzero v' w' hr h2
    unfold Oper.wp execOp
    simp only [ho, resolve, invoke, builtin, Sem.run_bind, Sem.run_pure, Result.andThen_ok, List.map_toArray, List.map_cons, List.map_nil, hs, hx, hr]
    exact hK _ _ (h v' w' h2 h5 h3 h4)
/-! values, one behind the other -/
def valP (j : Nat) (u : Value) : Prop := (j % 3 = 0 ∧ ∃ n, u = .int .u8 n) ∨ (j % 3 = 1 ∧ ∃ n, u = .int .i64 n) ∨ (j % 3 = 2 ∧ ∃ s, u = .string s)
theorem valP_cells : ∀ (l : List Val) (j : Nat) (u : Value), (vvcells l)[j]? = some u → valP j u
  | [], j, u, h => by simp [vvcells] at h
  | x :: r, j, u, h => by
    have e : vvcells (x :: r) = x.cells ++ vvcells r := by simp [vvcells]
    rw [e] at h
    by_cases hj : j < 3
    · rw [List.getElem?_append_left (by simpa [Val.cells] using hj)] at h
      have hc : j = 0 ∨ j = 1 ∨ j = 2 := by omega
      rcases hc with rfl | rfl | rfl
      · simp [Val.cells] at h; exact .inl ⟨rfl, _, h.symm⟩
      · simp [Val.cells] at h; exact .inr (.inl ⟨rfl, _, h.symm⟩)
      · simp [Val.cells] at h; exact .inr (.inr ⟨rfl, _, h.symm⟩)
    · rw [List.getElem?_append_right (by simp [Val.cells]; omega)] at h
      have := valP_cells r _ u h
      have e3 : x.cells.length = 3 := rfl
      rw [e3] at this
      unfold valP at this ⊢
      rwa [show (j - 3) % 3 = j % 3 by omega] at this
theorem zero_get (k : Nat) : ∀ (j : Nat) (u : Value), (Builtin.zeroCells (#[.int .u8 0, .int .i64 0, zval] : Array Value) k)[j]? = some u → valP j u := by
  intro j u h
  unfold Builtin.zeroCells at h
  rw [Array.getElem?_map, Option.map_eq_some_iff] at h
  obtain ⟨i, hi, rfl⟩ := h
  rw [Array.getElem?_range] at hi
  split at hi
  · injection hi with hi
    subst hi
    have e : (#[Value.int .u8 0, .int .i64 0, zval] : Array Value).size = 3 := rfl
    rw [e]
    unfold valP
    have hj : j % 3 = 0 ∨ j % 3 = 1 ∨ j % 3 = 2 := by omega
    rcases hj with c | c | c
    · rw [c]; exact .inl ⟨rfl, 0, rfl⟩
    · rw [c]; exact .inr (.inl ⟨rfl, 0, rfl⟩)
    · rw [c]; exact .inr (.inr ⟨rfl, _, rfl⟩)
  · cases hi
theorem valP_zero (k q j : Nat) (u : Value) (h : (Builtin.zeroCells (Value.agg #[.int .u8 0, .int .i64 0, zval]).cells k)[j]? = some u) : valP (q * 3 + j) u := by
  have := zero_get k j u h
  unfold valP at this ⊢
  rwa [show (q * 3 + j) % 3 = j % 3 by omega]
/-! what is read of a list of vertices lies in no block with other cells -/
end Go.Proofs.YtbgjbikpenefoaaGreatDoor
/- gussetref03.Do: a transaction. -/
namespace Go.Proofs.YtbgjbikpenefoaaGreatDoor
set_option linter.unusedVariables false
set_option linter.unusedSimpArgs false
open Go.RowKit
theorem one_vals (L : Gr) (o : Opr) : (oneG L o).vals.length ≤ 1 := by
  unfold oneG
  repeat' split
  all_goals simp
theorem infoValue : (Tryz.prog.info? 44).map (fun i => (i.zero, i.size, i.bytes)) = some (some (.agg #[.int .u8 0, .int .i64 0, zval]), 3, 32) := by kernel_rfl
theorem vv_ones (l : List Val) : ∀ u ∈ vvcells l, u.oneCell' = true := by
  intro u hu
  unfold vvcells at hu
  obtain ⟨x, _, hx⟩ := List.mem_flatMap.1 hu
  simp [Val.cells] at hx
  rcases hx with rfl | rfl | rfl <;> rfl
theorem vv_append (a b : List Val) : vvcells (a ++ b) = vvcells a ++ vvcells b := by simp [vvcells]
end Go.Proofs.YtbgjbikpenefoaaGreatDoor
