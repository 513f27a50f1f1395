import Derived.Test.YtpigipgoopeeoaaGreatDoorMOn16
import Derived.Test.YtpigipgoopeeoaaGreatDoorMOn20
set_option linter.unusedVariables false
set_option linter.unusedSimpArgs false
namespace Go.Proofs.YtpigipgoopeeoaaGreatDoor
open Go.RowKit
structure DoAt (w : World) (x0 x1 x2 x3 x4 : Value) (w0 : World) : Prop where
 mod : Mod (fun _ => False) w w0
 size : w.heap.size + 2 ≤ w0.heap.size
 box : w0.heap[w.heap.size]? = some (.cells #[x0, x1, x2, x3, x4] 34 (0, 0))
 ret : w0.heap[w.heap.size + 1]? = some (.cells #[.int .i64 0, .int .i64 0, .slice none 0 0, .slice none 0 0] 39 (0, 0))
theorem DoAt.start (w : World) (x0 x1 x2 x3 x4 : Value) : DoAt w x0 x1 x2 x3 x4 ((w.alloc (.cells #[x0, x1, x2, x3, x4] 34)).alloc (.cells #[.int .i64 0, .int .i64 0, .slice none 0 0, .slice none 0 0] 39)) := by
 refine ⟨((Mod.refl _ _).alloc _).alloc _, by simp, heap_alloc_old (heap_alloc_new' w _), ?_⟩
 have h := heap_alloc_new' (w.alloc (.cells #[x0, x1, x2, x3, x4] 34)) (.cells #[.int .i64 0, .int .i64 0, .slice none 0 0, .slice none 0 0] 39)
 simpa using h
theorem DoAt.next {S : Nat → Prop} {w w0 w1 : World} {x0 x1 x2 x3 x4 : Value} (h : DoAt w x0 x1 x2 x3 x4 w0) (m : Mod S w0 w1) (hs : ∀ k, S k → w.heap.size + 2 ≤ k) : DoAt w x0 x1 x2 x3 x4 w1 :=
 ⟨h.mod.trans' m (fun i hi s => by have := hs i s; omega), Nat.le_trans h.size m.size, m.heap h.box (fun s => by have := hs _ s; omega), m.heap h.ret (fun s => by have := hs _ s; omega)⟩
theorem DoAt.retf {w w0 : World} {x0 x1 x2 x3 x4 : Value} (h : DoAt w x0 x1 x2 x3 x4 w0) :
   w0.cell? ⟨w.heap.size + 1, 0, none⟩ = some (.int .i64 0) ∧ w0.cell? ⟨w.heap.size + 1, 1, none⟩ = some (.int .i64 0) ∧ w0.cell? ⟨w.heap.size + 1, 2, none⟩ = some (.slice none 0 0) ∧ w0.cell? ⟨w.heap.size + 1, 3, none⟩ = some (.slice none 0 0) ∧
   w0.frozen? ⟨w.heap.size + 1, 0, none⟩ = false ∧ w0.frozen? ⟨w.heap.size + 1, 1, none⟩ = false ∧ w0.frozen? ⟨w.heap.size + 1, 2, none⟩ = false ∧ w0.frozen? ⟨w.heap.size + 1, 3, none⟩ = false ∧ w.heap.size + 1 < w0.heap.size :=
 ⟨cell_of_row h.ret 0, cell_of_row h.ret 1, cell_of_row h.ret 2, cell_of_row h.ret 3, free_of_row h.ret 0, free_of_row h.ret 1, free_of_row h.ret 2, free_of_row h.ret 3, lt_of_block h.ret⟩
theorem DoAt.boxf {w w0 : World} {x0 x1 x2 x3 x4 : Value} (h : DoAt w x0 x1 x2 x3 x4 w0) :
   w0.cell? ⟨w.heap.size, 0, none⟩ = some x0 ∧ w0.cell? ⟨w.heap.size, 1, none⟩ = some x1 ∧ w0.cell? ⟨w.heap.size, 2, none⟩ = some x2 ∧ w0.cell? ⟨w.heap.size, 3, none⟩ = some x3 ∧ w0.cell? ⟨w.heap.size, 4, none⟩ = some x4 ∧ w.heap.size < w0.heap.size :=
 ⟨cell_of_row h.box 0, cell_of_row h.box 1, cell_of_row h.box 2, cell_of_row h.box 3, cell_of_row h.box 4, lt_of_block h.box⟩
abbrev doEnd (wy : World) (n : Nat) (u0 u1 u2 u3 : Value) : World := (((wy.setCell ⟨n, 0, none⟩ u0).setCell ⟨n, 1, none⟩ u1).setCell ⟨n, 2, none⟩ u2).setCell ⟨n, 3, none⟩ u3
theorem DoAt.finish {w wy : World} {x0 x1 x2 x3 x4 : Value} (h : DoAt w x0 x1 x2 x3 x4 wy) (u0 u1 u2 u3 : Value) :
   Mod (fun _ => False) w (doEnd wy (w.heap.size + 1) u0 u1 u2 u3) ∧ Mod (fun k => k = w.heap.size + 1) wy (doEnd wy (w.heap.size + 1) u0 u1 u2 u3) := by
 have m : Mod (fun k => k = w.heap.size + 1) wy (doEnd wy (w.heap.size + 1) u0 u1 u2 u3) :=
   ((((Mod.refl (fun k => k = w.heap.size + 1) wy).setCell (p := ⟨w.heap.size + 1, 0, none⟩) (fun _ => rfl) u0).setCell (p := ⟨w.heap.size + 1, 1, none⟩) (fun _ => rfl) u1).setCell (p := ⟨w.heap.size + 1, 2, none⟩) (fun _ => rfl) u2).setCell (p := ⟨w.heap.size + 1, 3, none⟩) (fun _ => rfl) u3
 exact ⟨h.mod.trans' m (fun i hi e => by omega), m⟩
theorem DoAt.list {w wy : World} {x0 x1 x2 x3 x4 : Value} (h : DoAt w x0 x1 x2 x3 x4 wy) (u0 u1 u2 u3 : Value) {t : TypeId} {size n : Nat} {v : Value} {xs : List Value} (hs : Seg wy t size v n xs) (ht : t ≠ 39) : Seg (doEnd wy (w.heap.size + 1) u0 u1 u2 u3) t size v n xs :=
 hs.mod (h.finish u0 u1 u2 u3).2 (fun b hb e => hs.off_box h.ret ht b hb e)
set_option maxRecDepth 100000 in
set_option maxHeartbeats 4000000 in
theorem do_bad (gv : Value) (r : Rqt) (vo : Value) (w : World) (ho : ORd w vo r.ops) (hc : checkR r ≠ 0) :
   Calls Tryz.prog 9 #[gv, rqV r vo] w fun e w' => e = .returned (.agg #[.int .i64 (checkR r : Nat), .int .i64 0, .slice none 0 0, .slice none 0 0]) ∧ Mod (fun _ => False) w w' := by
 obtain ⟨kind, ops, v, k, d⟩ := r
 have HO := Lib.hid ho
 obtain ⟨a, c, rfl, -⟩ := ho.row.shape
 obtain ⟨n, hn⟩ : ∃ n, n = ops.length := ⟨_, rfl⟩
 simp only [rqV, ← hn] at HO ⊢
 obtain ⟨cr, hcr⟩ : ∃ cr, cr = checkR ⟨kind, ops, v, k, d⟩ := ⟨_, rfl⟩
 rw [← hcr] at hc ⊢
 have HS := Lib.hid (DoAt.start w (.int .u8 (kind : Int)) (.slice a n c) (.int .u32 (v : Int)) (.int .i64 k) (.int .i64 d))
 have HCK := Lib.hid (dcheck_any ⟨kind, ops, v, k, d⟩ (.slice a n c) _ (HO.out.keep HS.out.mod))
 simp only [rqV] at HCK
 rw [← hcr] at HCK
 have hcr' : ((cr : Int) != 0) = true := by simp [hc]
 clear hn hcr ho hc
 go_enter Tryz.func9, Tryz.ntmps9
 go_wp2_with (go_at_call 20; refine HCK.out.mono ?_; (rintro e w1 ⟨rfl, hm1⟩); have HD1 := Lib.hid (HS.out.next hm1 (fun _ f => f.elim)); obtain ⟨r0, r1, r2, r3, f0, f1, f2, f3, zr⟩ := HD1.out.retf; clear hm1)
 refine bodyPost_ret (v := .agg #[.int .i64 (cr : Int), .int .i64 0, .slice none 0 0, .slice none 0 0]) (by simp [results, Tryz.results9, go_sem, r0, r1, r2, r3]) rfl ⟨rfl, (HD1.out.finish _ _ _ _).1⟩
open Go.RowKit
def PatB (φ : Nat → Value → Prop) (w : World) (v : Value) : Prop := ∀ g off n cap, v = .slice (some ⟨g, off, none⟩) n cap → off = 0 ∧ ∃ cur t, w.heap[g]? = some (.cells cur t (0, 0)) ∧ ∀ (j : Nat) (u : Value), cur[j]? = some u → φ j u
theorem PatB.nil (φ : Nat → Value → Prop) (w : World) : PatB φ w (.slice none 0 0) := fun g off n cap e => by cases e
theorem PatB.mod {φ : Nat → Value → Prop} {S : Nat → Prop} {w w' : World} {v : Value} (h : PatB φ w v) (m : Mod S w w') (hs : ∀ b, v.ownBlock = some b → ¬ S b) : PatB φ w' v := fun g off n cap e => by
 obtain ⟨h1, cur, t, h2, h3⟩ := h g off n cap e
 exact ⟨h1, cur, t, m.heap h2 (hs g (by rw [e]; rfl)), h3⟩
theorem get_splice {l news : List Value} {k j : Nat} {u : Value} (h : (l.take k ++ news ++ l.drop (k + news.length))[j]? = some u) (hk : k + news.length ≤ l.length) (hj : k + news.length ≤ j) : l[j]? = some u := by
 rw [List.append_assoc, List.getElem?_append_right (by rw [List.length_take]; omega), List.getElem?_append_right (by rw [List.length_take]; omega), List.getElem?_drop, List.length_take] at h
 rw [← h]
 congr 1
 omega
theorem run_append_pat {P : Program} {w : World} {e : TypeId} {v : Value} {n : Nat} {xs : List Value} (t ty : TypeId) (i : TypeInfo) (z : Value) (size bytes : Nat) (ht : P.underlying t = some (.slice e)) (hi : P.info? e = some i) (hz : i.zero = some z)
   (hsize : i.size = size) (hby : i.bytes = bytes) (hzs : z.cells.size = size) (hsz : 0 < size)
   (hown : Seg w e size v n xs) (x : Value) (m : Nat) (news : List Value) (hx : Src w size x m news)
   (h63 : n + m ≤ maxLen) (hbytes : (n + m) * bytes ≤ 140737488355328)
   (φ : Nat → Value → Prop) (hp : PatB φ w v) (hall : ∀ (j : Nat) (u : Value), (xs ++ news)[j]? = some u → φ j u) (hzero : ∀ (k q j : Nat) (u : Value), (Builtin.zeroCells z.cells k)[j]? = some u → φ (q * size + j) u)
   (v' : Value) (w' : World) (hr' : (Builtin.append_ #[t, t] ty #[v, x]).run P w = .ok v' w') (hseg' : Seg w' e size v' (n + m) (xs ++ news)) : PatB φ w' v' := by
 subst hsize
 subst hby
 have hsmall : n + m ≤ 9223372036854775807 := by simp only [maxLen] at h63; omega
 have hlen : (xs ++ news).length = (n + m) * i.size := by rw [List.length_append, hown.1, hx.1, Nat.add_mul]
 have grown : ∀ (old : Nat), PatB φ (w.drew.alloc (.cells (xs.toArray ++ news.toArray ++ Builtin.zeroCells z.cells (grownCap w (n + m) old e - (n + m))) e)) (.slice (some ⟨w.heap.size, 0, none⟩) (n + m) (grownCap w (n + m) old e)) := by
   intro old g off n2 cap2 e2
   injection e2 with e3 e4 e5
   injection e3 with e3
   injection e3 with e3 e6
   subst e3 e6
   refine ⟨rfl, _, _, heap_alloc_new' w.drew _, fun j u hu => ?_⟩
   by_cases hj : j < (xs.toArray ++ news.toArray).size
   · rw [Array.getElem?_append_left hj] at hu
     refine hall j u ?_
     rw [← List.getElem?_toArray, ← List.append_toArray]
     exact hu
   · rw [Array.getElem?_append_right (by omega)] at hu
     have hs : (xs.toArray ++ news.toArray).size = (n + m) * i.size := by rw [← hlen]; simp
     rw [hs] at hu hj
     have := hzero _ (n + m) _ u hu
     rwa [show (n + m) * i.size + (j - (n + m) * i.size) = j by omega] at this
 rcases hx.2.2 with ⟨rfl, rfl⟩ | ⟨a, c, rfl, hnews⟩
 · obtain ⟨a0, cap, rfl, hnc, hcm⟩ := hown.shape
   have hr : (Builtin.append_ #[t, t] ty #[.slice a0 n cap, .slice none 0 0]).run P w = .ok (.slice a0 n cap) w := by
     cases a0 <;> simp [Builtin.append_, run_underlying ht, sizeOf, typeInfo, hi, Builtin.lenOf, Builtin.firstCells, storeCells, hnc]
   rw [hr] at hr'
   injection hr' with e1 e2
   subst e1 e2
   exact hp
 rcases hown.2.2 with ⟨rfl, rfl⟩ | ⟨g, off, cap, cur, rfl, hg, hnc, hcm, hcs, htake⟩
 · have hxs : xs = [] := List.eq_nil_of_length_eq_zero (by simpa using hown.1)
   subst hxs
   by_cases hm : m = 0
   · subst hm
     have hn : news = [] := List.eq_nil_of_length_eq_zero (by simpa using hx.1)
     subst hn
     have hr : (Builtin.append_ #[t, t] ty #[.slice none 0 0, .slice (some a) 0 c]).run P w = .ok (.slice none 0 0) w := by
       simp [Builtin.append_, run_underlying ht, sizeOf, typeInfo, hi, Builtin.lenOf, Builtin.firstCells, loadCells, loadCellsFrom]
     rw [hr] at hr'
     injection hr' with e1 e2
     subst e1 e2
     exact hp
   · have hr := run_append_nil (P := P) w t ty e i z ht hi hz a m c news hx.1 hnews (by omega) (by omega) (by have hb := hbytes; simp only [Nat.zero_add] at hb; omega)
     have hgr := grown 0
     simp only [Nat.zero_add, List.nil_append, Array.empty_append] at hgr
     rw [hr] at hr'
     injection hr' with e1 e2
     subst e1 e2
     exact hgr
 · by_cases hroom : n + m ≤ cap
   · have hfit : off + n * i.size + news.length ≤ cur.size := by
       have := Nat.mul_le_mul_right i.size hroom
       rw [hx.1]; rw [Nat.add_mul] at this; omega
     have hf := run_firstCells_some (P := P) w i.size m a m c news hx.1 hnews
     have hst := run_storeCells_at P g (off + n * i.size) e news 0 cur w hg (by simpa using hfit) hx.2.1
     simp only [Nat.add_zero] at hst
     have hr : (Builtin.append_ #[t, t] ty #[.slice (some ⟨g, off, none⟩) n cap, .slice (some a) m c]).run P w = .ok (.slice (some ⟨g, off, none⟩) (n + m) cap) (w.setRow g (cur.toList.take (off + n * i.size) ++ news ++ cur.toList.drop (off + n * i.size + news.length)).toArray) := by
       simp [Builtin.append_, run_underlying ht, sizeOf, typeInfo, hi, Builtin.lenOf, hroom, hf, addr_add, hst]
     rw [hr] at hr'
     injection hr' with e1 e2
     subst e1 e2
     obtain ⟨rfl, cur2, t2, hg2, hpat⟩ := hp g off n cap rfl
     rw [hg] at hg2
     injection hg2 with hg2
     injection hg2 with hg2 hg3
     subst hg2
     have hnew := setRow_heap w g cur (cur.toList.take (0 + n * i.size) ++ news ++ cur.toList.drop (0 + n * i.size + news.length)).toArray e _ hg
     intro g3 off3 n3 cap3 e3
     injection e3 with e3 e4 e5
     injection e3 with e3
     injection e3 with e3 e6
     subst e3 e6
     refine ⟨rfl, _, _, hnew, fun j u hu => ?_⟩
     by_cases hj : j < (n + m) * i.size
     · refine hall j u ?_
       rcases hseg'.2.2 with ⟨e, _⟩ | ⟨g4, off4, cap4, cur4, e4, hg4, -, -, -, h4⟩
       · cases e
       · injection e4 with e4 e5 e6
         injection e4 with e4
         injection e4 with e4 e7
         subst e4 e7
         rw [hnew] at hg4
         injection hg4 with hg4
         injection hg4 with hg4 hg5
         rw [← h4, List.getElem?_take, if_pos hj, ← hg4]
         simpa using hu
     · refine hpat j u ?_
       rw [List.getElem?_toArray] at hu
       have hk : n * i.size + news.length = (n + m) * i.size := by rw [hx.1, Nat.add_mul]
       have := get_splice hu (by simpa using hfit) (by omega)
       simpa using this
   · have holds : ∀ j u, xs[j]? = some u → w.cell? ((⟨g, off, none⟩ : Addr).add j) = some u := fun j u hu => by
       rw [addr_add, cell_of_row hg]
       rw [← htake, List.getElem?_take] at hu
       split at hu
       · simpa using hu
       · cases hu
     have hr := run_append_grow (P := P) w t ty e i z ht hi hz ⟨g, off, none⟩ n cap xs hown.1 holds a m c news hx.1 hnews (by omega) (by omega) (growslice_fits (by omega) hbytes)
     rw [hr] at hr'
     injection hr' with e1 e2
     subst e1 e2
     exact grown cap
theorem wpList_append_pat {P : Program} {w : World} {e : TypeId} {v : Value} {n : Nat} {xs : List Value} {ops : Array Oper} {rest : List Oper} {o : Oper} {a : Act} {Q : Exit → Act → World → Prop} (hgd : o.guard = none) (s x : Operand) (t : TypeId)
   (ho : o.op = .call { callee := .builtin .append, args := #[s, x], argTypes := #[t, t] })
   (i : TypeInfo) (z : Value) (size bytes : Nat) (ht : P.underlying t = some (.slice e)) (hi : P.info? e = some i) (hz : i.zero = some z)
   (hsize : i.size = size) (hby : i.bytes = bytes) (hzs : z.cells.size = size) (hsz : 0 < size)
   (hs : a.eval s = v) (hown : Seg w e size v n xs) (xv : Value) (m : Nat) (news : List Value) (hx : a.eval x = xv) (hsrc : Src w size xv m news)
   (h63 : n + m ≤ maxLen) (hbytes : (n + m) * bytes ≤ 140737488355328)
   (φ : Nat → Value → Prop) (hp : PatB φ w v) (hall : ∀ (j : Nat) (u : Value), (xs ++ news)[j]? = some u → φ j u) (hzero : ∀ (k q j : Nat) (u : Value), (Builtin.zeroCells z.cells k)[j]? = some u → φ (q * size + j) u)
   (h : ∀ v' w', Seg w' e size v' (n + m) (xs ++ news) → PatB φ w' v' → w.grownBy w' v.ownBlock → (v'.ownBlock = v.ownBlock ∨ v'.ownBlock = some w.heap.size) → wpList P ops Q rest (a.put o.dst v') w') : wpList P ops Q (o :: rest) a w :=
 wpList_plain hgd fun _ hK => by
   obtain ⟨v', w', hr, h2, h3, h4⟩ := run_append_seg (P := P) t o.type i z size bytes ht hi hz hsize hby hzs hsz hown xv m news hsrc h63 hbytes
   have h5 := run_append_pat (P := P) t o.type i z size bytes ht hi hz hsize hby hzs hsz hown xv m news hsrc h63 hbytes φ hp hall hzero v' w' hr h2
   unfold Oper.wp execOp
   simp only [ho, resolve, invoke, builtin, Sem.run_bind, Sem.run_pure, Result.andThen_ok, List.map_toArray, List.map_cons, List.map_nil, hs, hx, hr]
   exact hK _ _ (h v' w' h2 h5 h3 h4)
def valP (j : Nat) (u : Value) : Prop := (j % 3 = 0 ∧ ∃ n, u = .int .u8 n) ∨ (j % 3 = 1 ∧ ∃ n, u = .int .i64 n) ∨ (j % 3 = 2 ∧ ∃ s, u = .string s)
theorem valP_cells : ∀ (l : List Val) (j : Nat) (u : Value), (vvcells l)[j]? = some u → valP j u
 | [], j, u, h => by simp [vvcells] at h
 | x :: r, j, u, h => by
   have e : vvcells (x :: r) = x.cells ++ vvcells r := by simp [vvcells]
   rw [e] at h
   by_cases hj : j < 3
   · rw [List.getElem?_append_left (by simpa [Val.cells] using hj)] at h
     have hc : j = 0 ∨ j = 1 ∨ j = 2 := by omega
     rcases hc with rfl | rfl | rfl
     · simp [Val.cells] at h; exact .inl ⟨rfl, _, h.symm⟩
     · simp [Val.cells] at h; exact .inr (.inl ⟨rfl, _, h.symm⟩)
     · simp [Val.cells] at h; exact .inr (.inr ⟨rfl, _, h.symm⟩)
   · rw [List.getElem?_append_right (by simp [Val.cells]; omega)] at h
     have := valP_cells r _ u h
     have e3 : x.cells.length = 3 := rfl
     rw [e3] at this
     unfold valP at this ⊢
     rwa [show (j - 3) % 3 = j % 3 by omega] at this
theorem zero_get (k : Nat) : ∀ (j : Nat) (u : Value), (Builtin.zeroCells (#[.int .u8 0, .int .i64 0, zval] : Array Value) k)[j]? = some u → valP j u := by
 intro j u h
 unfold Builtin.zeroCells at h
 rw [Array.getElem?_map, Option.map_eq_some_iff] at h
 obtain ⟨i, hi, rfl⟩ := h
 rw [Array.getElem?_range] at hi
 split at hi
 · injection hi with hi
   subst hi
   have e : (#[Value.int .u8 0, .int .i64 0, zval] : Array Value).size = 3 := rfl
   rw [e]
   unfold valP
   have hj : j % 3 = 0 ∨ j % 3 = 1 ∨ j % 3 = 2 := by omega
   rcases hj with c | c | c
   · rw [c]; exact .inl ⟨rfl, 0, rfl⟩
   · rw [c]; exact .inr (.inl ⟨rfl, 0, rfl⟩)
   · rw [c]; exact .inr (.inr ⟨rfl, _, rfl⟩)
 · cases hi
theorem valP_zero (k q j : Nat) (u : Value) (h : (Builtin.zeroCells (Value.agg #[.int .u8 0, .int .i64 0, zval]).cells k)[j]? = some u) : valP (q * 3 + j) u := by
 have := zero_get k j u h
 unfold valP at this ⊢
 rwa [show (q * 3 + j) % 3 = j % 3 by omega]
structure NoRow (cur : Array Value) : Prop where
 row : ∀ (j : Nat) (n : Int), cur[j]? ≠ some (.int .u32 n) ∨ ∀ b, cur[j + 1]? ≠ some (.bool b)
 ent : ∀ (j : Nat) (k : IntKind) (n m : Int) (s : ByteArray), ¬ (cur[j]? = some (.int k n) ∧ cur[j + 1]? = some (.int .u8 m) ∧ cur[j + 3]? = some (.string s))
theorem RdS.offC {w w' : World} {kk : IntKind} {g : Nat} {cur : Array Value} {t : TypeId} {v : Value} {l : List Ent} (hg : w.heap[g]? = some (.cells cur t (0, 0))) (hc : NoRow cur) (h : RdS w 4 v l.length (cellsOf kk l)) (m : Mod (fun k => k = g) w w') : RdS w' 4 v l.length (cellsOf kk l) := by
 refine ⟨h.len, h.shape, fun a c e j u' hu' => ?_⟩
 obtain ⟨b, off, ea, hb, hcl⟩ := h.cell a c e j u' hu'
 refine ⟨b, off, ea, Nat.lt_of_lt_of_le hb m.size, m.cellS hcl (fun hbg => ?_)⟩
 have hbg : b = g := hbg
 have hj : 0 < l.length := by
   rcases Nat.eq_zero_or_pos l.length with h0 | h0
   · have := List.length_eq_zero_iff.1 h0
     subst this
     simp [cellsOf] at hu'
   · exact h0
 obtain ⟨x, hx⟩ : ∃ x, l[0]? = some x := ⟨_, List.getElem?_eq_getElem hj⟩
 obtain ⟨b1, off1, ea1, _, h0, h1, _, h3⟩ := h.ent hx (a := a) (c := c) e
 rw [ea] at ea1
 injection ea1 with e1
 injection e1 with e1 e2
 subst e1 e2 hbg
 rw [cell_of_row hg] at h0 h1 h3
 simp only [Nat.zero_mul, Nat.add_zero] at h0 h1 h3
 exact hc.ent _ _ _ _ _ ⟨h0, h1, h3⟩
theorem VRd.offC {w w' : World} {g : Nat} {cur : Array Value} {t : TypeId} {vp vh : Value} {x : Vtx} (h : VRd w vp vh x) (hg : w.heap[g]? = some (.cells cur t (0, 0))) (hc : NoRow cur) (m : Mod (fun k => k = g) w w') : VRd w' vp vh x :=
 ⟨h.fits, h.props.offC hg hc m, h.halves.offC hg hc m⟩
theorem LRd.offC {w w' : World} {g : Nat} {cur : Array Value} {t : TypeId} {v : Value} {l : List Vs} (h : LRd w v l) (hg : w.heap[g]? = some (.cells cur t (0, 0))) (hc : NoRow cur) (m : Mod (fun k => k = g) w w') : LRd w' v l := by
 refine ⟨⟨h.row.len, h.row.shape, fun a c e j u' hu' => ?_⟩, fun s hs => (h.each s hs).offC hg hc m⟩
 obtain ⟨b, off, ea, hb, hcl⟩ := h.row.cell a c e j u' hu'
 refine ⟨b, off, ea, Nat.lt_of_lt_of_le hb m.size, m.cellS hcl (fun hbg => ?_)⟩
 have hbg : b = g := hbg
 have hj : 0 < l.length := by
   rcases Nat.eq_zero_or_pos l.length with h0 | h0
   · have := List.length_eq_zero_iff.1 h0
     subst this
     simp [vcells] at hu'
   · exact h0
 obtain ⟨x, hx⟩ : ∃ x, l[0]? = some x := ⟨_, List.getElem?_eq_getElem hj⟩
 obtain ⟨b1, off1, ea1, _, h0, h1, _, h3⟩ := h.ent hx (a := a) (c := c) e
 rw [ea] at ea1
 injection ea1 with e1
 injection e1 with e1 e2
 subst e1 e2 hbg
 rw [cell_of_row hg] at h0 h1
 simp only [Nat.zero_mul, Nat.add_zero] at h0 h1
 rcases hc.row off x.x.id with c | c
 · exact c h0
 · exact c _ h1
theorem noRow_vals {cur : Array Value} (h : ∀ (j : Nat) (u : Value), cur[j]? = some u → valP j u) : NoRow cur := by
 refine ⟨fun j n => .inl fun e => ?_, fun j k n m s ⟨h0, h1, h3⟩ => ?_⟩
 · rcases h j _ e with ⟨_, _, h⟩ | ⟨_, _, h⟩ | ⟨_, _, h⟩ <;> cases h
 · have a0 := h j _ h0
   have a1 := h (j + 1) _ h1
   rcases a1 with ⟨c1, _⟩ | ⟨_, _, c⟩ | ⟨_, _, c⟩
   · rcases a0 with ⟨c0, _⟩ | ⟨c0, _⟩ | ⟨_, _, c⟩
     · omega
     · omega
     · cases c
   · cases c
   · cases c
theorem noRow_answer (x y : Int) (a b : Option Addr) (n c n2 c2 : Nat) : NoRow #[.int .i64 x, .int .i64 y, .slice a n c, .slice b n2 c2] := by
 refine ⟨fun j n => .inl fun e => ?_, fun j k n m s ⟨h0, h1, h3⟩ => ?_⟩
 · rcases j with _ | _ | _ | _ | j <;> simp at e
 · rcases j with _ | j <;> simp at h3
open Go.RowKit
theorem one_vals (L : Gr) (o : Opr) : (oneG L o).vals.length ≤ 1 := by
 unfold oneG
 repeat' split
 all_goals simp
theorem infoValue : (Tryz.prog.info? 77).map (fun i => (i.zero, i.size, i.bytes)) = some (some (.agg #[.int .u8 0, .int .i64 0, zval]), 3, 32) := by kernel_rfl
theorem vv_ones (l : List Val) : ∀ u ∈ vvcells l, u.oneCell' = true := by
 intro u hu
 unfold vvcells at hu
 obtain ⟨x, _, hx⟩ := List.mem_flatMap.1 hu
 simp [Val.cells] at hx
 rcases hx with rfl | rfl | rfl <;> rfl
theorem vv_append (a b : List Val) : vvcells (a ++ b) = vvcells a ++ vvcells b := by simp [vvcells]
structure DoLp (w : World) (x0 x1 x2 x3 x4 : Value) (hb ab : Nat) (L : Gr) (ops : List Opr) (k : Nat) (L' : Gr) (vals : List Val) (vv : Value) (wr : World) : Prop where
 at_ : DoAt w x0 x1 x2 x3 x4 wr
 hlo : w.heap.size + 2 ≤ hb
 alo : w.heap.size + 2 ≤ ab
 ne : ab ≠ hb
 gr : ∃ v l, GrAt wr hb v l ∧ l.map Vs.x = L'
 run : okRun L (ops.take k) = some (L', vals)
 len : vals.length ≤ k
 abx : wr.heap[ab]? = some (.cells #[.int .i64 0, .int .i64 0, vv, .slice none 0 0] 39 (0, 0))
 seg : Seg wr 77 3 vv vals.length (vvcells vals)
 pat : PatB valP wr vv
 own : ∀ b, vv.ownBlock = some b → w.heap.size + 2 ≤ b
theorem DoLp.start {w w1 w2 : World} {x0 x1 x2 x3 x4 v : Value} {hb : Nat} {l : List Vs} {L : Gr} (ops : List Opr) (h : DoAt w x0 x1 x2 x3 x4 w1) (m : Mod (fun _ => False) w1 w2) (hg : GrAt w2 hb v l) (hl : l.map Vs.x = L) (hlo : w1.heap.size ≤ hb) :
   DoLp w x0 x1 x2 x3 x4 hb w2.heap.size L ops 0 L [] (.slice none 0 0) (w2.alloc (.cells #[.int .i64 0, .int .i64 0, .slice none 0 0, .slice none 0 0] 39)) := by
 have ma : Mod (fun _ => False) w2 (w2.alloc (.cells #[.int .i64 0, .int .i64 0, .slice none 0 0, .slice none 0 0] 39)) := (Mod.refl _ _).alloc _
 have hs := h.size
 have hb2 := lt_of_block hg.box
 have hm := m.size
 exact ⟨(h.next m (fun _ f => f.elim)).next ma (fun _ f => f.elim), by omega, by omega, by omega, ⟨v, l, hg.keep ma, hl⟩, rfl, Nat.le_refl _, heap_alloc_new' _ _, Seg.nil _ _ _, PatB.nil _ _, fun b hb => by simp [Value.ownBlock] at hb⟩
theorem DoLp.app {w wr wq w5 w6 : World} {x0 x1 x2 x3 x4 vv v5 v6 : Value} {hb ab k : Nat} {L L' G : Gr} {ops : List Opr} {vals vs1 : List Val} {l5 : List Vs} (h : DoLp w x0 x1 x2 x3 x4 hb ab L ops k L' vals vv wr) {o : Opr} (ho : ops[k]? = some o) (hon : oneG L' o = ⟨0, G, vs1⟩)
   (mq : Mod (fun _ => False) wr wq) (m5 : Mod (fun k => k = hb) wq w5) (hg5 : GrAt w5 hb v5 l5) (hl5 : l5.map Vs.x = G)
   (hs6 : Seg w6 77 3 v6 (vals.length + vs1.length) (vvcells vals ++ vvcells vs1)) (hp6 : PatB valP w6 v6) (hgr : w5.grownBy w6 vv.ownBlock) (ho6 : v6.ownBlock = vv.ownBlock ∨ v6.ownBlock = some w5.heap.size) :
   w6.heap[ab]? = some (.cells #[.int .i64 0, .int .i64 0, vv, .slice none 0 0] 39 (0, 0)) ∧ DoLp w x0 x1 x2 x3 x4 hb ab L ops (k + 1) G (vals ++ vs1) v6 (w6.setCell ⟨ab, 2, none⟩ v6) := by
 obtain ⟨vr, lr, hgr0, -⟩ := h.gr
 have off : ∀ b, vv.ownBlock = some b → ¬ b = hb := h.seg.off_box hgr0.box (by decide)
 have offa : ∀ b, vv.ownBlock = some b → ¬ b = ab := h.seg.off_box h.abx (by decide)
 have abx5 := m5.heap (mq.heap h.abx (fun f => f)) h.ne
 have mg := mod_grown hgr
 have seg5 : Seg w5 77 3 vv vals.length (vvcells vals) := (h.seg.mod mq (fun _ _ f => f)).mod m5 off
 have pat5 : PatB valP w5 vv := (h.pat.mod mq (fun _ _ f => f)).mod m5 off
 have abx6 := mg.heap abx5 (fun e => offa _ e rfl)
 have at5 := (h.at_.next mq (fun _ f => f.elim)).next m5 (fun k e => by have := h.hlo; omega)
 have at6 := at5.next mg (fun k e => h.own k e)
 have m7 : Mod (fun k => k = ab) w6 (w6.setCell ⟨ab, 2, none⟩ v6) := (Mod.refl (fun k => k = ab) w6).setCell (p := ⟨ab, 2, none⟩) (fun _ => rfl) v6
 have at7 := at6.next m7 (fun k e => by have := h.alo; omega)
 have lst6 : LRd w6 v5 l5 := by
   rcases seg5.2.2 with ⟨rfl, _⟩ | ⟨b, off0, cap, cur, rfl, hb5, _⟩
   · exact hg5.lst.keep (mg.mono (fun k _ e => by simp [Value.ownBlock] at e))
   · obtain ⟨-, cur2, t2, hb2, hpt⟩ := pat5 _ _ _ _ rfl
     exact hg5.lst.offC hb2 (noRow_vals hpt) (mg.mono (fun k _ e => by simp [Value.ownBlock] at e; exact e.symm))
 have gr6 : GrAt w6 hb v5 l5 := ⟨mg.heap hg5.box (fun e => off _ e rfl), lst6⟩
 obtain ⟨av, cv, nv, rfl⟩ : ∃ a c n, vv = .slice a n c := by
   obtain ⟨a, c, e, _⟩ := h.seg.shape
   exact ⟨_, _, _, e⟩
 have gr7 : GrAt (w6.setCell ⟨ab, 2, none⟩ v6) hb v5 l5 := ⟨m7.heap gr6.box (fun e => h.ne e.symm), gr6.lst.offC abx6 (noRow_answer _ _ _ _ _ _ _ _) m7⟩
 have seg7 := hs6.mod m7 (hs6.off_box abx6 (by decide))
 have pat7 := hp6.mod m7 (hs6.off_box abx6 (by decide))
 have hv1 := one_vals L' o
 rw [hon] at hv1
 refine ⟨abx6, at7, h.hlo, h.alo, h.ne, ⟨v5, l5, gr7, hl5⟩, ?_, ?_, ?_, ?_, pat7, ?_⟩
 · have := okRun_next h.run ho (by rw [hon])
   rw [hon] at this
   exact this
 · rw [List.length_append]
   have := h.len
   simp only at hv1
   omega
 · simpa using row_setCell abx6 2 v6
 · rw [List.length_append, vv_append]; exact seg7
 · intro b hb
   rcases ho6 with e | e
   · exact h.own b (e ▸ hb)
   · rw [e] at hb
     injection hb with hb
     have := at5.size
     omega
theorem DoLp.mid {w wr wq w5 : World} {x0 x1 x2 x3 x4 vv : Value} {hb ab k : Nat} {L L' : Gr} {ops : List Opr} {vals : List Val} (h : DoLp w x0 x1 x2 x3 x4 hb ab L ops k L' vals vv wr) (mq : Mod (fun _ => False) wr wq) (m5 : Mod (fun k => k = hb) wq w5) :
   w5.heap[ab]? = some (.cells #[.int .i64 0, .int .i64 0, vv, .slice none 0 0] 39 (0, 0)) ∧ Seg w5 77 3 vv vals.length (vvcells vals) ∧ PatB valP w5 vv := by
 obtain ⟨vr, lr, hgr0, -⟩ := h.gr
 have off : ∀ b, vv.ownBlock = some b → ¬ b = hb := h.seg.off_box hgr0.box (by decide)
 exact ⟨m5.heap (mq.heap h.abx (fun f => f)) h.ne, (h.seg.mod mq (fun _ _ f => f)).mod m5 off, (h.pat.mod mq (fun _ _ f => f)).mod m5 off⟩
theorem DoLp.finish {w wr : World} {x0 x1 x2 x3 x4 vv gv vh : Value} {g hb ab k : Nat} {L L' : Gr} {ops : List Opr} {vals : List Val} {l lh : List Vs} (h : DoLp w x0 x1 x2 x3 x4 hb ab L ops k L' vals vv wr) (hg : GrAt w g gv l) (hgh : GrAt wr hb vh lh) :
   Mod (fun k => k = g) w (doEnd (wr.setCell ⟨g, 0, none⟩ vh) (w.heap.size + 1) (.int .i64 0) (.int .i64 0) vv (.slice none 0 0)) ∧
   GrAt (doEnd (wr.setCell ⟨g, 0, none⟩ vh) (w.heap.size + 1) (.int .i64 0) (.int .i64 0) vv (.slice none 0 0)) g vh lh ∧
   Seg (doEnd (wr.setCell ⟨g, 0, none⟩ vh) (w.heap.size + 1) (.int .i64 0) (.int .i64 0) vv (.slice none 0 0)) 77 3 vv vals.length (vvcells vals) := by
 have hgl := lt_of_block hg.box
 have box1 := h.at_.mod.heap hg.box (fun f => f)
 obtain ⟨g1, m1⟩ := GrAt.put box1 hgh.lst
 have ret1 := m1.heap h.at_.ret (fun e => by omega)
 have m2 : Mod (fun k => k = w.heap.size + 1) (wr.setCell ⟨g, 0, none⟩ vh) (doEnd (wr.setCell ⟨g, 0, none⟩ vh) (w.heap.size + 1) (.int .i64 0) (.int .i64 0) vv (.slice none 0 0)) :=
   ((((Mod.refl (fun k => k = w.heap.size + 1) _).setCell (p := ⟨w.heap.size + 1, 0, none⟩) (fun _ => rfl) _).setCell (p := ⟨w.heap.size + 1, 1, none⟩) (fun _ => rfl) _).setCell (p := ⟨w.heap.size + 1, 2, none⟩) (fun _ => rfl) _).setCell (p := ⟨w.heap.size + 1, 3, none⟩) (fun _ => rfl) _
 have s1 := h.seg.mod m1 (h.seg.off_box box1 (by decide))
 refine ⟨((h.at_.mod.mono (fun _ _ f => f.elim)).trans m1).trans' m2 (fun i hi e => by omega), ⟨m2.heap g1.box (fun e => by omega), g1.lst.offC ret1 (noRow_answer _ _ _ _ _ _ _ _) m2⟩, s1.mod m2 (s1.off_box ret1 (by decide))⟩
open Go.RowKit Go.Maps
theorem NM.off_box {w : World} {bm : Nat} {ns : List Node} (h : NM w bm ns) {b : Nat} {cs : Array Value} {t : TypeId} {f : Nat × Nat} (hb : w.heap[b]? = some (.cells cs t f)) (ht : t ≠ 143) : ¬ FootN bm ns b := by
 intro hf
 rcases hf with rfl | ⟨n, hn, hx⟩
 · obtain ⟨xs, clock, hm⟩ := h.map.isMap
   rw [hm] at hb; cases hb
 · rcases Node.in_blocks.1 hx with rfl | rfl | rfl
   · rw [(h.each n hn).box] at hb
     injection hb with hb
     injection hb with _ hb _
     exact ht hb.symm
   · obtain ⟨xs, clock, hm⟩ := (h.each n hn).props.isMap
     rw [hm] at hb; cases hb
   · obtain ⟨xs, clock, hm⟩ := (h.each n hn).edges.isMap
     rw [hm] at hb; cases hb
theorem PG.off_box {w : World} {g bm : Nat} {ns : List Node} (h : PG w g bm ns) {b : Nat} {cs : Array Value} {t : TypeId} {f : Nat × Nat} (hb : w.heap[b]? = some (.cells cs t f)) (ht : t ≠ 143) (ht2 : t ≠ 127) : ¬ Foot g bm ns b := by
 rintro (rfl | hf)
 · rw [h.cell] at hb
   injection hb with hb
   injection hb with _ hb _
   exact ht2 hb.symm
 · exact h.nm.off_box hb ht hf
theorem seg_box {w : World} {e : TypeId} {size n : Nat} {v : Value} {xs : List Value} (h : Seg w e size v n xs) {b : Nat} (hb : v.ownBlock = some b) : ∃ cur, w.heap[b]? = some (.cells cur e (0, 0)) := by
 rcases h.2.2 with ⟨rfl, _⟩ | ⟨g, off, cap, cur, rfl, hg, _⟩
 · simp [Value.ownBlock] at hb
 · simp [Value.ownBlock] at hb
   subst hb
   exact ⟨cur, hg⟩
theorem Turned.more {S : Nat → Prop} {w w1 w2 : World} {g bm : Nat} {ns ns1 : List Node} {L1 : Gr} {off : Nat → Prop} (a : Turned g bm ns L1 off w w1 ns1) (m : Mod S w1 w2) (hs : ∀ b, S b → w.heap.size ≤ b ∧ ¬ Foot g bm ns1 b) : Turned g bm ns L1 off w w2 ns1 :=
 ⟨a.pg.mod m (fun b hb s => (hs b s).2 hb), a.is, a.mod.trans' m (fun i hi s => by have := (hs i s).1; omega), a.new, a.newM, a.same⟩
theorem Turned.weak {w w1 : World} {g bm : Nat} {ns ns1 : List Node} {L1 : Gr} {o1 o2 : Nat → Prop} (a : Turned g bm ns L1 o1 w w1 ns1) (h : ∀ k, o2 k → o1 k) : Turned g bm ns L1 o2 w w1 ns1 :=
 ⟨a.pg, a.is, a.mod, a.new, a.newM, fun n hn => a.same n (h _ hn)⟩
def ansO (v : Value) : Obj := .cells #[.int .i64 0, .int .i64 0, v, .slice none 0 0] 39
structure Tr (w : World) (g bm : Nat) (ns0 : List Node) (bw : Nat) (cs : List Node) (rb ab : Nat) (ops : List Opr) (k : Nat) (L' : Gr) (vals : List Val) (vv : Value) (wr : World) (nsi : List Node) : Prop where
 tu : Turned g bm ns0 L' (fun i => namedB (ops.take k) i = false) w wr nsi
 run : okRun (ns0.map Node.x) (ops.take k) = some (L', vals)
 len : vals.length ≤ k
 cn : NM wr bw cs
 cis : cs.map Node.x = (ns0.map Node.x).filter fun x => namedB ops x.id
 coff : ∀ b, FootN bw cs b → w.heap.size ≤ b ∧ ¬ Foot g bm nsi b
 rbx : wr.heap[rb]? = some (ansO (.slice none 0 0))
 abx : wr.heap[ab]? = some (ansO vv)
 rlo : w.heap.size ≤ rb
 alo : w.heap.size ≤ ab
 ne : ab ≠ rb
 seg : Seg wr 77 3 vv vals.length (vvcells vals)
 own : ∀ b, vv.ownBlock = some b → w.heap.size ≤ b
 pat : PatB valP wr vv
theorem Tr.start {w w1 w2 : World} {g bm : Nat} {ns0 : List Node} {bw : Nat} {cs : List Node} (ops : List Opr) (hp : PG w g bm ns0) (m1 : Mod (fun _ => False) w w1) (hr : w1.heap[w.heap.size]? = some (ansO (.slice none 0 0))) (hc : Cps w1 (ns0.map Node.x) (namedB ops) bw cs w2) (h1 : w.heap.size < w1.heap.size) :
   Tr w g bm ns0 bw cs w.heap.size w2.heap.size ops 0 (ns0.map Node.x) [] (.slice none 0 0) (w2.alloc (ansO (.slice none 0 0))) ns0 := by
 have m2 := hc.mod
 have m3 : Mod (fun _ => False) w2 (w2.alloc (ansO (.slice none 0 0))) := (Mod.refl _ _).alloc _
 have s2 := m2.size
 have hlt := hp.lt
 exact ⟨(Turned.idle hp ((m1.trans m2).trans m3) _), rfl, Nat.le_refl _, hc.nm.keep m3, hc.is, fun b hb => by
   have := hc.new b hb
   exact ⟨by omega, fun f => by have := hlt b f; omega⟩, m3.heap (m2.heap hr (fun f => f)) (fun f => f), heap_alloc_new' _ _, Nat.le_refl _, by omega, by omega, Seg.nil _ _ _, fun b hb => by simp [Value.ownBlock] at hb, PatB.nil _ _⟩
theorem Tr.mid {w wr wq w5 : World} {g bm : Nat} {ns0 : List Node} {bw : Nat} {cs : List Node} {rb ab : Nat} {ops : List Opr} {k : Nat} {L' G : Gr} {vals : List Val} {vv : Value} {nsi ns' : List Node} {off : Nat → Prop} (h : Tr w g bm ns0 bw cs rb ab ops k L' vals vv wr nsi) (mq : Mod (fun _ => False) wr wq) (t : Turned g bm nsi G off wq w5 ns') :
   w5.heap[rb]? = some (ansO (.slice none 0 0)) ∧ w5.heap[ab]? = some (ansO vv) ∧ Seg w5 77 3 vv vals.length (vvcells vals) ∧ NM w5 bw cs ∧ (∀ b, FootN bw cs b → w.heap.size ≤ b ∧ ¬ Foot g bm ns' b) ∧ PatB valP w5 vv := by
 have pq := h.tu.pg.keep mq
 refine ⟨pq.nm.box t.mod (mq.heap h.rbx (fun f => f)), pq.nm.box t.mod (mq.heap h.abx (fun f => f)), pq.nm.seg t.mod (h.seg.mod mq (fun _ _ f => f)), NM.nodes t.mod (h.cn.keep mq) (fun b hb hf => (h.coff b hf).2 (.inr hb.foot)), fun b hb => ⟨(h.coff b hb).1, ?_⟩, (h.pat.mod mq (fun _ _ f => f)).mod t.mod (fun b hb f => ?_)⟩
 case refine_2 =>
   obtain ⟨xs, clock, hm⟩ := pq.nm.isMap f
   obtain ⟨cur, hc⟩ := seg_box (h.seg.mod mq (fun _ _ f => f)) hb
   rw [hm] at hc
   cases hc
 rintro (e | hf)
 · exact (h.coff b hb).2 (.inl e)
 · rcases t.new b hf with f | f
   · exact (h.coff b hb).2 (.inr f)
   · have := h.cn.lt b hb
     have := mq.size
     omega
theorem Tr.app {w wr wq w5 w6 : World} {g bm : Nat} {ns0 : List Node} {bw : Nat} {cs : List Node} {rb ab : Nat} {ops : List Opr} {k : Nat} {L' G : Gr} {vals vs1 : List Val} {vv v6 : Value} {nsi ns' : List Node} (h : Tr w g bm ns0 bw cs rb ab ops k L' vals vv wr nsi) {o : Opr} (ho : ops[k]? = some o) (hon : oneG L' o = ⟨0, G, vs1⟩)
   (mq : Mod (fun _ => False) wr wq) (t : Turned g bm nsi G (fun k => k ≠ o.a ∧ k ≠ o.b) wq w5 ns')
   (hs6 : Seg w6 77 3 v6 (vals.length + vs1.length) (vvcells vals ++ vvcells vs1)) (hp6 : PatB valP w6 v6) (hgr : w5.grownBy w6 vv.ownBlock) (ho6 : v6.ownBlock = vv.ownBlock ∨ v6.ownBlock = some w5.heap.size) :
   w6.heap[ab]? = some (ansO vv) ∧ Tr w g bm ns0 bw cs rb ab ops (k + 1) G (vals ++ vs1) v6 (w6.setCell ⟨ab, 2, none⟩ v6) ns' := by
 obtain ⟨rbx5, abx5, seg5, cn5, coff5, -⟩ := h.mid mq t
 have t5 := (h.tu.keep (Mod.refl _ _) mq).trans t (off := fun i => namedB (ops.take (k + 1)) i = false) (fun i hi => by
   rw [namedB_next ho] at hi
   unfold namedTo at hi
   exact (Bool.or_eq_false_iff.1 hi).1) (fun i hi => by
   rw [namedB_next ho] at hi
   unfold namedTo at hi
   have := (Bool.or_eq_false_iff.1 hi).2
   simp at this
   exact ⟨fun e => this.1 e.symm, fun e => this.2 e.symm⟩)
 have mg := mod_grown hgr
 have offs : ∀ b, vv.ownBlock = some b → b ≠ rb ∧ b ≠ ab ∧ ¬ FootN bw cs b ∧ ¬ Foot g bm ns' b := fun b hb => by
   obtain ⟨cur, hc⟩ := seg_box seg5 hb
   refine ⟨fun e => ?_, fun e => ?_, cn5.off_box hc (by decide), t5.pg.off_box hc (by decide) (by decide)⟩
   · subst e; rw [rbx5] at hc; injection hc with hc; injection hc with _ hc _; exact absurd hc (by decide)
   · subst e; rw [abx5] at hc; injection hc with hc; injection hc with _ hc _; exact absurd hc (by decide)
 have t6 := t5.more mg (fun b hb => ⟨h.own b hb, (offs b hb).2.2.2⟩)
 have rbx6 := mg.heap rbx5 (fun e => (offs _ e).1 rfl)
 have abx6 := mg.heap abx5 (fun e => (offs _ e).2.1 rfl)
 have cn6 := cn5.mod mg (fun b hb e => (offs b e).2.2.1 hb)
 have m7 : Mod (fun k => k = ab) w6 (w6.setCell ⟨ab, 2, none⟩ v6) := (Mod.refl (fun k => k = ab) w6).setCell (p := ⟨ab, 2, none⟩) (fun _ => rfl) v6
 have t7 := t6.more m7 (fun b hb => ⟨by rw [hb]; exact h.alo, by rw [hb]; exact t6.pg.off_box abx6 (by decide) (by decide)⟩)
 have hv1 := one_vals L' o
 rw [hon] at hv1
 simp only at hv1
 refine ⟨abx6, t7, ?_, ?_, cn6.mod m7 (fun b hb e => by rw [e] at hb; exact cn6.off_box abx6 (by decide) hb), h.cis, coff5, m7.heap rbx6 (fun e => h.ne e.symm), ?_, h.rlo, h.alo, h.ne, ?_, ?_, hp6.mod m7 (hs6.off_box abx6 (by decide))⟩
 · have := okRun_next h.run ho (by rw [hon])
   rw [hon] at this
   exact this
 · rw [List.length_append]
   have := h.len
   omega
 · simpa [ansO] using row_setCell abx6 2 v6
 · rw [List.length_append, vv_append]; exact hs6.mod m7 (hs6.off_box abx6 (by decide))
 · intro b hb
   rcases ho6 with e | e
   · exact h.own b (e ▸ hb)
   · rw [e] at hb
     injection hb with hb
     have := t5.mod.size
     omega
structure Del (g bm : Nat) (nsi : List Node) (p : Nat → Bool) (w wr : World) (nsk : List Node) : Prop where
 mod : Mod (fun b => b = bm) w wr
 pg : PG wr g bm nsk
 mem : ∀ n : Node, n ∈ nsk ↔ n ∈ nsi ∧ p n.x.id = false
theorem Del.start {g bm : Nat} {nsi : List Node} {w : World} (h : PG w g bm nsi) : Del g bm nsi (fun _ => false) w w nsi := ⟨Mod.refl _ _, h, fun n => by simp⟩
theorem Del.keep {g bm : Nat} {nsi nsk : List Node} {p : Nat → Bool} {w wr wx : World} (h : Del g bm nsi p w wr nsk) (m : Mod (fun _ => False) wr wx) : Del g bm nsi p w wx nsk := ⟨h.mod.trans (m.mono (fun _ _ f => f.elim)), h.pg.keep m, h.mem⟩
theorem Del.more {g bm : Nat} {nsi nsk : List Node} {p p' : Nat → Bool} {w wr wx : World} (h : Del g bm nsi p w wr nsk) {v : Nat} (hp : ∀ k, p' k = (p k || v == k)) (m : Mod (fun b => b = bm) wr wx) (hU : UMap Tryz.prog 32 .u32 wx bm (delL v (nsk.map Node.f))) : Del g bm nsi p' w wx (dropN v nsk) :=
 ⟨h.mod.trans m, h.pg.drop v m hU, fun n => by
   rw [dropN_mem, h.mem, hp, Bool.or_eq_false_iff, beq_eq_false_iff_ne]
   exact ⟨fun h => ⟨h.1.1, h.1.2, fun e => h.2 e.symm⟩, fun h => ⟨⟨h.1, h.2.1⟩, fun e => h.2.2 e.symm⟩⟩⟩
theorem Del.low {g bm : Nat} {nsi nsk : List Node} {p : Nat → Bool} {w wr : World} (h : Del g bm nsi p w wr nsk) {b : Nat} (hb : Foot g bm nsk b) : Foot g bm nsi b := by
 rcases hb with hb | hb | ⟨n, hn, hb⟩
 · exact .inl hb
 · exact .inr (.inl hb)
 · exact .inr (.inr ⟨n, ((h.mem n).1 hn).1, hb⟩)
theorem Tr.undone {w wr w5 w6 w7 : World} {g bm : Nat} {ns0 : List Node} {bw : Nat} {cs : List Node} {rb ab : Nat} {ops : List Opr} {k : Nat} {L' : Gr} {vals : List Val} {vv : Value} {nsi nsk nsf : List Node} (h : Tr w g bm ns0 bw cs rb ab ops k L' vals vv wr nsi) (hp : PG w g bm ns0) (m5 : Mod (fun _ => False) wr w5) (hd : Del g bm nsi (namedB ops) w5 w6 nsk)
   (m7 : Mod (fun b => b = bm) w6 w7) (hf : PG w7 g bm nsf) (hm : ∀ n : Node, n ∈ nsf ↔ (n ∈ nsk ∧ ∀ c ∈ cs, c.x.id ≠ n.x.id) ∨ n ∈ cs) : Turned g bm ns0 (ns0.map Node.x) (fun _ => False) w w7 nsf := by
 have named : ∀ c ∈ cs, namedB ops c.x.id = true := fun c hc => by
   have : c.x ∈ cs.map Node.x := List.mem_map_of_mem hc
   rw [h.cis] at this
   exact (List.mem_filter.1 this).2
 have hm2 : ∀ n : Node, n ∈ nsf ↔ (n ∈ nsi ∧ namedB ops n.x.id = false) ∨ n ∈ cs := fun n => by
   rw [hm, hd.mem]
   constructor
   · rintro (⟨h1, _⟩ | h1)
     · exact .inl h1
     · exact .inr h1
   · rintro (h1 | h1)
     · exact .inl ⟨h1, fun c hc e => by have := named c hc; rw [e, h1.2] at this; cases this⟩
     · exact .inr h1
 have mt : Mod (FootM bm ns0) w w7 := ((h.tu.mod.trans (m5.mono (fun _ _ f => f.elim))).trans (hd.mod.mono (fun b _ e => .inl e))).trans (m7.mono (fun b _ e => .inl e))
 refine ⟨hf, laid_back hp.nm.rising hf.nm.rising (fun n hn => h.tu.same n ?_) h.cis hm2, mt, fun b hb => ?_, fun b hb => ?_, fun n f => f.elim⟩
 · unfold namedB at hn ⊢
   rw [List.any_eq_false] at hn ⊢
   exact fun o ho => hn o (List.mem_of_mem_take ho)
 · rcases hb with hb | ⟨n, hn, hb⟩
   · exact .inl (.inl hb)
   · rcases (hm2 n).1 hn with ⟨h1, _⟩ | h1
     · exact h.tu.new b (.inr ⟨n, h1, hb⟩)
     · exact .inr (h.coff b (.inr ⟨n, h1, hb⟩)).1
 · rcases hb with hb | ⟨n, hn, hb⟩
   · exact .inl (.inl hb)
   · rcases (hm2 n).1 hn with ⟨h1, _⟩ | h1
     · exact h.tu.newM b (.inr ⟨n, h1, hb⟩)
     · exact .inr (h.coff b (.inr ⟨n, h1, by rcases hb with e | e <;> simp [Node.blocks, e]⟩)).1
end Go.Proofs.YtpigipgoopeeoaaGreatDoor
