/- RF: what is needed of it (by shake.py). -/
import Derived.Test.YtbgjbikpenefoaaGreatDoorR16
import Derived.Test.YtbgjbikpenefoaaGreatDoorR14
import Derived.Test.YtbgjbikpenefoaaGreatDoorRE

/- RF, as far as the seat goes. -/
/- R17, R18, R19 in one. -/
/- gussetref03.Do: requests that are refused, that ask for nothing, or who is near. -/
namespace Go.Proofs.YtbgjbikpenefoaaGreatDoor
set_option linter.unusedVariables false
set_option linter.unusedSimpArgs false
open Go.RowKit
/-- The worlds of Do: the request's box, the answer's. -/
structure DoAt (w : World) (x0 x1 x2 x3 x4 : Value) (w0 : World) : Prop where
  mod : Mod (fun _ => False) w w0
  size : w.heap.size + 2 ≤ w0.heap.size
  box : w0.heap[w.heap.size]? = some (.cells #[x0, x1, x2, x3, x4] 29 (0, 0))
  ret : w0.heap[w.heap.size + 1]? = some (.cells #[.int .i64 0, .int .i64 0, .slice none 0 0, .slice none 0 0] 34 (0, 0))
theorem DoAt.start (w : World) (x0 x1 x2 x3 x4 : Value) : DoAt w x0 x1 x2 x3 x4 ((w.alloc (.cells #[x0, x1, x2, x3, x4] 29)).alloc (.cells #[.int .i64 0, .int .i64 0, .slice none 0 0, .slice none 0 0] 34)) := by
  refine ⟨((Mod.refl _ _).alloc _).alloc _, by simp, heap_alloc_old (heap_alloc_new' w _), ?_⟩
  have h := heap_alloc_new' (w.alloc (.cells #[x0, x1, x2, x3, x4] 29)) (.cells #[.int .i64 0, .int .i64 0, .slice none 0 0, .slice none 0 0] 34)
  simpa using h
theorem DoAt.next {S : Nat → Prop} {w w0 w1 : World} {x0 x1 x2 x3 x4 : Value} (h : DoAt w x0 x1 x2 x3 x4 w0) (m : Mod S w0 w1) (hs : ∀ k, S k → w.heap.size + 2 ≤ k) : DoAt w x0 x1 x2 x3 x4 w1 :=
  ⟨h.mod.trans' m (fun i hi s => by have := hs i s; omega), Nat.le_trans h.size m.size, m.heap h.box (fun s => by have := hs _ s; omega), m.heap h.ret (fun s => by have := hs _ s; omega)⟩
theorem DoAt.retf {w w0 : World} {x0 x1 x2 x3 x4 : Value} (h : DoAt w x0 x1 x2 x3 x4 w0) :
    w0.cell? ⟨w.heap.size + 1, 0, none⟩ = some (.int .i64 0) ∧ w0.cell? ⟨w.heap.size + 1, 1, none⟩ = some (.int .i64 0) ∧ w0.cell? ⟨w.heap.size + 1, 2, none⟩ = some (.slice none 0 0) ∧ w0.cell? ⟨w.heap.size + 1, 3, none⟩ = some (.slice none 0 0) ∧
    w0.frozen? ⟨w.heap.size + 1, 0, none⟩ = false ∧ w0.frozen? ⟨w.heap.size + 1, 1, none⟩ = false ∧ w0.frozen? ⟨w.heap.size + 1, 2, none⟩ = false ∧ w0.frozen? ⟨w.heap.size + 1, 3, none⟩ = false ∧ w.heap.size + 1 < w0.heap.size :=
  ⟨cell_of_row h.ret 0, cell_of_row h.ret 1, cell_of_row h.ret 2, cell_of_row h.ret 3, free_of_row h.ret 0, free_of_row h.ret 1, free_of_row h.ret 2, free_of_row h.ret 3, lt_of_block h.ret⟩
theorem DoAt.boxf {w w0 : World} {x0 x1 x2 x3 x4 : Value} (h : DoAt w x0 x1 x2 x3 x4 w0) :
    w0.cell? ⟨w.heap.size, 0, none⟩ = some x0 ∧ w0.cell? ⟨w.heap.size, 1, none⟩ = some x1 ∧ w0.cell? ⟨w.heap.size, 2, none⟩ = some x2 ∧ w0.cell? ⟨w.heap.size, 3, none⟩ = some x3 ∧ w0.cell? ⟨w.heap.size, 4, none⟩ = some x4 ∧ w.heap.size < w0.heap.size :=
  ⟨cell_of_row h.box 0, cell_of_row h.box 1, cell_of_row h.box 2, cell_of_row h.box 3, cell_of_row h.box 4, lt_of_block h.box⟩
abbrev doEnd (wy : World) (n : Nat) (u0 u1 u2 u3 : Value) : World := (((wy.setCell ⟨n, 0, none⟩ u0).setCell ⟨n, 1, none⟩ u1).setCell ⟨n, 2, none⟩ u2).setCell ⟨n, 3, none⟩ u3
theorem DoAt.finish {w wy : World} {x0 x1 x2 x3 x4 : Value} (h : DoAt w x0 x1 x2 x3 x4 wy) (u0 u1 u2 u3 : Value) :
    Mod (fun _ => False) w (doEnd wy (w.heap.size + 1) u0 u1 u2 u3) ∧ Mod (fun k => k = w.heap.size + 1) wy (doEnd wy (w.heap.size + 1) u0 u1 u2 u3) := by
  have m : Mod (fun k => k = w.heap.size + 1) wy (doEnd wy (w.heap.size + 1) u0 u1 u2 u3) :=
    ((((Mod.refl (fun k => k = w.heap.size + 1) wy).setCell (p := ⟨w.heap.size + 1, 0, none⟩) (fun _ => rfl) u0).setCell (p := ⟨w.heap.size + 1, 1, none⟩) (fun _ => rfl) u1).setCell (p := ⟨w.heap.size + 1, 2, none⟩) (fun _ => rfl) u2).setCell (p := ⟨w.heap.size + 1, 3, none⟩) (fun _ => rfl) u3
  exact ⟨h.mod.trans' m (fun i hi e => by omega), m⟩
/-- A list that is read besides the answer's box. -/
theorem DoAt.list {w wy : World} {x0 x1 x2 x3 x4 : Value} (h : DoAt w x0 x1 x2 x3 x4 wy) (u0 u1 u2 u3 : Value) {t : TypeId} {size n : Nat} {v : Value} {xs : List Value} (hs : Seg wy t size v n xs) (ht : t ≠ 34) : Seg (doEnd wy (w.heap.size + 1) u0 u1 u2 u3) t size v n xs :=
  hs.mod (h.finish u0 u1 u2 u3).2 (fun b hb e => hs.off_box h.ret ht b hb e)
/-- What becomes of a request. -/
def DoP (g : Nat) (l : List Vs) (r : Rqt) (w : World) (e : Ending) (w' : World) : Prop :=
  Mod (fun k => k = g) w w' ∧ ∃ vv vl v' l', e = .returned (.agg #[.int .i64 ((doG (l.map Vs.x) r).2.e : Nat), .int .i64 ((doG (l.map Vs.x) r).2.at_ : Nat), vv, vl]) ∧ GrAt w' g v' l' ∧ l'.map Vs.x = (doG (l.map Vs.x) r).1 ∧
    RdS w' 3 vv (doG (l.map Vs.x) r).2.vals.length (vvcells (doG (l.map Vs.x) r).2.vals) ∧ RdS w' 1 vl (doG (l.map Vs.x) r).2.list.length ((doG (l.map Vs.x) r).2.list.map (keyV .u32))
theorem DoP.stay {g : Nat} {v vl : Value} {l : List Vs} {r : Rqt} {w w' : World} {z i : Nat} {li : List Nat} (hg : GrAt w g v l) (m : Mod (fun _ => False) w w') (he : doG (l.map Vs.x) r = (l.map Vs.x, ⟨z, i, [], li⟩)) (hl : RdS w' 1 vl li.length (li.map (keyV .u32))) :
    DoP g l r w (.returned (.agg #[.int .i64 (z : Int), .int .i64 (i : Int), .slice none 0 0, vl])) w' := by
  refine ⟨m.mono (fun _ _ f => f.elim), .slice none 0 0, vl, v, l, by rw [he], hg.keep m, by rw [he], by rw [he]; exact RdS.none _ _, by rw [he]; exact hl⟩
set_option maxRecDepth 100000 in
set_option maxHeartbeats 4000000 in
theorem do_bad (gv : Value) (r : Rqt) (vo : Value) (w : World) (ho : ORd w vo r.ops) (hc : checkR r ≠ 0) :
    Calls Tryz.prog 17 #[gv, rqV r vo] w fun e w' => e = .returned (.agg #[.int .i64 (checkR r : Nat), .int .i64 0, .slice none 0 0, .slice none 0 0]) ∧ Mod (fun _ => False) w w' := by
  obtain ⟨kind, ops, v, k, d⟩ := r
  have HO := Lib.hid ho
  obtain ⟨a, c, rfl, -⟩ := ho.row.shape
  obtain ⟨n, hn⟩ : ∃ n, n = ops.length := ⟨_, rfl⟩
  simp only [rqV, ← hn] at HO ⊢
  obtain ⟨cr, hcr⟩ : ∃ cr, cr = checkR ⟨kind, ops, v, k, d⟩ := ⟨_, rfl⟩
  rw [← hcr] at hc ⊢
  have HS := Lib.hid (DoAt.start w (.int .u8 (kind : Int)) (.slice a n c) (.int .u32 (v : Int)) (.int .i64 k) (.int .i64 d))
  have HCK := Lib.hid (dcheck_any ⟨kind, ops, v, k, d⟩ (.slice a n c) _ (HO.out.keep HS.out.mod))
  simp only [rqV] at HCK
  rw [← hcr] at HCK
  have hcr' : ((cr : Int) != 0) = true := by simp [hc]
  clear hn hcr ho hc
  go_enter Tryz.func17, Tryz.ntmps17
  go_wp2_with (go_at_call 20; refine HCK.out.mono ?_; (rintro e w1 ⟨rfl, hm1⟩); have HD1 := Lib.hid (HS.out.next hm1 (fun _ f => f.elim)); obtain ⟨r0, r1, r2, r3, f0, f1, f2, f3, zr⟩ := HD1.out.retf; clear hm1)
  refine bodyPost_ret (v := .agg #[.int .i64 (cr : Int), .int .i64 0, .slice none 0 0, .slice none 0 0]) (by simp [results, Tryz.results17, go_sem, r0, r1, r2, r3]) rfl ⟨rfl, (HD1.out.finish _ _ _ _).1⟩
set_option maxRecDepth 100000 in
set_option maxHeartbeats 4000000 in
theorem do_none (g : Nat) (gv : Value) (l : List Vs) (r : Rqt) (vo : Value) (w : World) (hg : GrAt w g gv l) (ho : ORd w vo r.ops) (hc : checkR r = 0) (hk : r.kind ≠ 1) (hf : findV (l.map Vs.x) r.v = none) :
    Calls Tryz.prog 17 #[.pointer (some ⟨g, 0, none⟩), rqV r vo] w (DoP g l r w) := by
  obtain ⟨kind, ops, v, k, d⟩ := r
  have HE : Hid (doG (l.map Vs.x) ⟨kind, ops, v, k, d⟩ = (l.map Vs.x, ⟨6, 0, [], []⟩)) := Lib.hid (by unfold doG; rw [if_neg (by simpa using hc), if_neg hk, hf]; rfl)
  have HO := Lib.hid ho
  have HG := Lib.hid hg
  obtain ⟨a, c, rfl, -⟩ := ho.row.shape
  obtain ⟨n, hn⟩ : ∃ n, n = ops.length := ⟨_, rfl⟩
  simp only [rqV, ← hn] at HO hk hf ⊢
  have HS := Lib.hid (DoAt.start w (.int .u8 (kind : Int)) (.slice a n c) (.int .u32 (v : Int)) (.int .i64 k) (.int .i64 d))
  have HCK := Lib.hid (dcheck_any ⟨kind, ops, v, k, d⟩ (.slice a n c) _ (HO.out.keep HS.out.mod))
  simp only [rqV] at HCK
  rw [hc] at HCK
  have HAT : Hid (∀ w', Mod (fun _ => False) w w' → Calls Tryz.prog 39 #[.pointer (some ⟨g, 0, none⟩), .int .u32 (v : Int)] w' fun e w'' => e = .returned (.int .i64 (-1)) ∧ Mod (fun _ => False) w' w'') := Lib.hid (fun w' m => by
    have h := at_any g gv l v w' (HG.out.keep m)
    rw [find_none hf] at h
    exact h)
  have hk1 : ((kind : Int) != 1) = true := by simp; omega
  clear hn ho hc hg hf hk
  go_enter Tryz.func17, Tryz.ntmps17
  go_wp2_with (first
    | (go_at_call 39; refine (HAT.out _ HD1.out.mod).mono ?_; (rintro e w2 ⟨rfl, hm2⟩); have HD2 := Lib.hid (HD1.out.next hm2 (fun _ f => f.elim)); replace r0 := hm2.cell r0; replace r1 := hm2.cell r1; replace r2 := hm2.cell r2; replace r3 := hm2.cell r3; obtain ⟨-, -, -, -, f0, f1, f2, f3, zr⟩ := HD2.out.retf; clear hm2)
    | (go_at_call 20; refine HCK.out.mono ?_; (rintro e w1 ⟨rfl, hm1⟩); have HD1 := Lib.hid (HS.out.next hm1 (fun _ f => f.elim)); obtain ⟨r0, r1, r2, r3, -⟩ := HD1.out.retf; obtain ⟨b0, b1, b2, b3, b4, zb⟩ := HD1.out.boxf; clear hm1))
  refine bodyPost_ret (v := .agg #[.int .i64 6, .int .i64 0, .slice none 0 0, .slice none 0 0]) (by simp [results, Tryz.results17, go_sem, r0, r1, r2, r3]) rfl ?_
  exact DoP.stay HG.out (HD2.out.finish _ _ _ _).1 HE.out (RdS.none _ _)
set_option maxRecDepth 100000 in
set_option maxHeartbeats 4000000 in
theorem do_3 (g : Nat) (gv : Value) (l : List Vs) (r : Rqt) (vo : Value) (w : World) (hg : GrAt w g gv l) (ho : ORd w vo r.ops) (hc : checkR r = 0) (hk : r.kind = 3) (x : Vtx) (hf : findV (l.map Vs.x) r.v = some x) :
    Calls Tryz.prog 17 #[.pointer (some ⟨g, 0, none⟩), rqV r vo] w (DoP g l r w) := by
  obtain ⟨kind, ops, v, k, d⟩ := r
  simp only at hk hf
  subst hk
  have HE : Hid (doG (l.map Vs.x) ⟨3, ops, v, k, d⟩ = (l.map Vs.x, ⟨0, 0, [], []⟩)) := Lib.hid (by unfold doG; rw [if_neg (by simpa using hc), hf]; simp)
  have HO := Lib.hid ho
  have HG := Lib.hid hg
  obtain ⟨a, c, rfl, -⟩ := ho.row.shape
  obtain ⟨n, hn⟩ : ∃ n, n = ops.length := ⟨_, rfl⟩
  simp only [rqV, ← hn] at HO ⊢
  have HS := Lib.hid (DoAt.start w (.int .u8 3) (.slice a n c) (.int .u32 (v : Int)) (.int .i64 k) (.int .i64 d))
  have HCK := Lib.hid (dcheck_any ⟨3, ops, v, k, d⟩ (.slice a n c) _ (HO.out.keep HS.out.mod))
  simp only [rqV] at HCK
  rw [hc] at HCK
  obtain ⟨i, s, hi, -, -, -⟩ := find_some hf
  have HAT : Hid (∀ w', Mod (fun _ => False) w w' → Calls Tryz.prog 39 #[.pointer (some ⟨g, 0, none⟩), .int .u32 (v : Int)] w' fun e w'' => e = .returned (.int .i64 (i : Int)) ∧ Mod (fun _ => False) w' w'') := Lib.hid (fun w' m => by
    have h := at_any g gv l v w' (HG.out.keep m)
    rw [hi] at h
    exact h)
  clear hn ho hc hg hf hi
  go_enter Tryz.func17, Tryz.ntmps17
  go_wp2_with (first
    | (go_at_call 39; refine (HAT.out _ HD1.out.mod).mono ?_; (rintro e w2 ⟨rfl, hm2⟩); have HD2 := Lib.hid (HD1.out.next hm2 (fun _ f => f.elim)); replace r0 := hm2.cell r0; replace r1 := hm2.cell r1; replace r2 := hm2.cell r2; replace r3 := hm2.cell r3; replace b0 := hm2.cell b0; obtain ⟨-, -, -, -, f0, f1, f2, f3, zr⟩ := HD2.out.retf; clear hm2)
    | (go_at_call 20; refine HCK.out.mono ?_; (rintro e w1 ⟨rfl, hm1⟩); have HD1 := Lib.hid (HS.out.next hm1 (fun _ f => f.elim)); obtain ⟨r0, r1, r2, r3, -⟩ := HD1.out.retf; obtain ⟨b0, b1, b2, b3, b4, zb⟩ := HD1.out.boxf; clear hm1))
  refine bodyPost_ret (v := .agg #[.int .i64 0, .int .i64 0, .slice none 0 0, .slice none 0 0]) (by simp [results, Tryz.results17, go_sem, r0, r1, r2, r3]) rfl ?_
  exact DoP.stay HG.out (HD2.out.finish _ _ _ _).1 HE.out (RdS.none _ _)
set_option maxRecDepth 100000 in
set_option maxHeartbeats 4000000 in
theorem do_2 (g : Nat) (gv : Value) (l : List Vs) (r : Rqt) (vo : Value) (w : World) (hg : GrAt w g gv l) (ht : Tame l) (ho : ORd w vo r.ops) (hc : checkR r = 0) (hk : r.kind = 2) (x : Vtx) (hf : findV (l.map Vs.x) r.v = some x) :
    Calls Tryz.prog 17 #[.pointer (some ⟨g, 0, none⟩), rqV r vo] w (DoP g l r w) := by
  obtain ⟨kind, ops, v, k, d⟩ := r
  simp only at hk hf
  subst hk
  obtain ⟨K, rfl, hK⟩ : ∃ K : Nat, k = (K : Int) ∧ K ≤ 8 := by
    have h := hc
    rw [checkR_2] at h
    unfold checkO at h
    split at h
    · cases h
    · exact ⟨k.toNat, by omega, by omega⟩
  obtain ⟨i, s, hi, his, -, -⟩ := find_some hf
  have hil : i < l.length := (List.getElem?_eq_some_iff.1 his).1
  have HE : Hid (doG (l.map Vs.x) ⟨2, ops, v, (K : Int), d⟩ = (l.map Vs.x, ⟨0, 0, [], withU l v K⟩)) := Lib.hid (by
    unfold doG
    rw [if_neg (by simpa using hc), hf, withU_near ht.rise ⟨i, hi, hil⟩]
    simp)
  have HO := Lib.hid ho
  have HG := Lib.hid hg
  obtain ⟨a, c, rfl, -⟩ := ho.row.shape
  obtain ⟨n, hn⟩ : ∃ n, n = ops.length := ⟨_, rfl⟩
  simp only [rqV, ← hn] at HO ⊢
  have HS := Lib.hid (DoAt.start w (.int .u8 2) (.slice a n c) (.int .u32 (v : Int)) (.int .i64 (K : Int)) (.int .i64 d))
  have HCK := Lib.hid (dcheck_any ⟨2, ops, v, (K : Int), d⟩ (.slice a n c) _ (HO.out.keep HS.out.mod))
  simp only [rqV] at HCK
  rw [hc] at HCK
  have HAT : Hid (∀ w', Mod (fun _ => False) w w' → Calls Tryz.prog 39 #[.pointer (some ⟨g, 0, none⟩), .int .u32 (v : Int)] w' fun e w'' => e = .returned (.int .i64 (i : Int)) ∧ Mod (fun _ => False) w' w'') := Lib.hid (fun w' m => by
    have h := at_any g gv l v w' (HG.out.keep m)
    rw [hi] at h
    exact h)
  have HWI : Hid (∀ w', Mod (fun _ => False) w w' → Calls Tryz.prog 40 #[.pointer (some ⟨g, 0, none⟩), .int .u32 (v : Int), .int .i64 (K : Int)] w' fun e w'' => ∃ vo, e = .returned vo ∧ SegN w' w'' vo (withU l v K)) := Lib.hid (fun w' m => within_any g gv l v K w' (HG.out.keep m) ht.len hK ⟨i, hi, hil⟩)
  clear hn ho hc hg hf hi hK his hil ht
  go_enter Tryz.func17, Tryz.ntmps17
  go_wp2_with (first
    | (go_at_call 40; refine (HWI.out _ HD2.out.mod).mono ?_; (rintro e w3 ⟨vo, rfl, hs3⟩); have HS3 := Lib.hid hs3; have HD3 := Lib.hid (HD2.out.next hs3.mod (fun _ f => f.elim)); replace r0 := hs3.mod.cell r0; replace r1 := hs3.mod.cell r1; replace r2 := hs3.mod.cell r2; replace r3 := hs3.mod.cell r3; obtain ⟨-, -, -, -, f0, f1, f2, f3, zr⟩ := HD3.out.retf; (obtain ⟨a3, c3, n3, rfl⟩ : ∃ a c n, vo = .slice a n c := (by obtain ⟨a, c, e, _⟩ := hs3.seg.shape; exact ⟨_, _, _, e⟩)); clear hs3)
    | (go_at_call 39; refine (HAT.out _ HD1.out.mod).mono ?_; (rintro e w2 ⟨rfl, hm2⟩); have HD2 := Lib.hid (HD1.out.next hm2 (fun _ f => f.elim)); replace r0 := hm2.cell r0; replace r1 := hm2.cell r1; replace r2 := hm2.cell r2; replace r3 := hm2.cell r3; replace b0 := hm2.cell b0; replace b2 := hm2.cell b2; replace b3 := hm2.cell b3; clear hm2)
    | (go_at_call 20; refine HCK.out.mono ?_; (rintro e w1 ⟨rfl, hm1⟩); have HD1 := Lib.hid (HS.out.next hm1 (fun _ f => f.elim)); obtain ⟨r0, r1, r2, r3, -⟩ := HD1.out.retf; obtain ⟨b0, b1, b2, b3, b4, zb⟩ := HD1.out.boxf; clear hm1))
  refine bodyPost_ret (v := .agg #[.int .i64 0, .int .i64 0, .slice none 0 0, .slice a3 n3 c3]) (by simp [results, Tryz.results17, go_sem, r0, r1, r2, r3]) rfl ?_
  exact DoP.stay HG.out (HD3.out.finish _ _ _ _).1 HE.out ((HD3.out.list _ _ _ _ HS3.out.seg (by decide)).rdS)
end Go.Proofs.YtbgjbikpenefoaaGreatDoor
/- Appending where the block's pattern is kept; what is read lies in no such block. -/
namespace Go.Proofs.YtbgjbikpenefoaaGreatDoor
set_option linter.unusedVariables false
set_option linter.unusedSimpArgs false
open Go.RowKit
/-- The slice's block has its pattern: the cell at j is as φ j says. -/
def PatB (φ : Nat → Value → Prop) (w : World) (v : Value) : Prop := ∀ g off n cap, v = .slice (some ⟨g, off, none⟩) n cap → off = 0 ∧ ∃ cur t, w.heap[g]? = some (.cells cur t (0, 0)) ∧ ∀ (j : Nat) (u : Value), cur[j]? = some u → φ j u
theorem PatB.nil (φ : Nat → Value → Prop) (w : World) : PatB φ w (.slice none 0 0) := fun g off n cap e => by cases e
theorem PatB.mod {φ : Nat → Value → Prop} {S : Nat → Prop} {w w' : World} {v : Value} (h : PatB φ w v) (m : Mod S w w') (hs : ∀ b, v.ownBlock = some b → ¬ S b) : PatB φ w' v := fun g off n cap e => by
  obtain ⟨h1, cur, t, h2, h3⟩ := h g off n cap e
  exact ⟨h1, cur, t, m.heap h2 (hs g (by rw [e]; rfl)), h3⟩
theorem get_splice {l news : List Value} {k j : Nat} {u : Value} (h : (l.take k ++ news ++ l.drop (k + news.length))[j]? = some u) (hk : k + news.length ≤ l.length) (hj : k + news.length ≤ j) : l[j]? = some u := by
  rw [List.append_assoc, List.getElem?_append_right (by rw [List.length_take]; omega), List.getElem?_append_right (by rw [List.length_take]; omega), List.getElem?_drop, List.length_take] at h
  rw [← h]
  congr 1
  omega
theorem run_append_pat {P : Program} {w : World} {e : TypeId} {v : Value} {n : Nat} {xs : List Value} (t ty : TypeId) (i : TypeInfo) (z : Value) (size bytes : Nat) (ht : P.underlying t = some (.slice e)) (hi : P.info? e = some i) (hz : i.zero = some z)
    (hsize : i.size = size) (hby : i.bytes = bytes) (hzs : z.cells.size = size) (hsz : 0 < size)
    (hown : Seg w e size v n xs) (x : Value) (m : Nat) (news : List Value) (hx : Src w size x m news)
    (h63 : n + m ≤ maxLen) (hbytes : (n + m) * bytes ≤ 140737488355328)
    (φ : Nat → Value → Prop) (hp : PatB φ w v) (hall : ∀ (j : Nat) (u : Value), (xs ++ news)[j]? = some u → φ j u) (hzero : ∀ (k q j : Nat) (u : Value), (Builtin.zeroCells z.cells k)[j]? = some u → φ (q * size + j) u)
    (v' : Value) (w' : World) (hr' : (Builtin.append_ #[t, t] ty #[v, x]).run P w = .ok v' w') (hseg' : Seg w' e size v' (n + m) (xs ++ news)) : PatB φ w' v' := by
  subst hsize
  subst hby
  have hsmall : n + m ≤ 9223372036854775807 := by simp only [maxLen] at h63; omega
  have hlen : (xs ++ news).length = (n + m) * i.size := by rw [List.length_append, hown.1, hx.1, Nat.add_mul]
  have grown : ∀ (old : Nat), PatB φ (w.drew.alloc (.cells (xs.toArray ++ news.toArray ++ Builtin.zeroCells z.cells (grownCap w (n + m) old e - (n + m))) e)) (.slice (some ⟨w.heap.size, 0, none⟩) (n + m) (grownCap w (n + m) old e)) := by
    intro old g off n2 cap2 e2
    injection e2 with e3 e4 e5
    injection e3 with e3
    injection e3 with e3 e6
    subst e3 e6
    refine ⟨rfl, _, _, heap_alloc_new' w.drew _, fun j u hu => ?_⟩
    by_cases hj : j < (xs.toArray ++ news.toArray).size
    · rw [Array.getElem?_append_left hj] at hu
      refine hall j u ?_
      rw [← List.getElem?_toArray, ← List.append_toArray]
      exact hu
    · rw [Array.getElem?_append_right (by omega)] at hu
      have hs : (xs.toArray ++ news.toArray).size = (n + m) * i.size := by rw [← hlen]; simp
      rw [hs] at hu hj
      have := hzero _ (n + m) _ u hu
      rwa [show (n + m) * i.size + (j - (n + m) * i.size) = j by omega] at this
  rcases hx.2.2 with ⟨rfl, rfl⟩ | ⟨a, c, rfl, hnews⟩
  · obtain ⟨a0, cap, rfl, hnc, hcm⟩ := hown.shape
    have hr : (Builtin.append_ #[t, t] ty #[.slice a0 n cap, .slice none 0 0]).run P w = .ok (.slice a0 n cap) w := by
      cases a0 <;> simp [Builtin.append_, run_underlying ht, sizeOf, typeInfo, hi, Builtin.lenOf, Builtin.firstCells, storeCells, hnc]
    rw [hr] at hr'
    injection hr' with e1 e2
    subst e1 e2
    exact hp
  rcases hown.2.2 with ⟨rfl, rfl⟩ | ⟨g, off, cap, cur, rfl, hg, hnc, hcm, hcs, htake⟩
  · have hxs : xs = [] := List.eq_nil_of_length_eq_zero (by simpa using hown.1)
    subst hxs
    by_cases hm : m = 0
    · subst hm
      have hn : news = [] := List.eq_nil_of_length_eq_zero (by simpa using hx.1)
      subst hn
      have hr : (Builtin.append_ #[t, t] ty #[.slice none 0 0, .slice (some a) 0 c]).run P w = .ok (.slice none 0 0) w := by
        simp [Builtin.append_, run_underlying ht, sizeOf, typeInfo, hi, Builtin.lenOf, Builtin.firstCells, loadCells, loadCellsFrom]
      rw [hr] at hr'
      injection hr' with e1 e2
      subst e1 e2
      exact hp
    · have hr := run_append_nil (P := P) w t ty e i z ht hi hz a m c news hx.1 hnews (by omega) (by omega) (by have hb := hbytes; simp only [Nat.zero_add] at hb; omega)
      have hgr := grown 0
      simp only [Nat.zero_add, List.nil_append, Array.empty_append] at hgr
      rw [hr] at hr'
      injection hr' with e1 e2
      subst e1 e2
      exact hgr
  · by_cases hroom : n + m ≤ cap
    · have hfit : off + n * i.size + news.length ≤ cur.size := by
        have := Nat.mul_le_mul_right i.size hroom
        rw [hx.1]; rw [Nat.add_mul] at this; omega
      have hf := run_firstCells_some (P := P) w i.size m a m c news hx.1 hnews
      have hst := run_storeCells_at P g (off + n * i.size) e news 0 cur w hg (by simpa using hfit) hx.2.1
      simp only [Nat.add_zero] at hst
      have hr : (Builtin.append_ #[t, t] ty #[.slice (some ⟨g, off, none⟩) n cap, .slice (some a) m c]).run P w = .ok (.slice (some ⟨g, off, none⟩) (n + m) cap) (w.setRow g (cur.toList.take (off + n * i.size) ++ news ++ cur.toList.drop (off + n * i.size + news.length)).toArray) := by
        simp [Builtin.append_, run_underlying ht, sizeOf, typeInfo, hi, Builtin.lenOf, hroom, hf, addr_add, hst]
      rw [hr] at hr'
      injection hr' with e1 e2
      subst e1 e2
      obtain ⟨rfl, cur2, t2, hg2, hpat⟩ := hp g off n cap rfl
      rw [hg] at hg2
      injection hg2 with hg2
      injection hg2 with hg2 hg3
      subst hg2
      have hnew := setRow_heap w g cur (cur.toList.take (0 + n * i.size) ++ news ++ cur.toList.drop (0 + n * i.size + news.length)).toArray e _ hg
      intro g3 off3 n3 cap3 e3
      injection e3 with e3 e4 e5
      injection e3 with e3
      injection e3 with e3 e6
      subst e3 e6
      refine ⟨rfl, _, _, hnew, fun j u hu => ?_⟩
      by_cases hj : j < (n + m) * i.size
      · refine hall j u ?_
        rcases hseg'.2.2 with ⟨e, _⟩ | ⟨g4, off4, cap4, cur4, e4, hg4, -, -, -, h4⟩
        · cases e
        · injection e4 with e4 e5 e6
          injection e4 with e4
          injection e4 with e4 e7
          subst e4 e7
          rw [hnew] at hg4
          injection hg4 with hg4
          injection hg4 with hg4 hg5
          rw [← h4, List.getElem?_take, if_pos hj, ← hg4]
          simpa using hu
      · refine hpat j u ?_
        rw [List.getElem?_toArray] at hu
        have hk : n * i.size + news.length = (n + m) * i.size := by rw [hx.1, Nat.add_mul]
        have := get_splice hu (by simpa using hfit) (by omega)
        simpa using this
    · have holds : ∀ j u, xs[j]? = some u → w.cell? ((⟨g, off, none⟩ : Addr).add j) = some u := fun j u hu => by
        rw [addr_add, cell_of_row hg]
        rw [← htake, List.getElem?_take] at hu
        split at hu
        · simpa using hu
        · cases hu
      have hr := run_append_grow (P := P) w t ty e i z ht hi hz ⟨g, off, none⟩ n cap xs hown.1 holds a m c news hx.1 hnews (by omega) (by omega) (growslice_fits (by omega) hbytes)
      rw [hr] at hr'
      injection hr' with e1 e2
      subst e1 e2
      exact grown cap
theorem wpList_append_pat {P : Program} {w : World} {e : TypeId} {v : Value} {n : Nat} {xs : List Value} {ops : Array Oper} {rest : List Oper} {o : Oper} {a : Act} {Q : Exit → Act → World → Prop} (hgd : o.guard = none) (s x : Operand) (t : TypeId)
    (ho : o.op = .call { callee := .builtin .append, args := #[s, x], argTypes := #[t, t] })
    (i : TypeInfo) (z : Value) (size bytes : Nat) (ht : P.underlying t = some (.slice e)) (hi : P.info? e = some i) (hz : i.zero = some z)
    (hsize : i.size = size) (hby : i.bytes = bytes) (hzs : z.cells.size = size) (hsz : 0 < size)
    (hs : a.eval s = v) (hown : Seg w e size v n xs) (xv : Value) (m : Nat) (news : List Value) (hx : a.eval x = xv) (hsrc : Src w size xv m news)
    (h63 : n + m ≤ maxLen) (hbytes : (n + m) * bytes ≤ 140737488355328)
    (φ : Nat → Value → Prop) (hp : PatB φ w v) (hall : ∀ (j : Nat) (u : Value), (xs ++ news)[j]? = some u → φ j u) (hzero : ∀ (k q j : Nat) (u : Value), (Builtin.zeroCells z.cells k)[j]? = some u → φ (q * size + j) u)
    (h : ∀ v' w', Seg w' e size v' (n + m) (xs ++ news) → PatB φ w' v' → w.grownBy w' v.ownBlock → (v'.ownBlock = v.ownBlock ∨ v'.ownBlock = some w.heap.size) → wpList P ops Q rest (a.put o.dst v') w') : wpList P ops Q (o :: rest) a w :=
  wpList_plain hgd fun _ hK => by
    obtain ⟨v', w', hr, h2, h3, h4⟩ := run_append_seg (P := P) t o.type i z size bytes ht hi hz hsize hby hzs hsz hown xv m news hsrc h63 hbytes
    have h5 := run_append_pat (P := P) t o.type i z size bytes ht hi hz hsize hby hzs hsz hown xv m news hsrc h63 hbytes φ hp hall hzero v' w' hr h2
    unfold Oper.wp execOp
    simp only [ho, resolve, invoke, builtin, Sem.run_bind, Sem.run_pure, Result.andThen_ok, List.map_toArray, List.map_cons, List.map_nil, hs, hx, hr]
    exact hK _ _ (h v' w' h2 h5 h3 h4)
/-! values, one behind the other -/
def valP (j : Nat) (u : Value) : Prop := (j % 3 = 0 ∧ ∃ n, u = .int .u8 n) ∨ (j % 3 = 1 ∧ ∃ n, u = .int .i64 n) ∨ (j % 3 = 2 ∧ ∃ s, u = .string s)
theorem valP_cells : ∀ (l : List Val) (j : Nat) (u : Value), (vvcells l)[j]? = some u → valP j u
  | [], j, u, h => by simp [vvcells] at h
  | x :: r, j, u, h => by
    have e : vvcells (x :: r) = x.cells ++ vvcells r := by simp [vvcells]
    rw [e] at h
    by_cases hj : j < 3
    · rw [List.getElem?_append_left (by simpa [Val.cells] using hj)] at h
      have hc : j = 0 ∨ j = 1 ∨ j = 2 := by omega
      rcases hc with rfl | rfl | rfl
      · simp [Val.cells] at h; exact .inl ⟨rfl, _, h.symm⟩
      · simp [Val.cells] at h; exact .inr (.inl ⟨rfl, _, h.symm⟩)
      · simp [Val.cells] at h; exact .inr (.inr ⟨rfl, _, h.symm⟩)
    · rw [List.getElem?_append_right (by simp [Val.cells]; omega)] at h
      have := valP_cells r _ u h
      have e3 : x.cells.length = 3 := rfl
      rw [e3] at this
      unfold valP at this ⊢
      rwa [show (j - 3) % 3 = j % 3 by omega] at this
theorem zero_get (k : Nat) : ∀ (j : Nat) (u : Value), (Builtin.zeroCells (#[.int .u8 0, .int .i64 0, zval] : Array Value) k)[j]? = some u → valP j u := by
  intro j u h
  unfold Builtin.zeroCells at h
  rw [Array.getElem?_map, Option.map_eq_some_iff] at h
  obtain ⟨i, hi, rfl⟩ := h
  rw [Array.getElem?_range] at hi
  split at hi
  · injection hi with hi
    subst hi
    have e : (#[Value.int .u8 0, .int .i64 0, zval] : Array Value).size = 3 := rfl
    rw [e]
    unfold valP
    have hj : j % 3 = 0 ∨ j % 3 = 1 ∨ j % 3 = 2 := by omega
    rcases hj with c | c | c
    · rw [c]; exact .inl ⟨rfl, 0, rfl⟩
    · rw [c]; exact .inr (.inl ⟨rfl, 0, rfl⟩)
    · rw [c]; exact .inr (.inr ⟨rfl, _, rfl⟩)
  · cases hi
theorem valP_zero (k q j : Nat) (u : Value) (h : (Builtin.zeroCells (Value.agg #[.int .u8 0, .int .i64 0, zval]).cells k)[j]? = some u) : valP (q * 3 + j) u := by
  have := zero_get k j u h
  unfold valP at this ⊢
  rwa [show (q * 3 + j) % 3 = j % 3 by omega]
/-! what is read of a list of vertices lies in no block with other cells -/
structure NoRow (cur : Array Value) : Prop where
  row : ∀ (j : Nat) (n : Int), cur[j]? ≠ some (.int .u32 n) ∨ ∀ b, cur[j + 1]? ≠ some (.bool b)
  ent : ∀ (j : Nat) (k : IntKind) (n m : Int) (s : ByteArray), ¬ (cur[j]? = some (.int k n) ∧ cur[j + 1]? = some (.int .u8 m) ∧ cur[j + 3]? = some (.string s))
theorem RdS.offC {w w' : World} {kk : IntKind} {g : Nat} {cur : Array Value} {t : TypeId} {v : Value} {l : List Ent} (hg : w.heap[g]? = some (.cells cur t (0, 0))) (hc : NoRow cur) (h : RdS w 4 v l.length (cellsOf kk l)) (m : Mod (fun k => k = g) w w') : RdS w' 4 v l.length (cellsOf kk l) := by
  refine ⟨h.len, h.shape, fun a c e j u' hu' => ?_⟩
  obtain ⟨b, off, ea, hb, hcl⟩ := h.cell a c e j u' hu'
  refine ⟨b, off, ea, Nat.lt_of_lt_of_le hb m.size, m.cellS hcl (fun hbg => ?_)⟩
  have hbg : b = g := hbg
  have hj : 0 < l.length := by
    rcases Nat.eq_zero_or_pos l.length with h0 | h0
    · have := List.length_eq_zero_iff.1 h0
      subst this
      simp [cellsOf] at hu'
    · exact h0
  obtain ⟨x, hx⟩ : ∃ x, l[0]? = some x := ⟨_, List.getElem?_eq_getElem hj⟩
  obtain ⟨b1, off1, ea1, _, h0, h1, _, h3⟩ := h.ent hx (a := a) (c := c) e
  rw [ea] at ea1
  injection ea1 with e1
  injection e1 with e1 e2
  subst e1 e2 hbg
  rw [cell_of_row hg] at h0 h1 h3
  simp only [Nat.zero_mul, Nat.add_zero] at h0 h1 h3
  exact hc.ent _ _ _ _ _ ⟨h0, h1, h3⟩
theorem VRd.offC {w w' : World} {g : Nat} {cur : Array Value} {t : TypeId} {vp vh : Value} {x : Vtx} (h : VRd w vp vh x) (hg : w.heap[g]? = some (.cells cur t (0, 0))) (hc : NoRow cur) (m : Mod (fun k => k = g) w w') : VRd w' vp vh x :=
  ⟨h.fits, h.props.offC hg hc m, h.halves.offC hg hc m⟩
theorem LRd.offC {w w' : World} {g : Nat} {cur : Array Value} {t : TypeId} {v : Value} {l : List Vs} (h : LRd w v l) (hg : w.heap[g]? = some (.cells cur t (0, 0))) (hc : NoRow cur) (m : Mod (fun k => k = g) w w') : LRd w' v l := by
  refine ⟨⟨h.row.len, h.row.shape, fun a c e j u' hu' => ?_⟩, fun s hs => (h.each s hs).offC hg hc m⟩
  obtain ⟨b, off, ea, hb, hcl⟩ := h.row.cell a c e j u' hu'
  refine ⟨b, off, ea, Nat.lt_of_lt_of_le hb m.size, m.cellS hcl (fun hbg => ?_)⟩
  have hbg : b = g := hbg
  have hj : 0 < l.length := by
    rcases Nat.eq_zero_or_pos l.length with h0 | h0
    · have := List.length_eq_zero_iff.1 h0
      subst this
      simp [vcells] at hu'
    · exact h0
  obtain ⟨x, hx⟩ : ∃ x, l[0]? = some x := ⟨_, List.getElem?_eq_getElem hj⟩
  obtain ⟨b1, off1, ea1, _, h0, h1, _, h3⟩ := h.ent hx (a := a) (c := c) e
  rw [ea] at ea1
  injection ea1 with e1
  injection e1 with e1 e2
  subst e1 e2 hbg
  rw [cell_of_row hg] at h0 h1
  simp only [Nat.zero_mul, Nat.add_zero] at h0 h1
  rcases hc.row off x.x.id with c | c
  · exact c h0
  · exact c _ h1
theorem noRow_vals {cur : Array Value} (h : ∀ (j : Nat) (u : Value), cur[j]? = some u → valP j u) : NoRow cur := by
  refine ⟨fun j n => .inl fun e => ?_, fun j k n m s ⟨h0, h1, h3⟩ => ?_⟩
  · rcases h j _ e with ⟨_, _, h⟩ | ⟨_, _, h⟩ | ⟨_, _, h⟩ <;> cases h
  · have a0 := h j _ h0
    have a1 := h (j + 1) _ h1
    rcases a1 with ⟨c1, _⟩ | ⟨_, _, c⟩ | ⟨_, _, c⟩
    · rcases a0 with ⟨c0, _⟩ | ⟨c0, _⟩ | ⟨_, _, c⟩
      · omega
      · omega
      · cases c
    · cases c
    · cases c
theorem noRow_answer (x y : Int) (a b : Option Addr) (n c n2 c2 : Nat) : NoRow #[.int .i64 x, .int .i64 y, .slice a n c, .slice b n2 c2] := by
  refine ⟨fun j n => .inl fun e => ?_, fun j k n m s ⟨h0, h1, h3⟩ => ?_⟩
  · rcases j with _ | _ | _ | _ | j <;> simp at e
  · rcases j with _ | j <;> simp at h3
end Go.Proofs.YtbgjbikpenefoaaGreatDoor
/- gussetref03.Do: a transaction. -/
namespace Go.Proofs.YtbgjbikpenefoaaGreatDoor
set_option linter.unusedVariables false
set_option linter.unusedSimpArgs false
open Go.RowKit
theorem one_vals (L : Gr) (o : Opr) : (oneG L o).vals.length ≤ 1 := by
  unfold oneG
  repeat' split
  all_goals simp
theorem infoValue : (Tryz.prog.info? 44).map (fun i => (i.zero, i.size, i.bytes)) = some (some (.agg #[.int .u8 0, .int .i64 0, zval]), 3, 32) := by kernel_rfl
theorem vv_ones (l : List Val) : ∀ u ∈ vvcells l, u.oneCell' = true := by
  intro u hu
  unfold vvcells at hu
  obtain ⟨x, _, hx⟩ := List.mem_flatMap.1 hu
  simp [Val.cells] at hx
  rcases hx with rfl | rfl | rfl <;> rfl
theorem vv_append (a b : List Val) : vvcells (a ++ b) = vvcells a ++ vvcells b := by simp [vvcells]
/-- A transaction under way: its copy's box, the answer's box. -/
structure DoLp (w : World) (x0 x1 x2 x3 x4 : Value) (hb ab : Nat) (L : Gr) (ops : List Opr) (k : Nat) (L' : Gr) (vals : List Val) (vv : Value) (wr : World) : Prop where
  at_ : DoAt w x0 x1 x2 x3 x4 wr
  hlo : w.heap.size + 2 ≤ hb
  alo : w.heap.size + 2 ≤ ab
  ne : ab ≠ hb
  gr : ∃ v l, GrAt wr hb v l ∧ l.map Vs.x = L'
  run : okRun L (ops.take k) = some (L', vals)
  len : vals.length ≤ k
  abx : wr.heap[ab]? = some (.cells #[.int .i64 0, .int .i64 0, vv, .slice none 0 0] 34 (0, 0))
  seg : Seg wr 44 3 vv vals.length (vvcells vals)
  pat : PatB valP wr vv
  own : ∀ b, vv.ownBlock = some b → w.heap.size + 2 ≤ b
theorem DoLp.start {w w1 w2 : World} {x0 x1 x2 x3 x4 v : Value} {hb : Nat} {l : List Vs} {L : Gr} (ops : List Opr) (h : DoAt w x0 x1 x2 x3 x4 w1) (m : Mod (fun _ => False) w1 w2) (hg : GrAt w2 hb v l) (hl : l.map Vs.x = L) (hlo : w1.heap.size ≤ hb) :
    DoLp w x0 x1 x2 x3 x4 hb w2.heap.size L ops 0 L [] (.slice none 0 0) (w2.alloc (.cells #[.int .i64 0, .int .i64 0, .slice none 0 0, .slice none 0 0] 34)) := by
  have ma : Mod (fun _ => False) w2 (w2.alloc (.cells #[.int .i64 0, .int .i64 0, .slice none 0 0, .slice none 0 0] 34)) := (Mod.refl _ _).alloc _
  have hs := h.size
  have hb2 := lt_of_block hg.box
  have hm := m.size
  exact ⟨(h.next m (fun _ f => f.elim)).next ma (fun _ f => f.elim), by omega, by omega, by omega, ⟨v, l, hg.keep ma, hl⟩, rfl, Nat.le_refl _, heap_alloc_new' _ _, Seg.nil _ _ _, PatB.nil _ _, fun b hb => by simp [Value.ownBlock] at hb⟩
theorem DoLp.app {w wr wq w5 w6 : World} {x0 x1 x2 x3 x4 vv v5 v6 : Value} {hb ab k : Nat} {L L' G : Gr} {ops : List Opr} {vals vs1 : List Val} {l5 : List Vs} (h : DoLp w x0 x1 x2 x3 x4 hb ab L ops k L' vals vv wr) {o : Opr} (ho : ops[k]? = some o) (hon : oneG L' o = ⟨0, G, vs1⟩)
    (mq : Mod (fun _ => False) wr wq) (m5 : Mod (fun k => k = hb) wq w5) (hg5 : GrAt w5 hb v5 l5) (hl5 : l5.map Vs.x = G)
    (hs6 : Seg w6 44 3 v6 (vals.length + vs1.length) (vvcells vals ++ vvcells vs1)) (hp6 : PatB valP w6 v6) (hgr : w5.grownBy w6 vv.ownBlock) (ho6 : v6.ownBlock = vv.ownBlock ∨ v6.ownBlock = some w5.heap.size) :
    w6.heap[ab]? = some (.cells #[.int .i64 0, .int .i64 0, vv, .slice none 0 0] 34 (0, 0)) ∧ DoLp w x0 x1 x2 x3 x4 hb ab L ops (k + 1) G (vals ++ vs1) v6 (w6.setCell ⟨ab, 2, none⟩ v6) := by
  obtain ⟨vr, lr, hgr0, -⟩ := h.gr
  have off : ∀ b, vv.ownBlock = some b → ¬ b = hb := h.seg.off_box hgr0.box (by decide)
  have offa : ∀ b, vv.ownBlock = some b → ¬ b = ab := h.seg.off_box h.abx (by decide)
  have abx5 := m5.heap (mq.heap h.abx (fun f => f)) h.ne
  have mg := mod_grown hgr
  have seg5 : Seg w5 44 3 vv vals.length (vvcells vals) := (h.seg.mod mq (fun _ _ f => f)).mod m5 off
  have pat5 : PatB valP w5 vv := (h.pat.mod mq (fun _ _ f => f)).mod m5 off
  have abx6 := mg.heap abx5 (fun e => offa _ e rfl)
  have at5 := (h.at_.next mq (fun _ f => f.elim)).next m5 (fun k e => by have := h.hlo; omega)
  have at6 := at5.next mg (fun k e => h.own k e)
  have m7 : Mod (fun k => k = ab) w6 (w6.setCell ⟨ab, 2, none⟩ v6) := (Mod.refl (fun k => k = ab) w6).setCell (p := ⟨ab, 2, none⟩) (fun _ => rfl) v6
  have at7 := at6.next m7 (fun k e => by have := h.alo; omega)
  have lst6 : LRd w6 v5 l5 := by
    rcases seg5.2.2 with ⟨rfl, _⟩ | ⟨b, off0, cap, cur, rfl, hb5, _⟩
    · exact hg5.lst.keep (mg.mono (fun k _ e => by simp [Value.ownBlock] at e))
    · obtain ⟨-, cur2, t2, hb2, hpt⟩ := pat5 _ _ _ _ rfl
      exact hg5.lst.offC hb2 (noRow_vals hpt) (mg.mono (fun k _ e => by simp [Value.ownBlock] at e; exact e.symm))
  have gr6 : GrAt w6 hb v5 l5 := ⟨mg.heap hg5.box (fun e => off _ e rfl), lst6⟩
  obtain ⟨av, cv, nv, rfl⟩ : ∃ a c n, vv = .slice a n c := by
    obtain ⟨a, c, e, _⟩ := h.seg.shape
    exact ⟨_, _, _, e⟩
  have gr7 : GrAt (w6.setCell ⟨ab, 2, none⟩ v6) hb v5 l5 := ⟨m7.heap gr6.box (fun e => h.ne e.symm), gr6.lst.offC abx6 (noRow_answer _ _ _ _ _ _ _ _) m7⟩
  have seg7 := hs6.mod m7 (hs6.off_box abx6 (by decide))
  have pat7 := hp6.mod m7 (hs6.off_box abx6 (by decide))
  have hv1 := one_vals L' o
  rw [hon] at hv1
  refine ⟨abx6, at7, h.hlo, h.alo, h.ne, ⟨v5, l5, gr7, hl5⟩, ?_, ?_, ?_, ?_, pat7, ?_⟩
  · have := okRun_next h.run ho (by rw [hon])
    rw [hon] at this
    exact this
  · rw [List.length_append]
    have := h.len
    simp only at hv1
    omega
  · simpa using row_setCell abx6 2 v6
  · rw [List.length_append, vv_append]; exact seg7
  · intro b hb
    rcases ho6 with e | e
    · exact h.own b (e ▸ hb)
    · rw [e] at hb
      injection hb with hb
      have := at5.size
      omega
theorem DoLp.mid {w wr wq w5 : World} {x0 x1 x2 x3 x4 vv : Value} {hb ab k : Nat} {L L' : Gr} {ops : List Opr} {vals : List Val} (h : DoLp w x0 x1 x2 x3 x4 hb ab L ops k L' vals vv wr) (mq : Mod (fun _ => False) wr wq) (m5 : Mod (fun k => k = hb) wq w5) :
    w5.heap[ab]? = some (.cells #[.int .i64 0, .int .i64 0, vv, .slice none 0 0] 34 (0, 0)) ∧ Seg w5 44 3 vv vals.length (vvcells vals) ∧ PatB valP w5 vv := by
  obtain ⟨vr, lr, hgr0, -⟩ := h.gr
  have off : ∀ b, vv.ownBlock = some b → ¬ b = hb := h.seg.off_box hgr0.box (by decide)
  exact ⟨m5.heap (mq.heap h.abx (fun f => f)) h.ne, (h.seg.mod mq (fun _ _ f => f)).mod m5 off, (h.pat.mod mq (fun _ _ f => f)).mod m5 off⟩
theorem DoLp.finish {w wr : World} {x0 x1 x2 x3 x4 vv gv vh : Value} {g hb ab k : Nat} {L L' : Gr} {ops : List Opr} {vals : List Val} {l lh : List Vs} (h : DoLp w x0 x1 x2 x3 x4 hb ab L ops k L' vals vv wr) (hg : GrAt w g gv l) (hgh : GrAt wr hb vh lh) :
    Mod (fun k => k = g) w (doEnd (wr.setCell ⟨g, 0, none⟩ vh) (w.heap.size + 1) (.int .i64 0) (.int .i64 0) vv (.slice none 0 0)) ∧
    GrAt (doEnd (wr.setCell ⟨g, 0, none⟩ vh) (w.heap.size + 1) (.int .i64 0) (.int .i64 0) vv (.slice none 0 0)) g vh lh ∧
    Seg (doEnd (wr.setCell ⟨g, 0, none⟩ vh) (w.heap.size + 1) (.int .i64 0) (.int .i64 0) vv (.slice none 0 0)) 44 3 vv vals.length (vvcells vals) := by
  have hgl := lt_of_block hg.box
  have box1 := h.at_.mod.heap hg.box (fun f => f)
  obtain ⟨g1, m1⟩ := GrAt.put box1 hgh.lst
  have ret1 := m1.heap h.at_.ret (fun e => by omega)
  have m2 : Mod (fun k => k = w.heap.size + 1) (wr.setCell ⟨g, 0, none⟩ vh) (doEnd (wr.setCell ⟨g, 0, none⟩ vh) (w.heap.size + 1) (.int .i64 0) (.int .i64 0) vv (.slice none 0 0)) :=
    ((((Mod.refl (fun k => k = w.heap.size + 1) _).setCell (p := ⟨w.heap.size + 1, 0, none⟩) (fun _ => rfl) _).setCell (p := ⟨w.heap.size + 1, 1, none⟩) (fun _ => rfl) _).setCell (p := ⟨w.heap.size + 1, 2, none⟩) (fun _ => rfl) _).setCell (p := ⟨w.heap.size + 1, 3, none⟩) (fun _ => rfl) _
  have s1 := h.seg.mod m1 (h.seg.off_box box1 (by decide))
  refine ⟨((h.at_.mod.mono (fun _ _ f => f.elim)).trans m1).trans' m2 (fun i hi e => by omega), ⟨m2.heap g1.box (fun e => by omega), g1.lst.offC ret1 (noRow_answer _ _ _ _ _ _ _ _) m2⟩, s1.mod m2 (s1.off_box ret1 (by decide))⟩
set_option maxRecDepth 100000 in
set_option maxHeartbeats 8000000 in
theorem do_1 (g : Nat) (gv : Value) (l : List Vs) (r : Rqt) (vo : Value) (w : World) (hg : GrAt w g gv l) (hgood : Good (l.map Vs.x)) (ho : ORd w vo r.ops) (hc : checkR r = 0) (hk : r.kind = 1) :
    Calls Tryz.prog 17 #[.pointer (some ⟨g, 0, none⟩), rqV r vo] w (DoP g l r w) := by
  obtain ⟨kind, ops, v, k, d⟩ := r
  simp only at hk
  subst hk
  have HOK := Lib.hid (checkR_tx hc rfl)
  have HDF : Hid (okRun (l.map Vs.x) ops = none → doG (l.map Vs.x) ⟨1, ops, v, k, d⟩ = (l.map Vs.x, ⟨(failG (l.map Vs.x) 0 ops).1, (failG (l.map Vs.x) 0 ops).2, [], []⟩)) := Lib.hid (fun h => by unfold doG; rw [if_neg (by simpa using hc)]; simp only [if_true]; rw [h])
  have HDR : Hid (∀ p, okRun (l.map Vs.x) ops = some p → doG (l.map Vs.x) ⟨1, ops, v, k, d⟩ = (p.1, ⟨0, 0, p.2, []⟩)) := Lib.hid (fun p h => by unfold doG; rw [if_neg (by simpa using hc)]; simp only [if_true]; rw [h])
  have HO := Lib.hid ho
  have HG := Lib.hid hg
  have HGD := Lib.hid hgood
  obtain ⟨a, c, rfl, hc1, hc2, -⟩ := ho.row.shape
  obtain ⟨n, hn⟩ : ∃ n, n = ops.length := ⟨_, rfl⟩
  have HN := Lib.hid hn
  simp only at hc1
  simp only [rqV, ← hn] at HO hc1 ⊢
  have HS := Lib.hid (DoAt.start w (.int .u8 1) (.slice a n c) (.int .u32 (v : Int)) (.int .i64 k) (.int .i64 d))
  have HCK := Lib.hid (dcheck_any ⟨1, ops, v, k, d⟩ (.slice a n c) _ (HO.out.keep HS.out.mod))
  simp only [rqV] at HCK
  rw [hc] at HCK
  have hn6 : n ≤ 6 := by rw [hn]; exact HOK.out.2.2
  have HCP : Hid (∀ w', Mod (fun _ => False) w w' → Calls Tryz.prog 41 #[.pointer (some ⟨g, 0, none⟩)] w' fun e w'' => Mod (fun _ => False) w' w'' ∧ ∃ g' v' l', e = .returned (.pointer (some ⟨g', 0, none⟩)) ∧ GrAt w'' g' v' l' ∧ l'.map Vs.x = l.map Vs.x ∧ w'.heap.size ≤ g') := Lib.hid (fun w' m => by
    have ht := hgood.tame
    exact copy_any g gv l w' (HG.out.keep m) (by have := ht.len; omega) (fun x hx => by have := ht.each x hx; exact ⟨by omega, by omega⟩))
  obtain ⟨i0, hi, hz0, hz1, hz2⟩ := info_parts infoValue
  have HI : Hid (Tryz.prog.info? 44 = some i0 ∧ i0.zero = some (.agg #[.int .u8 0, .int .i64 0, zval]) ∧ i0.size = 3 ∧ i0.bytes = 32) := ⟨hi, hz0, hz1, hz2⟩
  clear hi hz0 hz1 hz2
  clear hn ho hc hg hgood
  go_enter Tryz.func17, Tryz.ntmps17
  go_wp2_with (first
    | (go_at_call 41; refine (HCP.out _ HD1.out.mod).mono ?_; (rintro e w2 ⟨hm2, hb, v2, l2, rfl, hg2, hl2, hlo2⟩); have HLP0 := Lib.hid (DoLp.start ops HD1.out hm2 hg2 hl2 hlo2); replace b1 := hm2.cell b1; have zb2 := Nat.lt_of_lt_of_le zb hm2.size; clear hm2 hg2 hl2 hlo2 b0 b2 b3 b4)
    | (go_at_call 20; refine HCK.out.mono ?_; (rintro e w1 ⟨rfl, hm1⟩); have HD1 := Lib.hid (HS.out.next hm1 (fun _ f => f.elim)); obtain ⟨b0, b1, b2, b3, b4, zb⟩ := HD1.out.boxf; clear hm1))
  go_loopw [46] (fun i wr => ∃ (q : Nat) (L' : Gr) (vals : List Val) (vv : Value), i = .int .i64 (q : Int) ∧ q ≤ n ∧ DoLp w (.int .u8 1) (.slice a n c) (.int .u32 (v : Int)) (.int .i64 k) (.int .i64 d) hb w2.heap.size (l.map Vs.x) ops q L' vals vv wr) (fun i _ => n - (intOf i).toNat)
  case atStart => exact ⟨0, _, _, _, rfl, Nat.zero_le _, HLP0.out⟩
  case round =>
    obtain ⟨q, L', vals, vv, rfl, hq, hlp⟩ := hrel
    have HLP := Lib.hid hlp
    obtain ⟨av, cv, hvv, -⟩ := hlp.seg.shape
    subst hvv
    obtain ⟨vh, lh, hgr, hlh⟩ := hlp.gr
    have HGR := Lib.hid hgr
    have HLH := Lib.hid hlh
    obtain ⟨nv, hnv⟩ : ∃ nv, nv = vals.length := ⟨_, rfl⟩
    have HNV := Lib.hid hnv
    have HVL : Hid (nv ≤ q) := Lib.hid (by rw [hnv]; exact hlp.len)
    rw [← hnv] at HLP
    clear hlp HLP0 hnv
    by_cases hqn : q < n
    · obtain ⟨o, ho⟩ : ∃ o, ops[q]? = some o := ⟨_, List.getElem?_eq_getElem (by rw [← HN.out]; exact hqn)⟩
      obtain ⟨bl, offl, e0, hbl, r0, r1, r2, r3, r4, r5, r6⟩ := HO.out.ent ho rfl
      replace r0 := HLP.out.at_.mod.cell r0
      replace r1 := HLP.out.at_.mod.cell r1
      replace r2 := HLP.out.at_.mod.cell r2
      replace r3 := HLP.out.at_.mod.cell r3
      replace r4 := HLP.out.at_.mod.cell r4
      replace r5 := HLP.out.at_.mod.cell r5
      replace r6 := HLP.out.at_.mod.cell r6
      have zbl : bl < wr.heap.size := Nat.lt_of_lt_of_le hbl HLP.out.at_.mod.size
      have HOO := Lib.hid ho
      have HFO := Lib.hid (HO.out.fits o (List.mem_of_getElem? ho))
      have HOKO := Lib.hid (HOK.out.1 o (List.mem_of_getElem? ho))
      have HGD2 : Hid (Good (lh.map Vs.x)) := Lib.hid (by rw [hlh]; exact Good.run (us := []) (vs := vals) HGD.out (fun o ho => HOK.out.1 o (List.mem_of_mem_take ho)) HLP.out.run)
      obtain ⟨ez, G, vs1, hon⟩ : ∃ ez G vs1, oneG L' o = ⟨ez, G, vs1⟩ := ⟨_, _, _, rfl⟩
      have HON := Lib.hid hon
      have HV1 : Hid (vs1.length ≤ 1) := Lib.hid (by have h := one_vals L' o; rw [hon] at h; exact h)
      subst e0
      obtain ⟨kind, oa, ob, okey, ⟨vk, vn, vs⟩⟩ := o
      simp only at r0 r1 r2 r3 r4 r5 r6
      obtain ⟨n1, hn1⟩ : ∃ n1, n1 = vs1.length := ⟨_, rfl⟩
      have HN1 := Lib.hid hn1
      have HMQ : Hid (Mod (fun _ => False) wr (wr.alloc (.cells #[.int .u8 (kind : Int), .int .u32 (oa : Int), .int .u32 (ob : Int), .int .u8 (okey : Int), .int .u8 (vk : Int), .int .i64 vn, .string vs] 71))) := Lib.hid ((Mod.refl _ _).alloc _)
      have HONE : Hid (Calls Tryz.prog 42 #[.pointer (some ⟨hb, 0, none⟩), .agg #[.int .u8 (kind : Int), .int .u32 (oa : Int), .int .u32 (ob : Int), .int .u8 (okey : Int), .int .u8 (vk : Int), .int .i64 vn, .string vs]] (wr.alloc (.cells #[.int .u8 (kind : Int), .int .u32 (oa : Int), .int .u32 (ob : Int), .int .u8 (okey : Int), .int .u8 (vk : Int), .int .i64 vn, .string vs] 71)) fun e w5 => Mod (fun k => k = hb) (wr.alloc (.cells #[.int .u8 (kind : Int), .int .u32 (oa : Int), .int .u32 (ob : Int), .int .u8 (okey : Int), .int .u8 (vk : Int), .int .i64 vn, .string vs] 71)) w5 ∧ ∃ vo v5 l5, e = .returned (.tuple #[.int .i64 (ez : Int), vo]) ∧ GrAt w5 hb v5 l5 ∧ l5.map Vs.x = G ∧ RdS w5 3 vo n1 (vvcells vs1)) := Lib.hid (by
        have h := one_any hb vh lh ⟨kind, oa, ob, okey, ⟨vk, vn, vs⟩⟩ (wr.alloc (.cells #[.int .u8 (kind : Int), .int .u32 (oa : Int), .int .u32 (ob : Int), .int .u8 (okey : Int), .int .u8 (vk : Int), .int .i64 vn, .string vs] 71)) (hgr.keep HMQ.out) HGD2.out.tame HFO.out HOKO.out
        unfold OneP at h
        rw [hlh, hon] at h
        rw [hn1]
        exact h)
      clear ho hbl hgr hlh hon hn1
      by_cases hz : ez = 0
      · subst hz
        go_wp2_with (first
          | (at_builtin; refine wpList_append_pat rfl (.tmp 63) (.tmp 64) 31 rfl i0 _ 3 32 Tryz.underlying31 HI.out.1 HI.out.2.1 HI.out.2.2.1 HI.out.2.2.2 rfl (by decide) rfl HSG5.out _ n1 _ rfl HSRC.out (by have := HVL.out; have := HV1.out; have := HN1.out; unfold maxLen; omega) (by have := HVL.out; have := HV1.out; have := HN1.out; omega) valP HPT5.out (fun j u hu => valP_cells (vals ++ vs1) j u (by rw [vv_append]; exact hu)) valP_zero ?_; intro v6 w6 hs6 hp6 hg6 ho6; have HAP2 := Lib.hid (HLP.out.app HOO.out HON.out HMQ.out HM5.out HG5.out HL5.out (by rw [← HNV.out, ← HN1.out]; exact hs6) hp6 hg6 ho6); (obtain ⟨a6, c6, n6, rfl⟩ : ∃ a c n, v6 = .slice a n c := (by obtain ⟨a, c, e, _⟩ := hs6.shape; exact ⟨_, _, _, e⟩)); have p6 := cell_of_row HAP2.out.1 2; have p6f := free_of_row HAP2.out.1 2; have z6 := lt_of_block HAP2.out.1; simp at p6; clear hs6 hp6 hg6 ho6)
          | (go_at_call 42; refine HONE.out.mono ?_; (rintro e w5 ⟨hm5, vo, v5, l5, rfl, hg5, hl5, hv5⟩); have HM5 := Lib.hid hm5; have HG5 := Lib.hid hg5; have HL5 := Lib.hid hl5; have HSRC := Lib.hid (hv5.src (vv_ones vs1)); (obtain ⟨a5, c5, rfl, -⟩ := hv5.shape); have HMID := Lib.hid (HLP.out.mid HMQ.out hm5); have HSG5 : Hid (Seg w5 44 3 (.slice av nv cv) nv (vvcells vals)) := Lib.hid (by rw [HNV.out]; have h := HMID.out.2.1; rw [← HNV.out] at h ⊢; exact h); have HPT5 := Lib.hid HMID.out.2.2; have p5 := cell_of_row HMID.out.1 2; have p5f := free_of_row HMID.out.1 2; have z5 := lt_of_block HMID.out.1; simp at p5; clear hm5 hg5 hl5 hv5))
        go_roundw
        case rel => exact ⟨q + 1, G, vals ++ vs1, _, by go_num, by omega, HAP2.out.2⟩
        case measure => simp [intOf]; omega
      · have hz' : ((ez : Int) != 0) = true := by simp [hz]
        have HE : Hid (doG (l.map Vs.x) ⟨1, ops, v, k, d⟩ = (l.map Vs.x, ⟨ez, q, [], []⟩)) := Lib.hid (by
          obtain ⟨h1, h2⟩ := okRun_fail HLP.out.run HOO.out (by rw [HON.out]; exact hz)
          rw [HDF.out h1, h2, HON.out])
        go_wp2_with (go_at_call 42; refine HONE.out.mono ?_; (rintro e w5 ⟨hm5, vo, v5, l5, rfl, hg5, hl5, hv5⟩); (obtain ⟨a5, c5, rfl, -⟩ := hv5.shape); have HD5 := Lib.hid ((HLP.out.at_.next HMQ.out (fun _ f => f.elim)).next hm5 (fun k e => by have := HLP.out.hlo; omega)); obtain ⟨s0, s1, s2, s3, f0, f1, f2, f3, zr⟩ := HD5.out.retf; clear hm5 hg5 hl5 hv5)
        refine bodyPost_ret (v := .agg #[.int .i64 (ez : Int), .int .i64 (q : Int), .slice none 0 0, .slice none 0 0]) (by simp [results, Tryz.results17, go_sem, s0, s1, s2, s3]) rfl ?_
        exact DoP.stay HG.out (HD5.out.finish _ _ _ _).1 HE.out (RdS.none _ _)
    · have HR : Hid (okRun (l.map Vs.x) ops = some (L', vals)) := Lib.hid (by
        have h := HLP.out.run
        rwa [List.take_of_length_le (by have := HN.out; omega)] at h)
      obtain rfl : q = n := by omega
      obtain ⟨ah, ch, nh, rfl⟩ : ∃ a c n, vh = .slice a n c := by
        obtain ⟨a, c, e, _⟩ := hgr.lst.row.shape
        exact ⟨_, _, _, e⟩
      have h0 := cell_of_row hgr.box 0
      have zh := lt_of_block hgr.box
      have hgb := HLP.out.at_.mod.heap HG.out.box (fun f => f)
      have g0 := cell_of_row hgb 0
      have g0f := free_of_row hgb 0
      have zg := lt_of_block hgb
      have a0 := cell_of_row HLP.out.abx 0
      have a1 := cell_of_row HLP.out.abx 1
      have a2 := cell_of_row HLP.out.abx 2
      have a3 := cell_of_row HLP.out.abx 3
      have za := lt_of_block HLP.out.abx
      obtain ⟨s0, s1, s2, s3, f0, f1, f2, f3, zr⟩ := HLP.out.at_.retf
      simp at h0 g0 a0 a1 a2 a3
      have e1 : g < w.heap.size := lt_of_block HG.out.box
      have e2 := HLP.out.hlo
      have e3 := HLP.out.alo
      have n1 : g ≠ hb := by omega
      have n2 : g ≠ w2.heap.size := by omega
      have n3 : g ≠ w.heap.size + 1 := by omega
      have n4 : w.heap.size + 1 ≠ g := by omega
      have n5 : w2.heap.size ≠ g := by omega
      have n6 : hb ≠ g := by omega
      clear e1 e2 e3 hgb hgr hlh
      go_wp2
      refine bodyPost_ret (v := .agg #[.int .i64 0, .int .i64 0, .slice av nv cv, .slice none 0 0]) (by simp [results, Tryz.results17, go_sem, s0, s1, s2, s3, n3, n4]) rfl ?_
      obtain ⟨m, gf, sf⟩ := HLP.out.finish HG.out HGR.out
      refine ⟨m, .slice av nv cv, .slice none 0 0, _, lh, by rw [HDR.out _ HR.out]; rfl, gf, by rw [HDR.out _ HR.out]; exact HLH.out, by rw [HDR.out _ HR.out]; exact sf.rdS, by rw [HDR.out _ HR.out]; exact RdS.none _ _⟩
end Go.Proofs.YtbgjbikpenefoaaGreatDoor
