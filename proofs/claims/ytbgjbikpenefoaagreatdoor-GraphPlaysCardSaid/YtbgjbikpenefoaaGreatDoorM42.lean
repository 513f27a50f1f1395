/- Lemmas for the claim, in one text: YBO, YBP. -/
import Derived.Test.YtbgjbikpenefoaaGreatDoorRF
import Derived.Test.YtbgjbikpenefoaaGreatDoorM40
import Derived.Test.YtbgjbikpenefoaaGreatDoorM41

/- YBO: what is needed of it (by shake.py). -/

/- YBO, as far as the seat goes. -/
/- gussetref03.Do, where it is no transaction: nothing turns. (Printed by gen_still.py from the walks of RF.) -/
namespace Go.Proofs.YtbgjbikpenefoaaGreatDoor
set_option linter.unusedVariables false
set_option linter.unusedSimpArgs false
open Go.RowKit
def DoS (g : Nat) (l : List Vs) (r : Rqt) (w : World) (e : Ending) (w' : World) : Prop := DoP g l r w e w' ∧ Mod (fun _ => False) w w'
theorem DoS.stay {g : Nat} {v vl : Value} {l : List Vs} {r : Rqt} {w w' : World} {z i : Nat} {li : List Nat} (hg : GrAt w g v l) (m : Mod (fun _ => False) w w') (he : doG (l.map Vs.x) r = (l.map Vs.x, ⟨z, i, [], li⟩)) (hl : RdS w' 1 vl li.length (li.map (keyV .u32))) :
    DoS g l r w (.returned (.agg #[.int .i64 (z : Int), .int .i64 (i : Int), .slice none 0 0, vl])) w' := ⟨DoP.stay hg m he hl, m⟩
set_option maxRecDepth 100000 in
set_option maxHeartbeats 4000000 in
theorem do_noneS (g : Nat) (gv : Value) (l : List Vs) (r : Rqt) (vo : Value) (w : World) (hg : GrAt w g gv l) (ho : ORd w vo r.ops) (hc : checkR r = 0) (hk : r.kind ≠ 1) (hf : findV (l.map Vs.x) r.v = none) :
    Calls Tryz.prog 17 #[.pointer (some ⟨g, 0, none⟩), rqV r vo] w (DoS g l r w) := by
  obtain ⟨kind, ops, v, k, d⟩ := r
  have HE : Hid (doG (l.map Vs.x) ⟨kind, ops, v, k, d⟩ = (l.map Vs.x, ⟨6, 0, [], []⟩)) := Lib.hid (by unfold doG; rw [if_neg (by simpa using hc), if_neg hk, hf]; rfl)
  have HO := Lib.hid ho
  have HG := Lib.hid hg
  obtain ⟨a, c, rfl, -⟩ := ho.row.shape
  obtain ⟨n, hn⟩ : ∃ n, n = ops.length := ⟨_, rfl⟩
  simp only [rqV, ← hn] at HO hk hf ⊢
  have HS := Lib.hid (DoAt.start w (.int .u8 (kind : Int)) (.slice a n c) (.int .u32 (v : Int)) (.int .i64 k) (.int .i64 d))
  have HCK := Lib.hid (dcheck_any ⟨kind, ops, v, k, d⟩ (.slice a n c) _ (HO.out.keep HS.out.mod))
  simp only [rqV] at HCK
  rw [hc] at HCK
  have HAT : Hid (∀ w', Mod (fun _ => False) w w' → Calls Tryz.prog 39 #[.pointer (some ⟨g, 0, none⟩), .int .u32 (v : Int)] w' fun e w'' => e = .returned (.int .i64 (-1)) ∧ Mod (fun _ => False) w' w'') := Lib.hid (fun w' m => by
    have h := at_any g gv l v w' (HG.out.keep m)
    rw [find_none hf] at h
    exact h)
  have hk1 : ((kind : Int) != 1) = true := by simp; omega
  clear hn ho hc hg hf hk
  go_enter Tryz.func17, Tryz.ntmps17
  go_wp2_with (first
    | (go_at_call 39; refine (HAT.out _ HD1.out.mod).mono ?_; (rintro e w2 ⟨rfl, hm2⟩); have HD2 := Lib.hid (HD1.out.next hm2 (fun _ f => f.elim)); replace r0 := hm2.cell r0; replace r1 := hm2.cell r1; replace r2 := hm2.cell r2; replace r3 := hm2.cell r3; obtain ⟨-, -, -, -, f0, f1, f2, f3, zr⟩ := HD2.out.retf; clear hm2)
    | (go_at_call 20; refine HCK.out.mono ?_; (rintro e w1 ⟨rfl, hm1⟩); have HD1 := Lib.hid (HS.out.next hm1 (fun _ f => f.elim)); obtain ⟨r0, r1, r2, r3, -⟩ := HD1.out.retf; obtain ⟨b0, b1, b2, b3, b4, zb⟩ := HD1.out.boxf; clear hm1))
  refine bodyPost_ret (v := .agg #[.int .i64 6, .int .i64 0, .slice none 0 0, .slice none 0 0]) (by simp [results, Tryz.results17, go_sem, r0, r1, r2, r3]) rfl ?_
  exact DoS.stay HG.out (HD2.out.finish _ _ _ _).1 HE.out (RdS.none _ _)
set_option maxRecDepth 100000 in
set_option maxHeartbeats 4000000 in
theorem do_3S (g : Nat) (gv : Value) (l : List Vs) (r : Rqt) (vo : Value) (w : World) (hg : GrAt w g gv l) (ho : ORd w vo r.ops) (hc : checkR r = 0) (hk : r.kind = 3) (x : Vtx) (hf : findV (l.map Vs.x) r.v = some x) :
    Calls Tryz.prog 17 #[.pointer (some ⟨g, 0, none⟩), rqV r vo] w (DoS g l r w) := by
  obtain ⟨kind, ops, v, k, d⟩ := r
  simp only at hk hf
  subst hk
  have HE : Hid (doG (l.map Vs.x) ⟨3, ops, v, k, d⟩ = (l.map Vs.x, ⟨0, 0, [], []⟩)) := Lib.hid (by unfold doG; rw [if_neg (by simpa using hc), hf]; simp)
  have HO := Lib.hid ho
  have HG := Lib.hid hg
  obtain ⟨a, c, rfl, -⟩ := ho.row.shape
  obtain ⟨n, hn⟩ : ∃ n, n = ops.length := ⟨_, rfl⟩
  simp only [rqV, ← hn] at HO ⊢
  have HS := Lib.hid (DoAt.start w (.int .u8 3) (.slice a n c) (.int .u32 (v : Int)) (.int .i64 k) (.int .i64 d))
  have HCK := Lib.hid (dcheck_any ⟨3, ops, v, k, d⟩ (.slice a n c) _ (HO.out.keep HS.out.mod))
  simp only [rqV] at HCK
  rw [hc] at HCK
  obtain ⟨i, s, hi, -, -, -⟩ := find_some hf
  have HAT : Hid (∀ w', Mod (fun _ => False) w w' → Calls Tryz.prog 39 #[.pointer (some ⟨g, 0, none⟩), .int .u32 (v : Int)] w' fun e w'' => e = .returned (.int .i64 (i : Int)) ∧ Mod (fun _ => False) w' w'') := Lib.hid (fun w' m => by
    have h := at_any g gv l v w' (HG.out.keep m)
    rw [hi] at h
    exact h)
  clear hn ho hc hg hf hi
  go_enter Tryz.func17, Tryz.ntmps17
  go_wp2_with (first
    | (go_at_call 39; refine (HAT.out _ HD1.out.mod).mono ?_; (rintro e w2 ⟨rfl, hm2⟩); have HD2 := Lib.hid (HD1.out.next hm2 (fun _ f => f.elim)); replace r0 := hm2.cell r0; replace r1 := hm2.cell r1; replace r2 := hm2.cell r2; replace r3 := hm2.cell r3; replace b0 := hm2.cell b0; obtain ⟨-, -, -, -, f0, f1, f2, f3, zr⟩ := HD2.out.retf; clear hm2)
    | (go_at_call 20; refine HCK.out.mono ?_; (rintro e w1 ⟨rfl, hm1⟩); have HD1 := Lib.hid (HS.out.next hm1 (fun _ f => f.elim)); obtain ⟨r0, r1, r2, r3, -⟩ := HD1.out.retf; obtain ⟨b0, b1, b2, b3, b4, zb⟩ := HD1.out.boxf; clear hm1))
  refine bodyPost_ret (v := .agg #[.int .i64 0, .int .i64 0, .slice none 0 0, .slice none 0 0]) (by simp [results, Tryz.results17, go_sem, r0, r1, r2, r3]) rfl ?_
  exact DoS.stay HG.out (HD2.out.finish _ _ _ _).1 HE.out (RdS.none _ _)
set_option maxRecDepth 100000 in
set_option maxHeartbeats 4000000 in
theorem do_2S (g : Nat) (gv : Value) (l : List Vs) (r : Rqt) (vo : Value) (w : World) (hg : GrAt w g gv l) (ht : Tame l) (ho : ORd w vo r.ops) (hc : checkR r = 0) (hk : r.kind = 2) (x : Vtx) (hf : findV (l.map Vs.x) r.v = some x) :
    Calls Tryz.prog 17 #[.pointer (some ⟨g, 0, none⟩), rqV r vo] w (DoS g l r w) := by
  obtain ⟨kind, ops, v, k, d⟩ := r
  simp only at hk hf
  subst hk
  obtain ⟨K, rfl, hK⟩ : ∃ K : Nat, k = (K : Int) ∧ K ≤ 8 := by
    have h := hc
    rw [checkR_2] at h
    unfold checkO at h
    split at h
    · cases h
    · exact ⟨k.toNat, by omega, by omega⟩
  obtain ⟨i, s, hi, his, -, -⟩ := find_some hf
  have hil : i < l.length := (List.getElem?_eq_some_iff.1 his).1
  have HE : Hid (doG (l.map Vs.x) ⟨2, ops, v, (K : Int), d⟩ = (l.map Vs.x, ⟨0, 0, [], withU l v K⟩)) := Lib.hid (by
    unfold doG
    rw [if_neg (by simpa using hc), hf, withU_near ht.rise ⟨i, hi, hil⟩]
    simp)
  have HO := Lib.hid ho
  have HG := Lib.hid hg
  obtain ⟨a, c, rfl, -⟩ := ho.row.shape
  obtain ⟨n, hn⟩ : ∃ n, n = ops.length := ⟨_, rfl⟩
  simp only [rqV, ← hn] at HO ⊢
  have HS := Lib.hid (DoAt.start w (.int .u8 2) (.slice a n c) (.int .u32 (v : Int)) (.int .i64 (K : Int)) (.int .i64 d))
  have HCK := Lib.hid (dcheck_any ⟨2, ops, v, (K : Int), d⟩ (.slice a n c) _ (HO.out.keep HS.out.mod))
  simp only [rqV] at HCK
  rw [hc] at HCK
  have HAT : Hid (∀ w', Mod (fun _ => False) w w' → Calls Tryz.prog 39 #[.pointer (some ⟨g, 0, none⟩), .int .u32 (v : Int)] w' fun e w'' => e = .returned (.int .i64 (i : Int)) ∧ Mod (fun _ => False) w' w'') := Lib.hid (fun w' m => by
    have h := at_any g gv l v w' (HG.out.keep m)
    rw [hi] at h
    exact h)
  have HWI : Hid (∀ w', Mod (fun _ => False) w w' → Calls Tryz.prog 40 #[.pointer (some ⟨g, 0, none⟩), .int .u32 (v : Int), .int .i64 (K : Int)] w' fun e w'' => ∃ vo, e = .returned vo ∧ SegN w' w'' vo (withU l v K)) := Lib.hid (fun w' m => within_any g gv l v K w' (HG.out.keep m) ht.len hK ⟨i, hi, hil⟩)
  clear hn ho hc hg hf hi hK his hil ht
  go_enter Tryz.func17, Tryz.ntmps17
  go_wp2_with (first
    | (go_at_call 40; refine (HWI.out _ HD2.out.mod).mono ?_; (rintro e w3 ⟨vo, rfl, hs3⟩); have HS3 := Lib.hid hs3; have HD3 := Lib.hid (HD2.out.next hs3.mod (fun _ f => f.elim)); replace r0 := hs3.mod.cell r0; replace r1 := hs3.mod.cell r1; replace r2 := hs3.mod.cell r2; replace r3 := hs3.mod.cell r3; obtain ⟨-, -, -, -, f0, f1, f2, f3, zr⟩ := HD3.out.retf; (obtain ⟨a3, c3, n3, rfl⟩ : ∃ a c n, vo = .slice a n c := (by obtain ⟨a, c, e, _⟩ := hs3.seg.shape; exact ⟨_, _, _, e⟩)); clear hs3)
    | (go_at_call 39; refine (HAT.out _ HD1.out.mod).mono ?_; (rintro e w2 ⟨rfl, hm2⟩); have HD2 := Lib.hid (HD1.out.next hm2 (fun _ f => f.elim)); replace r0 := hm2.cell r0; replace r1 := hm2.cell r1; replace r2 := hm2.cell r2; replace r3 := hm2.cell r3; replace b0 := hm2.cell b0; replace b2 := hm2.cell b2; replace b3 := hm2.cell b3; clear hm2)
    | (go_at_call 20; refine HCK.out.mono ?_; (rintro e w1 ⟨rfl, hm1⟩); have HD1 := Lib.hid (HS.out.next hm1 (fun _ f => f.elim)); obtain ⟨r0, r1, r2, r3, -⟩ := HD1.out.retf; obtain ⟨b0, b1, b2, b3, b4, zb⟩ := HD1.out.boxf; clear hm1))
  refine bodyPost_ret (v := .agg #[.int .i64 0, .int .i64 0, .slice none 0 0, .slice a3 n3 c3]) (by simp [results, Tryz.results17, go_sem, r0, r1, r2, r3]) rfl ?_
  exact DoS.stay HG.out (HD3.out.finish _ _ _ _).1 HE.out ((HD3.out.list _ _ _ _ HS3.out.seg (by decide)).rdS)
theorem do_still (g : Nat) (gv : Value) (l : List Vs) (r : Rqt) (vo : Value) (w : World) (hg : GrAt w g gv l) (hgood : Good (l.map Vs.x)) (ho : ORd w vo r.ops) (hk : r.kind ≠ 1) :
    Calls Tryz.prog 17 #[.pointer (some ⟨g, 0, none⟩), rqV r vo] w (DoS g l r w) := by
  by_cases hc : checkR r = 0
  · cases hf : findV (l.map Vs.x) r.v with
    | none => exact do_noneS g gv l r vo w hg ho hc hk hf
    | some x =>
      by_cases h2 : r.kind = 2
      · exact do_2S g gv l r vo w hg hgood.tame ho hc h2 x hf
      · have h3 : r.kind = 3 := by
          unfold checkR at hc
          split at hc
          · cases hc
          · omega
        exact do_3S g gv l r vo w hg ho hc h3 x hf
  · refine (do_bad (.pointer (some ⟨g, 0, none⟩)) r vo w ho hc).mono ?_
    rintro e w' ⟨rfl, m⟩
    exact DoS.stay hg m (by unfold doG; rw [if_pos hc]) (RdS.none _ _)
end Go.Proofs.YtbgjbikpenefoaaGreatDoor

/- YBP: what is needed of it (by shake.py). -/

/- YBP, as far as the seat goes. -/
/- The program's graph and the document's, side by side. (Printed by gen_gplays.py.) -/
namespace Go.Proofs.YtbgjbikpenefoaaGreatDoor
set_option linter.unusedVariables false
set_option linter.unusedSimpArgs false
open Go.RowKit Go.Maps
theorem rf_kept {wr wx : World} {gr : Nat} {L : Gr} (h : ∃ gv l, GrAt wr gr gv l ∧ l.map Vs.x = L) (k : Kept wr wx) : ∃ gv l, GrAt wx gr gv l ∧ l.map Vs.x = L := by
  obtain ⟨gv, l, h1, h2⟩ := h
  exact ⟨gv, l, ⟨k.box h1.box, k.lrd h1.lst⟩, h2⟩
structure Py (w : World) (g bm gr : Nat) (L : Gr) (wr : World) : Prop where
  st : GSt w g bm L wr
  rf : ∃ gv l, GrAt wr gr gv l ∧ l.map Vs.x = L
  lo : w.heap.size ≤ gr
theorem Py.keep {w wr wx : World} {g bm gr : Nat} {L : Gr} (h : Py w g bm gr L wr) (m : Mod (fun _ => False) wr wx) : Py w g bm gr L wx := ⟨h.st.keep m, rf_kept h.rf (.mod m), h.lo⟩
/-- What the document's Do does. -/
structure RDo (gr : Nat) (L : Gr) (r : Rqt) (vv vl : Value) (wB w4 : World) : Prop where
  mod : Mod (fun k => k = gr) wB w4
  rf : ∃ gv l, GrAt w4 gr gv l ∧ l.map Vs.x = (doG L r).1
  vals : RdS w4 3 vv (doG L r).2.vals.length (vvcells (doG L r).2.vals)
  list : RdS w4 1 vl (doG L r).2.list.length ((doG L r).2.list.map (keyV .u32))
  still : r.kind ≠ 1 → Mod (fun _ => False) wB w4
theorem rdo_any (gr : Nat) (L : Gr) (r : Rqt) (vo : Value) (w : World) (h : ∃ gv l, GrAt w gr gv l ∧ l.map Vs.x = L) (hL : Good L) (ho : ORd w vo r.ops) :
    Calls Tryz.prog 17 #[.pointer (some ⟨gr, 0, none⟩), rqV r vo] w fun e w' => ∃ vv vl, e = .returned (.agg #[.int .i64 ((doG L r).2.e : Nat), .int .i64 ((doG L r).2.at_ : Nat), vv, vl]) ∧ RDo gr L r vv vl w w' := by
  obtain ⟨gv, l, h1, h2⟩ := h
  subst h2
  by_cases hk : r.kind = 1
  · refine (do_any gr gv l r vo w h1 hL ho).mono ?_
    rintro e w' ⟨m, vv, vl, v', l', rfl, hg, hl, hv, hli⟩
    exact ⟨vv, vl, rfl, m, ⟨v', l', hg, hl⟩, hv, hli, fun c => absurd hk c⟩
  · refine (do_still gr gv l r vo w h1 hL ho hk).mono ?_
    rintro e w' ⟨⟨m, vv, vl, v', l', rfl, hg, hl, hv, hli⟩, hm⟩
    exact ⟨vv, vl, rfl, m, ⟨v', l', hg, hl⟩, hv, hli, fun _ => hm⟩
/-- Where something is listed nothing has turned. -/
theorem doG_list {L : Gr} {r : Rqt} (h : (doG L r).2.list ≠ []) : r.kind ≠ 1 ∧ (doG L r).1 = L := by
  unfold doG at h ⊢
  by_cases h1 : checkR r ≠ 0
  · rw [if_pos h1] at h; exact absurd rfl h
  · rw [if_neg h1] at h ⊢
    by_cases h2 : r.kind = 1
    · rw [if_pos h2] at h
      cases hr : okRun L r.ops with
      | some p => rw [hr] at h; exact absurd rfl h
      | none => rw [hr] at h; exact absurd rfl h
    · refine ⟨h2, ?_⟩
      rw [if_neg h2]
      by_cases h3 : (findV L r.v).isNone = true
      · rw [if_pos h3]
      · rw [if_neg h3]
        by_cases h4 : r.kind = 2
        · rw [if_pos h4]
        · rw [if_neg h4]
theorem GSt.more2 {S : Nat → Prop} {w wr wx : World} {g bm : Nat} {L : Gr} (h : GSt w g bm L wr) (m : Mod S wr wx) (hlo : ∀ b, S b → w.heap.size ≤ b) (hoff : ∀ b, S b → b < wr.heap.size → ∃ cs t f, wr.heap[b]? = some (.cells cs t f) ∧ t ≠ 93 ∧ t ≠ 81) : GSt w g bm L wx := by
  obtain ⟨ns, h1, h2, h3⟩ := h.ex
  refine ⟨⟨ns, h1.mod m (fun b hb s => ?_), h2, h3⟩, h.good, h.mod.trans' m (fun i hi s => by have := hlo i s; omega)⟩
  obtain ⟨cs, t, f, hc, e1, e2⟩ := hoff b s (h1.lt b hb)
  exact h1.off_box hc e1 e2 hb
theorem hp_alloc {w : World} {o x : Obj} {b : Nat} (h : w.heap[b]? = some x) : (w.alloc o).heap[b]? = some x := heap_alloc_old h
theorem hp_drew {w : World} {x : Obj} {b : Nat} (h : w.heap[b]? = some x) : w.drew.heap[b]? = some x := h
theorem hp_new {w : World} {o : Obj} {b : Nat} (h : b = w.heap.size) : (w.alloc o).heap[b]? = some o := by
  subst h
  exact heap_alloc_new' w _
theorem hp_set {w : World} {a : Addr} {u : Value} {x : Obj} {b : Nat} (h : w.heap[b]? = some x) (hne : b ≠ a.block) : (w.setCell a u).heap[b]? = some x := by
  rw [Below.heap_setCell _ _ _ _ hne]; exact h
/-- The numbers of an answer's cells. -/
abbrev ansC (e p : Int) (vv vl : Value) : Array Value := #[.int .i64 e, .int .i64 p, vv, vl]
/-- Both have answered; the answers' boxes; the requests' boxes. -/
structure Pz (w : World) (g bm gr : Nat) (L : Gr) (r : Rqt) (W0 : World) (b8 b9 : Nat) (o8 o9 : Array Value) (b10 b11 : Nat) (vv vl vv' vl' : Value) (wx : World) : Prop where
  py : Py w g bm gr (doG L r).1 wx
  b8 : wx.heap[b8]? = some (.cells o8 29 (0, 0))
  b9 : wx.heap[b9]? = some (.cells o9 29 (0, 0))
  b10 : wx.heap[b10]? = some (.cells (ansC ((doG L r).2.e : Nat) ((doG L r).2.at_ : Nat) vv vl) 34 (0, 0))
  b11 : wx.heap[b11]? = some (.cells (ansC ((doG L r).2.e : Nat) ((doG L r).2.at_ : Nat) vv' vl') 34 (0, 0))
  vals : Seg wx 44 3 vv (doG L r).2.vals.length (vvcells (doG L r).2.vals)
  list : Seg wx 23 1 vl (doG L r).2.list.length ((doG L r).2.list.map (keyV .u32))
  pat : PatB valP wx vv
  vals2 : RdS wx 3 vv' (doG L r).2.vals.length (vvcells (doG L r).2.vals)
  list2 : RdS wx 1 vl' (doG L r).2.list.length ((doG L r).2.list.map (keyV .u32))
  newv : ∀ b, vv.ownBlock = some b → W0.heap.size ≤ b
  newl : ∀ b, vl.ownBlock = some b → W0.heap.size ≤ b
  mod : Mod (fun _ => False) w wx
  old : (doG L r).2.list ≠ [] → Kept W0 wx
  ord : ∀ v l, ORd W0 v l → ORd wx v l
/-- A row whose first cell doesn't lie in a block is not touched with it. -/
theorem RdS.offK {S : Nat → Prop} {w w' : World} {size n : Nat} {v : Value} {us : List Value} (h : RdS w size v n us) (m : Mod S w w') (hs : ∀ b, S b → b < w.heap.size → ∃ cs t, w.heap[b]? = some (.cells cs t (0, 0)) ∧ ∀ (j : Nat) (u : Value), us[0]? = some u → cs[j]? ≠ some u) : RdS w' size v n us := by
  refine ⟨h.len, h.shape, fun a c e j u hu => ?_⟩
  obtain ⟨b, off, ea, hb, hc⟩ := h.cell a c e j u hu
  refine ⟨b, off, ea, Nat.lt_of_lt_of_le hb m.size, (World.cell?_of_block (w := w) (m.block b hb (fun s => ?_))).trans hc⟩
  have h0 : 0 < us.length := by have := (List.getElem?_eq_some_iff.1 hu).1; omega
  obtain ⟨b1, off1, ea1, _, hc1⟩ := h.cell a c e 0 _ (List.getElem?_eq_getElem h0)
  rw [ea] at ea1
  injection ea1 with ea1
  injection ea1 with e1 e2
  subst e1 e2
  obtain ⟨cs, t, hx, hne⟩ := hs b s hb
  rw [cell_of_row hx] at hc1
  exact hne _ _ (List.getElem?_eq_getElem h0) hc1
theorem x_set4 {V : World} {b : Nat} (e p : Int) (vv vl : Value) (h : V.heap[b]? = some (.cells #[.int .i64 0, .int .i64 0, .slice none 0 0, .slice none 0 0] 34 (0, 0))) : ((((V.setCell ⟨b, 0, none⟩ (.int .i64 e)).setCell ⟨b, 1, none⟩ (.int .i64 p)).setCell ⟨b, 2, none⟩ vv).setCell ⟨b, 3, none⟩ vl).heap[b]? = some (.cells #[.int .i64 e, .int .i64 p, vv, vl] 34 (0, 0)) :=
  row_setCell (row_setCell (row_setCell (row_setCell h 0 _) 1 _) 2 _) 3 _
abbrev zeroA : Obj := .cells #[.int .i64 0, .int .i64 0, .slice none 0 0, .slice none 0 0] 34 (0, 0)
theorem zeroA_get (j : Nat) (u : Value) (h : (#[.int .i64 0, .int .i64 0, .slice none 0 0, .slice none 0 0] : Array Value)[j]? = some u) : u = .int .i64 0 ∨ u = .slice none 0 0 := by
  rcases j with _ | _ | _ | _ | j <;> simp at h
  · exact .inl h.symm
  · exact .inl h.symm
  · exact .inr h.symm
  · exact .inr h.symm
theorem LRd.offZ {S : Nat → Prop} {w w' : World} {v : Value} {l : List Vs} (h : LRd w v l) (m : Mod S w w') (hs : ∀ b, S b → b < w.heap.size → w.heap[b]? = some zeroA) : LRd w' v l := by
  have key : ∀ b, S b → b < w.heap.size → ∀ us : List Value, (∀ u, us[0]? = some u → u ≠ .int .i64 0 ∧ u ≠ .slice none 0 0) → ∃ cs t, w.heap[b]? = some (.cells cs t (0, 0)) ∧ ∀ (j : Nat) (u : Value), us[0]? = some u → cs[j]? ≠ some u := fun b s hb us hu => ⟨_, _, hs b s hb, fun j u h0 hj => by
    rcases zeroA_get j u hj with e | e
    · exact (hu u h0).1 e
    · exact (hu u h0).2 e⟩
  refine ⟨h.row.offK m (fun b sb hb => key b sb hb _ (fun u hu => ?_)), fun s hs' => ⟨(h.each s hs').fits, (h.each s hs').props.offK m (fun b sb hb => key b sb hb _ (fun u hu => ?_)), (h.each s hs').halves.offK m (fun b sb hb => key b sb hb _ (fun u hu => ?_))⟩⟩
  · cases l with
    | nil => simp [vcells] at hu
    | cons x r => simp [vcells, Vs.cells] at hu; subst hu; exact ⟨by simp, by simp⟩
  · cases hp : s.x.props with
    | nil => rw [hp] at hu; simp [cellsOf] at hu
    | cons x r => rw [hp] at hu; simp [cellsOf, Ent.cells] at hu; subst hu; exact ⟨by simp, by simp⟩
  · cases hp : s.x.halves with
    | nil => rw [hp] at hu; simp [cellsOf] at hu
    | cons x r => rw [hp] at hu; simp [cellsOf, Ent.cells] at hu; subst hu; exact ⟨by simp, by simp⟩
theorem RDo.vals2K {gr : Nat} {L : Gr} {r : Rqt} {vv vl : Value} {wB w4 wF : World} {S : Nat → Prop} (rd : RDo gr L r vv vl wB w4) (m : Mod S w4 wF) (yz : ∀ b, S b → b < w4.heap.size → w4.heap[b]? = some zeroA) : RdS wF 3 vv (doG L r).2.vals.length (vvcells (doG L r).2.vals) :=
  rd.vals.offK m (fun b s hb => ⟨_, _, yz b s hb, fun j u h0 hj => by
    cases hp : (doG L r).2.vals with
    | nil => rw [hp] at h0; simp [vvcells] at h0
    | cons x t =>
      rw [hp] at h0; simp [vvcells, Val.cells] at h0; subst h0
      rcases zeroA_get j _ hj with e | e <;> cases e⟩)
theorem RDo.list2K {gr : Nat} {L : Gr} {r : Rqt} {vv vl : Value} {wB w4 wF : World} {S : Nat → Prop} (rd : RDo gr L r vv vl wB w4) (m : Mod S w4 wF) (yz : ∀ b, S b → b < w4.heap.size → w4.heap[b]? = some zeroA) : RdS wF 1 vl (doG L r).2.list.length ((doG L r).2.list.map (keyV .u32)) :=
  rd.list.offK m (fun b s hb => ⟨_, _, yz b s hb, fun j u h0 hj => by
    cases hp : (doG L r).2.list with
    | nil => rw [hp] at h0; simp at h0
    | cons x t =>
      rw [hp] at h0; simp [keyV] at h0; subst h0
      rcases zeroA_get j _ hj with e | e <;> cases e⟩)
theorem Pz.make {w W0 wA w3 wB w4 wF : World} {g bm gr : Nat} {L : Gr} {r : Rqt} {b8 b9 b10 b11 : Nat} {o8 o9 : Array Value} {vv vl vv' vl' : Value} (h0 : Py w g bm gr L W0) (h8 : W0.heap[b8]? = some (.cells o8 29 (0, 0))) (h9 : W0.heap[b9]? = some (.cells o9 29 (0, 0)))
    (hA : W0.heap.size ≤ wA.heap.size) (k03 : Kept W0 w3) (sd : SDo w g bm L r wA vv vl w3) (hB : Mod (fun _ => False) w3 wB) (rd : RDo gr L r vv' vl' wB w4) (mF : Mod (fun k => k = b10 ∨ k = b11) w4 wF)
    (n10 : W0.heap.size ≤ b10) (n11 : W0.heap.size ≤ b11) (z10 : b10 < w3.heap.size → w3.heap[b10]? = some zeroA) (z11 : b11 < w3.heap.size → w3.heap[b11]? = some zeroA) (y10 : b10 < w4.heap.size → w4.heap[b10]? = some zeroA) (y11 : b11 < w4.heap.size → w4.heap[b11]? = some zeroA)
    (x10 : wF.heap[b10]? = some (.cells (ansC ((doG L r).2.e : Nat) ((doG L r).2.at_ : Nat) vv vl) 34 (0, 0))) (x11 : wF.heap[b11]? = some (.cells (ansC ((doG L r).2.e : Nat) ((doG L r).2.at_ : Nat) vv' vl') 34 (0, 0))) :
    Pz w g bm gr L r W0 b8 b9 o8 o9 b10 b11 vv vl vv' vl' wF := by
  have l8 := lt_of_block h8
  have l9 := lt_of_block h9
  obtain ⟨gv0, l0, hg0, -⟩ := h0.rf
  have lgr := lt_of_block hg0.box
  have hg3 := k03.box hg0.box
  have s3 := k03.size
  have sB := hB.size
  have s4 := rd.mod.size
  have hlo := h0.lo
  have hw0 := h0.st.mod.size
  have M3 : Mod (fun k => k = gr ∨ k = b10 ∨ k = b11) w3 wF := ((hB.mono (fun _ _ f => f.elim)).trans (rd.mod.mono (fun _ _ e => .inl e))).trans (mF.mono (fun _ _ e => .inr e))
  have ne8 : ∀ b, w3.heap[b]? = some (.cells o8 29 (0, 0)) ∨ w3.heap[b]? = some (.cells o9 29 (0, 0)) → b < W0.heap.size → ¬ (b = gr ∨ b = b10 ∨ b = b11) := by
    rintro b hb hlt (e | e | e)
    · subst e
      rcases hb with hb | hb <;> (rw [hg3] at hb; injection hb with hb; injection hb with _ hb _; exact absurd hb (by decide))
    · omega
    · omega
  have offT : ∀ {t : TypeId} {b : Nat} {cs : Array Value}, w3.heap[b]? = some (.cells cs t (0, 0)) → t ≠ 34 → t ≠ 51 → ¬ (b = gr ∨ b = b10 ∨ b = b11) := by
    rintro t b cs hb ht1 ht2 (e | e | e)
    · subst e; rw [hg3] at hb; injection hb with hb; injection hb with _ hb _; exact ht2 hb.symm
    · subst e; rw [z10 (lt_of_block hb)] at hb; injection hb with hb; injection hb with _ hb _; exact ht1 hb.symm
    · subst e; rw [z11 (lt_of_block hb)] at hb; injection hb with hb; injection hb with _ hb _; exact ht1 hb.symm
  have hvo : ∀ b, vv.ownBlock = some b → ¬ (b = gr ∨ b = b10 ∨ b = b11) := fun b hb => by
    obtain ⟨cur, hc⟩ := seg_box sd.vals hb
    exact offT hc (by decide) (by decide)
  have hlo2 : ∀ b, vl.ownBlock = some b → ¬ (b = gr ∨ b = b10 ∨ b = b11) := fun b hb => by
    obtain ⟨cur, hc⟩ := seg_box sd.list hb
    exact offT hc (by decide) (by decide)
  have yz : ∀ b, (b = b10 ∨ b = b11) → b < w4.heap.size → w4.heap[b]? = some zeroA := by
    rintro b (e | e) hb
    · subst e; exact y10 hb
    · subst e; exact y11 hb
  have stF : GSt w g bm (doG L r).1 wF := sd.st.more2 M3 (by rintro b (e | e | e) <;> omega) (by
    rintro b (e | e | e) hb
    · subst e; exact ⟨_, _, _, hg3, by decide, by decide⟩
    · subst e; exact ⟨_, _, _, z10 hb, by decide, by decide⟩
    · subst e; exact ⟨_, _, _, z11 hb, by decide, by decide⟩)
  refine ⟨⟨stF, ?_, h0.lo⟩, M3.heap (k03.box h8) (ne8 _ (.inl (k03.box h8)) l8), M3.heap (k03.box h9) (ne8 _ (.inr (k03.box h9)) l9), x10, x11, sd.vals.mod M3 hvo, sd.list.mod M3 hlo2, sd.pat.mod M3 hvo, ?_, ?_, fun b hb => Nat.le_trans hA (sd.newv b hb), fun b hb => Nat.le_trans hA (sd.newl b hb), stF.mod, fun hne => ?_, fun v l ho => ?_⟩
  · obtain ⟨gv, l, h1, h2⟩ := rd.rf
    have hgr4 := h1.box
    refine ⟨gv, l, ⟨mF.heap hgr4 (fun e => ?_), h1.lst.offZ mF yz⟩, h2⟩
    rcases e with e | e <;> omega
  · refine rd.vals2K mF yz
  · refine rd.list2K mF yz
  · obtain ⟨hk, -⟩ := doG_list hne
    have m4 := rd.still hk
    have k4 : Kept W0 w4 := (k03.then hB).then m4
    refine ⟨Nat.le_trans k4.size mF.size, fun {p v} h => ?_, fun {b cs t f} h => ?_⟩
    · have hb : p.block < W0.heap.size := World.block_lt_of_cell? _ _ h
      exact (World.cell?_of_block (w := w4) (mF.block p.block (Nat.lt_of_lt_of_le hb k4.size) (fun e => by rcases e with e | e <;> omega))).trans (k4.cell h)
    · have hb := lt_of_block h
      exact mF.heap (k4.box h) (fun e => by rcases e with e | e <;> omega)
  · have h3 := k03.ord ho
    have hq0 : ∀ u, (ocells l)[0]? = some u → ∃ i, u = .int .u8 i := fun u hu => by
      cases l with
      | nil => simp [ocells] at hu
      | cons x r => simp [ocells, Opr.cells] at hu; exact ⟨_, hu.symm⟩
    refine ⟨h3.row.offK M3 (fun b s hb => ?_), h3.fits⟩
    rcases s with e | e | e
    · subst e
      refine ⟨_, _, hg3, fun j u hu hj => ?_⟩
      obtain ⟨i, rfl⟩ := hq0 u hu
      obtain ⟨a, c, ev, -⟩ := hg0.lst.row.shape
      subst ev
      rcases j with _ | j <;> simp at hj
    · subst e
      exact ⟨_, _, z10 hb, fun j u hu hj => by
        obtain ⟨i, rfl⟩ := hq0 u hu
        rcases zeroA_get j _ hj with e | e <;> cases e⟩
    · subst e
      exact ⟨_, _, z11 hb, fun j u hu hj => by
        obtain ⟨i, rfl⟩ := hq0 u hu
        rcases zeroA_get j _ hj with e | e <;> cases e⟩
end Go.Proofs.YtbgjbikpenefoaaGreatDoor
