/- Lemmas for the claim, in one text: YZ, YAA. -/
import Derived.Test.YtbgjbikpenefoaaGreatDoorYV

/- YZ: what is needed of it (by shake.py). -/

/- YZ, as far as the seat goes. -/
/- gussetref03.TwinReq, walked. -/
namespace Go.Proofs.YtbgjbikpenefoaaGreatDoor
set_option linter.unusedVariables false
set_option linter.unusedSimpArgs false
open Go.RowKit
theorem infoOp : (Tryz.prog.info? 71).map (fun i => (i.zero, i.size, i.bytes)) = some (some (.agg #[.int .u8 0, .int .u32 0, .int .u32 0, .int .u8 0, .int .u8 0, .int .i64 0, zval]), 7, 48) := by kernel_rfl
theorem fresh_segG {w w2 : World} {t : TypeId} {size : Nat} {v : Value} {n n0 : Nat} {xs : List Value} (hn : w.heap.size = n0)
    (hs : Seg w2 t size v (0 + n) ([] ++ xs)) (hg : (w.alloc (.cells #[] t)).grownBy w2 (Value.ownBlock (.slice (some ⟨n0, 0, none⟩) 0 0)))
    (ho : v.ownBlock = Value.ownBlock (.slice (some ⟨n0, 0, none⟩) 0 0) ∨ v.ownBlock = some (w.alloc (.cells #[] t)).heap.size) : Seg w2 t size v n xs ∧ Mod (fun _ => False) w w2 ∧ ∀ b, v.ownBlock = some b → n0 ≤ b := by
  subst hn
  refine ⟨by simpa using hs, ((Mod.refl _ w).alloc _).grown hg (fun b hb hlt => ?_), fun b hb => ?_⟩
  · simp [Value.ownBlock] at hb; omega
  · rcases ho with e | e
    · rw [e] at hb; simp [Value.ownBlock] at hb; omega
    · rw [e] at hb; simp at hb; omega
theorem empty7 (w : World) (t : TypeId) {n0 : Nat} (hn : w.heap.size = n0) : Seg (w.alloc (.cells #[] t)) t 7 (.slice (some ⟨n0, 0, none⟩) 0 0) 0 [] := by
  subst hn
  have := Seg.lit (e := t) (size := 7) w #[] 0 rfl (by decide) (by simp)
  exact this
theorem ocells_ones (l : List Opr) : ∀ u ∈ ocells l, u.oneCell' = true := by
  intro u hu
  unfold ocells at hu
  obtain ⟨x, _, hx⟩ := List.mem_flatMap.1 hu
  simp [Opr.cells, Val.cells] at hx
  rcases hx with rfl | rfl | rfl | rfl | rfl | rfl | rfl <;> rfl
set_option maxRecDepth 100000 in
set_option maxHeartbeats 2000000 in
theorem twinreq_any (r : Rqt) (vo : Value) (w : World) (ho : ORd w vo r.ops) (hn : r.ops.length * 48 ≤ 140737488355328) :
    Calls Tryz.prog 16 #[rqV r vo] w fun e w' => ∃ vo', e = .returned (rqV r vo') ∧ Mod (fun _ => False) w w' ∧ ORd w' vo' r.ops := by
  obtain ⟨kind, ops, v, k, d⟩ := r
  have HF := Lib.hid ho.fits
  have HR := Lib.hid ho.row
  obtain ⟨a, c, rfl, -⟩ := ho.row.shape
  obtain ⟨n, hnn⟩ : ∃ n, n = ops.length := ⟨_, rfl⟩
  have HN := Lib.hid hnn
  simp only [rqV, ← hnn] at HR hn ⊢
  have HB := Lib.hid hn
  obtain ⟨i0, hi, hz0, hz1, hz2⟩ := info_parts infoOp
  have HI : Hid (Tryz.prog.info? 71 = some i0 ∧ i0.zero = some (.agg #[.int .u8 0, .int .u32 0, .int .u32 0, .int .u8 0, .int .u8 0, .int .i64 0, zval]) ∧ i0.size = 7 ∧ i0.bytes = 48) := ⟨hi, hz0, hz1, hz2⟩
  clear hi hz0 hz1 hz2 ho hnn hn
  go_enter Tryz.func16, Tryz.ntmps16
  go_upto_region 1 with fail
  obtain ⟨W1, hW1⟩ : ∃ W1, W1 = (w.alloc (.cells #[.int .u8 (kind : Int), .slice a n c, .int .u32 (v : Int), .int .i64 k, .int .i64 d] 29)).alloc (.cells #[.int .u8 0, .slice none 0 0, .int .u32 0, .int .i64 0, .int .i64 0] 29) := ⟨_, rfl⟩
  have hm1 : Mod (fun _ => False) w W1 := by rw [hW1]; exact ((Mod.refl _ _).alloc _).alloc _
  have hb1 : W1.heap[w.heap.size]? = some (.cells #[.int .u8 (kind : Int), .slice a n c, .int .u32 (v : Int), .int .i64 k, .int .i64 d] 29 (0, 0)) := by rw [hW1]; exact heap_alloc_old (heap_alloc_new' w _)
  have hr1 : W1.heap[w.heap.size + 1]? = some (.cells #[.int .u8 0, .slice none 0 0, .int .u32 0, .int .i64 0, .int .i64 0] 29 (0, 0)) := by
    rw [hW1]
    have h := heap_alloc_new' (w.alloc (.cells #[.int .u8 (kind : Int), .slice a n c, .int .u32 (v : Int), .int .i64 k, .int .i64 d] 29)) (.cells #[.int .u8 0, .slice none 0 0, .int .u32 0, .int .i64 0, .int .i64 0] 29)
    simpa using h
  have hz1 : W1.heap.size = w.heap.size + 1 + 1 := by rw [hW1]; simp
  rw [← hW1]
  have HM1 := Lib.hid hm1
  have HB1 := Lib.hid hb1
  have HT1 := Lib.hid hr1
  have HE := Lib.hid (empty7 W1 71 rfl)
  have HR0 := Lib.hid ((HR.out.keep hm1).keep ((Mod.refl _ _).alloc (.cells #[] 71)))
  have HZ := Lib.hid hz1
  have b1 := cell_of_row hb1 1
  have zb := lt_of_block hb1
  simp at b1
  clear hW1 hm1 hb1 hr1 hz1
  go_wp2_with (at_builtin; refine wpList_append_seg rfl (.tmp 3) (.tmp 5) 27 rfl i0 _ 7 48 Tryz.underlying27 HI.out.1 HI.out.2.1 HI.out.2.2.1 HI.out.2.2.2 rfl (by decide) rfl HE.out _ n _ rfl (HR0.out.src (ocells_ones _)) (by have := HB.out; unfold maxLen; omega) (by have := HB.out; omega) ?_; intro v3 w3 hs3 hg3 ho3; (obtain ⟨hsg, hmd, hown⟩ := fresh_segG rfl hs3 hg3 ho3); (obtain ⟨a3, c3, rfl, -⟩ := hsg.shape); have HS3 := Lib.hid (And.intro hsg (And.intro hmd hown)); have hb3 := hmd.heap HB1.out (fun f => f); have hr3 := hmd.heap HT1.out (fun f => f); have y0 := cell_of_row hb3 0; have y1 := cell_of_row hb3 1; have y2 := cell_of_row hb3 2; have y3 := cell_of_row hb3 3; have y4 := cell_of_row hb3 4; have y1f := free_of_row hb3 1; have q0 := cell_of_row hr3 0; have q1 := cell_of_row hr3 1; have q2 := cell_of_row hr3 2; have q3 := cell_of_row hr3 3; have q4 := cell_of_row hr3 4; have q0f := free_of_row hr3 0; have q1f := free_of_row hr3 1; have q2f := free_of_row hr3 2; have q3f := free_of_row hr3 3; have q4f := free_of_row hr3 4; have z1 := lt_of_block hb3; have z2 := lt_of_block hr3; simp at y0 y1 y2 y3 y4 q0 q1 q2 q3 q4; clear hs3 hg3 ho3 hsg hmd hown hb3 hr3)
  refine bodyPost_ret (v := .agg #[.int .u8 (kind : Int), .slice a3 n c3, .int .u32 (v : Int), .int .i64 k, .int .i64 d]) (by simp [results, Tryz.results16, go_sem, q0, q1, q2, q3, q4]) rfl ?_
  have m : Mod (fun k => k = w.heap.size ∨ k = w.heap.size + 1) w3 _ := ((((((Mod.refl (fun k => k = w.heap.size ∨ k = w.heap.size + 1) w3).setCell (p := ⟨w.heap.size, 1, none⟩) (fun _ => .inl rfl) (.slice a3 n c3)).setCell (p := ⟨w.heap.size + 1, 0, none⟩) (fun _ => .inr rfl) (.int .u8 (kind : Int))).setCell (p := ⟨w.heap.size + 1, 1, none⟩) (fun _ => .inr rfl) (.slice a3 n c3)).setCell (p := ⟨w.heap.size + 1, 2, none⟩) (fun _ => .inr rfl) (.int .u32 (v : Int))).setCell (p := ⟨w.heap.size + 1, 3, none⟩) (fun _ => .inr rfl) (.int .i64 k)).setCell (p := ⟨w.heap.size + 1, 4, none⟩) (fun _ => .inr rfl) (.int .i64 d)
  have hs := HS3.out.1.mod m (fun b hb e => by have := HS3.out.2.2 b hb; have := HZ.out; omega)
  refine ⟨.slice a3 n c3, rfl, (HM1.out.trans HS3.out.2.1).trans' m (fun i hi e => by omega), ?_, HF.out⟩
  rw [HN.out] at hs ⊢
  exact hs.rdS
end Go.Proofs.YtbgjbikpenefoaaGreatDoor

/- YAA: what is needed of it (by shake.py). -/

/- YAA, as far as the seat goes. -/
/- gussetlaw03.do: a request on a copy of its own. -/
namespace Go.Proofs.YtbgjbikpenefoaaGreatDoor
set_option linter.unusedVariables false
set_option linter.unusedSimpArgs false
open Go.RowKit
set_option maxRecDepth 100000 in
set_option maxHeartbeats 2000000 in
theorem ldo_any (g bm : Nat) (ns : List Node) (r : Rqt) (vo : Value) (w : World) (hp : PG w g bm ns) (hL : Good (ns.map Node.x)) (ho : ORd w vo r.ops) (hvb : r.v < 4294967296) (hg : ErrT w) (hn : r.ops.length * 48 ≤ 140737488355328) :
    Calls Tryz.prog 12 #[.pointer (some ⟨g, 0, none⟩), rqV r vo] w (DoA g bm ns r w) := by
  have HP := Lib.hid hp
  obtain ⟨kind, ops, v, k, d⟩ := r
  obtain ⟨a, c, rfl, -⟩ := ho.row.shape
  have HTW : Hid (∀ w', Mod (fun _ => False) w w' → Calls Tryz.prog 16 #[rqV ⟨kind, ops, v, k, d⟩ (.slice a ops.length c)] w' fun e w'' => ∃ vo', e = .returned (rqV ⟨kind, ops, v, k, d⟩ vo') ∧ Mod (fun _ => False) w' w'' ∧ ORd w'' vo' ops) := Lib.hid (fun w' m => twinreq_any _ _ w' (ho.keep m) hn)
  have HDO : Hid (∀ w' vo', Mod (fun _ => False) w w' → ORd w' vo' ops → Calls Tryz.prog 13 #[.pointer (some ⟨g, 0, none⟩), rqV ⟨kind, ops, v, k, d⟩ vo'] w' (DoA g bm ns ⟨kind, ops, v, k, d⟩ w')) := Lib.hid (fun w' vo' m h => gdo_any g bm ns _ vo' w' (hp.keep m) hL h hvb (hg.keep m (fun f => f)))
  obtain ⟨n, hnn⟩ : ∃ n, n = ops.length := ⟨_, rfl⟩
  simp only [rqV, ← hnn] at HTW HDO ⊢
  have HS := Lib.hid (DoAt.start w (.int .u8 (kind : Int)) (.slice a n c) (.int .u32 (v : Int)) (.int .i64 k) (.int .i64 d))
  clear hp hL ho hvb hg hn hnn
  go_enter Tryz.func12, Tryz.ntmps12
  go_wp2_with (first
    | (go_at_call 13; refine (HDO.out _ _ HD1.out.mod HOR.out).mono ?_; (rintro e w3 ⟨vv, vl, ns', rfl, ht, hv, hl, hnv, hnl, hpt⟩); have HPT3 := Lib.hid hpt; have HT3 := Lib.hid (And.intro ht (And.intro hv hl)); have HN3 := Lib.hid (And.intro hnv hnl); have hrb := (HP.out.keep HD1.out.mod).nm.box ht.mod HD1.out.ret; have HRB := Lib.hid hrb; have r0 := cell_of_row hrb 0; have r1 := cell_of_row hrb 1; have r2 := cell_of_row hrb 2; have r3 := cell_of_row hrb 3; have f0 := free_of_row hrb 0; have f1 := free_of_row hrb 1; have f2 := free_of_row hrb 2; have f3 := free_of_row hrb 3; have zr := lt_of_block hrb; simp at r0 r1 r2 r3; (obtain ⟨a3, c3, n3, rfl⟩ : ∃ a c n, vv = .slice a n c := (by obtain ⟨a, c, e, _⟩ := hv.shape; exact ⟨_, _, _, e⟩)); (obtain ⟨a4, c4, n4, rfl⟩ : ∃ a c n, vl = .slice a n c := (by obtain ⟨a, c, e, _⟩ := hl.shape; exact ⟨_, _, _, e⟩)); clear ht hv hl hnv hnl hpt hrb)
    | (go_at_call 16; refine (HTW.out _ HS.out.mod).mono ?_; (rintro e w2 ⟨vo', rfl, hm2, ho2⟩); have HD1 := Lib.hid (HS.out.next hm2 (fun _ f => f.elim)); have HOR := Lib.hid ho2; clear hm2 ho2))
  obtain ⟨ze, hze⟩ : ∃ ze, ze = (doG (ns.map Node.x) ⟨kind, ops, v, k, d⟩).2.e := ⟨_, rfl⟩
  obtain ⟨za, hza⟩ : ∃ za, za = (doG (ns.map Node.x) ⟨kind, ops, v, k, d⟩).2.at_ := ⟨_, rfl⟩
  simp only [← hze, ← hza]
  refine bodyPost_ret (v := .agg #[.int .i64 (ze : Int), .int .i64 (za : Int), .slice a3 n3 c3, .slice a4 n4 c4]) (by simp [results, Tryz.results12, go_sem, r0, r1, r2, r3]) rfl ?_
  obtain ⟨ht, m⟩ := ret_turned (HT3.out.1.keep HD1.out.mod (Mod.refl _ _)) HRB.out (Nat.le_succ _) (.int .i64 (ze : Int)) (.int .i64 (za : Int)) (.slice a3 n3 c3) (.slice a4 n4 c4)
  exact ⟨.slice a3 n3 c3, .slice a4 n4 c4, ns', by rw [hze, hza], ht, HT3.out.2.1.mod m (HT3.out.2.1.off_box HRB.out (by decide)), HT3.out.2.2.mod m (HT3.out.2.2.off_box HRB.out (by decide)), fun b hb => Nat.le_trans HD1.out.mod.size (HN3.out.1 b hb), fun b hb => Nat.le_trans HD1.out.mod.size (HN3.out.2 b hb), HPT3.out.mod m (HT3.out.2.1.off_box HRB.out (by decide))⟩
end Go.Proofs.YtbgjbikpenefoaaGreatDoor
