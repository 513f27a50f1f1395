/- Lemmas for the claim, in one text: YZ, YAA, YW, YKVx, YO, YX, G1. -/
import Derived.Test.YtbgjbikpenefoaaDoorYV
import Derived.Test.YtbgjbikpenefoaaDoorIA
import Derived.Test.YtbgjbikpenefoaaDoorM16
import Derived.Test.YtbgjbikpenefoaaDoorYM
import Derived.Test.YtbgjbikpenefoaaDoorY1
import Derived.Test.YtbgjbikpenefoaaDoorM08
import Derived.Test.YtbgjbikpenefoaaDoorM02
import Derived.Test.YtbgjbikpenefoaaDoorA
import Derived.Test.YtbgjbikpenefoaaDoorM10

/- YZ: what is needed of it (by shake.py). -/

/- YZ, as far as the seat goes. -/
/- gussetref03.TwinReq, walked. -/
namespace Go.Proofs.YtbgjbikpenefoaaDoor
set_option linter.unusedVariables false
set_option linter.unusedSimpArgs false
open Go.RowKit
theorem infoOp : (Tryd.prog.info? 41).map (fun i => (i.zero, i.size, i.bytes)) = some (some (.agg #[.int .u8 0, .int .u32 0, .int .u32 0, .int .u8 0, .int .u8 0, .int .i64 0, zval]), 7, 48) := by kernel_rfl
theorem fresh_segG {w w2 : World} {t : TypeId} {size : Nat} {v : Value} {n n0 : Nat} {xs : List Value} (hn : w.heap.size = n0)
    (hs : Seg w2 t size v (0 + n) ([] ++ xs)) (hg : (w.alloc (.cells #[] t)).grownBy w2 (Value.ownBlock (.slice (some ⟨n0, 0, none⟩) 0 0)))
    (ho : v.ownBlock = Value.ownBlock (.slice (some ⟨n0, 0, none⟩) 0 0) ∨ v.ownBlock = some (w.alloc (.cells #[] t)).heap.size) : Seg w2 t size v n xs ∧ Mod (fun _ => False) w w2 ∧ ∀ b, v.ownBlock = some b → n0 ≤ b := by
  subst hn
  refine ⟨by simpa using hs, ((Mod.refl _ w).alloc _).grown hg (fun b hb hlt => ?_), fun b hb => ?_⟩
  · simp [Value.ownBlock] at hb; omega
  · rcases ho with e | e
    · rw [e] at hb; simp [Value.ownBlock] at hb; omega
    · rw [e] at hb; simp at hb; omega
theorem empty7 (w : World) (t : TypeId) {n0 : Nat} (hn : w.heap.size = n0) : Seg (w.alloc (.cells #[] t)) t 7 (.slice (some ⟨n0, 0, none⟩) 0 0) 0 [] := by
  subst hn
  have := Seg.lit (e := t) (size := 7) w #[] 0 rfl (by decide) (by simp)
  exact this
theorem ocells_ones (l : List Opr) : ∀ u ∈ ocells l, u.oneCell' = true := by
  intro u hu
  unfold ocells at hu
  obtain ⟨x, _, hx⟩ := List.mem_flatMap.1 hu
  simp [Opr.cells, Val.cells] at hx
  rcases hx with rfl | rfl | rfl | rfl | rfl | rfl | rfl <;> rfl
set_option maxRecDepth 100000 in
set_option maxHeartbeats 2000000 in
theorem twinreq_any (r : Rqt) (vo : Value) (w : World) (ho : ORd w vo r.ops) (hn : r.ops.length * 48 ≤ 140737488355328) :
    Calls Tryd.prog 10 #[rqV r vo] w fun e w' => ∃ vo', e = .returned (rqV r vo') ∧ Mod (fun _ => False) w w' ∧ ORd w' vo' r.ops := by
  obtain ⟨kind, ops, v, k, d⟩ := r
  have HF := Lib.hid ho.fits
  have HR := Lib.hid ho.row
  obtain ⟨a, c, rfl, -⟩ := ho.row.shape
  obtain ⟨n, hnn⟩ : ∃ n, n = ops.length := ⟨_, rfl⟩
  have HN := Lib.hid hnn
  simp only [rqV, ← hnn] at HR hn ⊢
  have HB := Lib.hid hn
  obtain ⟨i0, hi, hz0, hz1, hz2⟩ := info_parts infoOp
  have HI : Hid (Tryd.prog.info? 41 = some i0 ∧ i0.zero = some (.agg #[.int .u8 0, .int .u32 0, .int .u32 0, .int .u8 0, .int .u8 0, .int .i64 0, zval]) ∧ i0.size = 7 ∧ i0.bytes = 48) := ⟨hi, hz0, hz1, hz2⟩
  clear hi hz0 hz1 hz2 ho hnn hn
  go_enter Tryd.func10, Tryd.ntmps10
  go_upto_region 1 with fail
  obtain ⟨W1, hW1⟩ : ∃ W1, W1 = (w.alloc (.cells #[.int .u8 (kind : Int), .slice a n c, .int .u32 (v : Int), .int .i64 k, .int .i64 d] 29)).alloc (.cells #[.int .u8 0, .slice none 0 0, .int .u32 0, .int .i64 0, .int .i64 0] 29) := ⟨_, rfl⟩
  have hm1 : Mod (fun _ => False) w W1 := by rw [hW1]; exact ((Mod.refl _ _).alloc _).alloc _
  have hb1 : W1.heap[w.heap.size]? = some (.cells #[.int .u8 (kind : Int), .slice a n c, .int .u32 (v : Int), .int .i64 k, .int .i64 d] 29 (0, 0)) := by rw [hW1]; exact heap_alloc_old (heap_alloc_new' w _)
  have hr1 : W1.heap[w.heap.size + 1]? = some (.cells #[.int .u8 0, .slice none 0 0, .int .u32 0, .int .i64 0, .int .i64 0] 29 (0, 0)) := by
    rw [hW1]
    have h := heap_alloc_new' (w.alloc (.cells #[.int .u8 (kind : Int), .slice a n c, .int .u32 (v : Int), .int .i64 k, .int .i64 d] 29)) (.cells #[.int .u8 0, .slice none 0 0, .int .u32 0, .int .i64 0, .int .i64 0] 29)
    simpa using h
  have hz1 : W1.heap.size = w.heap.size + 1 + 1 := by rw [hW1]; simp
  rw [← hW1]
  have HM1 := Lib.hid hm1
  have HB1 := Lib.hid hb1
  have HT1 := Lib.hid hr1
  have HE := Lib.hid (empty7 W1 41 rfl)
  have HR0 := Lib.hid ((HR.out.keep hm1).keep ((Mod.refl _ _).alloc (.cells #[] 41)))
  have HZ := Lib.hid hz1
  have b1 := cell_of_row hb1 1
  have zb := lt_of_block hb1
  simp at b1
  clear hW1 hm1 hb1 hr1 hz1
  go_wp2_with (at_builtin; refine wpList_append_seg rfl (.tmp 3) (.tmp 5) 26 rfl i0 _ 7 48 Tryd.underlying26 HI.out.1 HI.out.2.1 HI.out.2.2.1 HI.out.2.2.2 rfl (by decide) rfl HE.out _ n _ rfl (HR0.out.src (ocells_ones _)) (by have := HB.out; unfold maxLen; omega) (by have := HB.out; omega) ?_; intro v3 w3 hs3 hg3 ho3; (obtain ⟨hsg, hmd, hown⟩ := fresh_segG rfl hs3 hg3 ho3); (obtain ⟨a3, c3, rfl, -⟩ := hsg.shape); have HS3 := Lib.hid (And.intro hsg (And.intro hmd hown)); have hb3 := hmd.heap HB1.out (fun f => f); have hr3 := hmd.heap HT1.out (fun f => f); have y0 := cell_of_row hb3 0; have y1 := cell_of_row hb3 1; have y2 := cell_of_row hb3 2; have y3 := cell_of_row hb3 3; have y4 := cell_of_row hb3 4; have y1f := free_of_row hb3 1; have q0 := cell_of_row hr3 0; have q1 := cell_of_row hr3 1; have q2 := cell_of_row hr3 2; have q3 := cell_of_row hr3 3; have q4 := cell_of_row hr3 4; have q0f := free_of_row hr3 0; have q1f := free_of_row hr3 1; have q2f := free_of_row hr3 2; have q3f := free_of_row hr3 3; have q4f := free_of_row hr3 4; have z1 := lt_of_block hb3; have z2 := lt_of_block hr3; simp at y0 y1 y2 y3 y4 q0 q1 q2 q3 q4; clear hs3 hg3 ho3 hsg hmd hown hb3 hr3)
  refine bodyPost_ret (v := .agg #[.int .u8 (kind : Int), .slice a3 n c3, .int .u32 (v : Int), .int .i64 k, .int .i64 d]) (by simp [results, Tryd.results10, go_sem, q0, q1, q2, q3, q4]) rfl ?_
  have m : Mod (fun k => k = w.heap.size ∨ k = w.heap.size + 1) w3 _ := ((((((Mod.refl (fun k => k = w.heap.size ∨ k = w.heap.size + 1) w3).setCell (p := ⟨w.heap.size, 1, none⟩) (fun _ => .inl rfl) (.slice a3 n c3)).setCell (p := ⟨w.heap.size + 1, 0, none⟩) (fun _ => .inr rfl) (.int .u8 (kind : Int))).setCell (p := ⟨w.heap.size + 1, 1, none⟩) (fun _ => .inr rfl) (.slice a3 n c3)).setCell (p := ⟨w.heap.size + 1, 2, none⟩) (fun _ => .inr rfl) (.int .u32 (v : Int))).setCell (p := ⟨w.heap.size + 1, 3, none⟩) (fun _ => .inr rfl) (.int .i64 k)).setCell (p := ⟨w.heap.size + 1, 4, none⟩) (fun _ => .inr rfl) (.int .i64 d)
  have hs := HS3.out.1.mod m (fun b hb e => by have := HS3.out.2.2 b hb; have := HZ.out; omega)
  refine ⟨.slice a3 n c3, rfl, (HM1.out.trans HS3.out.2.1).trans' m (fun i hi e => by omega), ?_, HF.out⟩
  rw [HN.out] at hs ⊢
  exact hs.rdS
end Go.Proofs.YtbgjbikpenefoaaDoor

/- YAA: what is needed of it (by shake.py). -/

/- YAA, as far as the seat goes. -/
/- gussetlaw03.do: a request on a copy of its own. -/
namespace Go.Proofs.YtbgjbikpenefoaaDoor
set_option linter.unusedVariables false
set_option linter.unusedSimpArgs false
open Go.RowKit
set_option maxRecDepth 100000 in
set_option maxHeartbeats 2000000 in
theorem ldo_any (g bm : Nat) (ns : List Node) (r : Rqt) (vo : Value) (w : World) (hp : PG w g bm ns) (hL : Good (ns.map Node.x)) (ho : ORd w vo r.ops) (hvb : r.v < 4294967296) (hg : ErrT w) (hn : r.ops.length * 48 ≤ 140737488355328) :
    Calls Tryd.prog 6 #[.pointer (some ⟨g, 0, none⟩), rqV r vo] w (DoA g bm ns r w) := by
  have HP := Lib.hid hp
  obtain ⟨kind, ops, v, k, d⟩ := r
  obtain ⟨a, c, rfl, -⟩ := ho.row.shape
  have HTW : Hid (∀ w', Mod (fun _ => False) w w' → Calls Tryd.prog 10 #[rqV ⟨kind, ops, v, k, d⟩ (.slice a ops.length c)] w' fun e w'' => ∃ vo', e = .returned (rqV ⟨kind, ops, v, k, d⟩ vo') ∧ Mod (fun _ => False) w' w'' ∧ ORd w'' vo' ops) := Lib.hid (fun w' m => twinreq_any _ _ w' (ho.keep m) hn)
  have HDO : Hid (∀ w' vo', Mod (fun _ => False) w w' → ORd w' vo' ops → Calls Tryd.prog 8 #[.pointer (some ⟨g, 0, none⟩), rqV ⟨kind, ops, v, k, d⟩ vo'] w' (DoA g bm ns ⟨kind, ops, v, k, d⟩ w')) := Lib.hid (fun w' vo' m h => gdo_any g bm ns _ vo' w' (hp.keep m) hL h hvb (hg.keep m (fun f => f)))
  obtain ⟨n, hnn⟩ : ∃ n, n = ops.length := ⟨_, rfl⟩
  simp only [rqV, ← hnn] at HTW HDO ⊢
  have HS := Lib.hid (DoAt.start w (.int .u8 (kind : Int)) (.slice a n c) (.int .u32 (v : Int)) (.int .i64 k) (.int .i64 d))
  clear hp hL ho hvb hg hn hnn
  go_enter Tryd.func6, Tryd.ntmps6
  go_wp2_with (first
    | (go_at_call 8; refine (HDO.out _ _ HD1.out.mod HOR.out).mono ?_; (rintro e w3 ⟨vv, vl, ns', rfl, ht, hv, hl, hnv, hnl, hpt⟩); have HPT3 := Lib.hid hpt; have HT3 := Lib.hid (And.intro ht (And.intro hv hl)); have HN3 := Lib.hid (And.intro hnv hnl); have hrb := (HP.out.keep HD1.out.mod).nm.box ht.mod HD1.out.ret; have HRB := Lib.hid hrb; have r0 := cell_of_row hrb 0; have r1 := cell_of_row hrb 1; have r2 := cell_of_row hrb 2; have r3 := cell_of_row hrb 3; have f0 := free_of_row hrb 0; have f1 := free_of_row hrb 1; have f2 := free_of_row hrb 2; have f3 := free_of_row hrb 3; have zr := lt_of_block hrb; simp at r0 r1 r2 r3; (obtain ⟨a3, c3, n3, rfl⟩ : ∃ a c n, vv = .slice a n c := (by obtain ⟨a, c, e, _⟩ := hv.shape; exact ⟨_, _, _, e⟩)); (obtain ⟨a4, c4, n4, rfl⟩ : ∃ a c n, vl = .slice a n c := (by obtain ⟨a, c, e, _⟩ := hl.shape; exact ⟨_, _, _, e⟩)); clear ht hv hl hnv hnl hpt hrb)
    | (go_at_call 10; refine (HTW.out _ HS.out.mod).mono ?_; (rintro e w2 ⟨vo', rfl, hm2, ho2⟩); have HD1 := Lib.hid (HS.out.next hm2 (fun _ f => f.elim)); have HOR := Lib.hid ho2; clear hm2 ho2))
  obtain ⟨ze, hze⟩ : ∃ ze, ze = (doG (ns.map Node.x) ⟨kind, ops, v, k, d⟩).2.e := ⟨_, rfl⟩
  obtain ⟨za, hza⟩ : ∃ za, za = (doG (ns.map Node.x) ⟨kind, ops, v, k, d⟩).2.at_ := ⟨_, rfl⟩
  simp only [← hze, ← hza]
  refine bodyPost_ret (v := .agg #[.int .i64 (ze : Int), .int .i64 (za : Int), .slice a3 n3 c3, .slice a4 n4 c4]) (by simp [results, Tryd.results6, go_sem, r0, r1, r2, r3]) rfl ?_
  obtain ⟨ht, m⟩ := ret_turned (HT3.out.1.keep HD1.out.mod (Mod.refl _ _)) HRB.out (Nat.le_succ _) (.int .i64 (ze : Int)) (.int .i64 (za : Int)) (.slice a3 n3 c3) (.slice a4 n4 c4)
  exact ⟨.slice a3 n3 c3, .slice a4 n4 c4, ns', by rw [hze, hza], ht, HT3.out.2.1.mod m (HT3.out.2.1.off_box HRB.out (by decide)), HT3.out.2.2.mod m (HT3.out.2.2.off_box HRB.out (by decide)), fun b hb => Nat.le_trans HD1.out.mod.size (HN3.out.1 b hb), fun b hb => Nat.le_trans HD1.out.mod.size (HN3.out.2 b hb), HPT3.out.mod m (HT3.out.2.1.off_box HRB.out (by decide))⟩
end Go.Proofs.YtbgjbikpenefoaaDoor

/- YW: what is needed of it (by shake.py). -/

/- YW, as far as the seat goes. -/
/- graph.Vertex, walked. (Printed by gen_vertex.py.) -/
namespace Go.Proofs.YtbgjbikpenefoaaDoor
set_option linter.unusedVariables false
set_option linter.unusedSimpArgs false
open Go.RowKit Go.Maps
theorem NAt.half {w w' : World} {n : Node} (h : NAt w n) (m : Mod (fun _ => False) w w') {v : Nat} (hv : v < 4294967296) :
    (Instr.lookup 74 (.map (some n.me)) (.int .u32 (v : Int)) false).run Tryd.prog w' = .ok (valO (entX n.x.halves v)) w' := by
  have := (h.edges.keep m).get Tryd.underlying27 Tryd.underlying74 (zero_val w') (u32key hv)
  rw [getL_pents] at this
  rw [this, valO_getD]
end Go.Proofs.YtbgjbikpenefoaaDoor

/- YKVx: what is needed of it (by shake.py). -/

/- YKVx, as far as the seat goes. -/
/- maps.Keys at map[uint32]*graph.vertex: an iterator that keeps its word. (Printed by genkeys.py.) -/
namespace Go.Proofs.YtbgjbikpenefoaaDoor
set_option linter.unusedVariables false
open Go.RowKit Go.Maps
set_option maxRecDepth 100000 in
set_option maxHeartbeats 2000000 in
theorem keysStopVx (Bm b : Nat) (es : Ents) (w : World) (hBm : Bm < w.heap.size) (hm : w.cell? ⟨Bm, 0, none⟩ = some (.map (some b))) (hU : UMap Tryd.prog 27 .u32 w b es) :
    SeqStops Fence.wide 4 Tryd.prog 20 #[.pointer (some ⟨Bm, 0, none⟩)] (keyV .u32) (fun ss => ss.Perm (es.map (·.1))) (fun _ => True) es.length w := by
  intro l J Jx W hW hJ _ hY h0
  have hm' : W.cell? ⟨Bm, 0, none⟩ = some (.map (some b)) := (hW.cell (p := ⟨Bm, 0, none⟩) hBm).trans hm
  have hown : W.ownsMap Tryd.prog 27 rawE b es.length (entsD .u32 es) := by
    have hbl := hU.lt
    obtain ⟨xs, clock, hb, Ft, hs, hD⟩ := hU.own
    exact ⟨xs, clock, (hW.block b hbl).trans hb, Ft, hs, hD⟩
  have hsz : Maps.size (entsD .u32 es) = es.length := entsD_size _ _
  have hri := UMap.rising hU (int_keyed Tryd.underlying27)
  refine callsIn_of_wp Tryd.func20 rfl trivial ?_ rfl
  simp only [Tryd.ntmps20, List.size_toArray, List.length_cons, List.length_nil, Nat.reduceAdd, Nat.reduceSub, Array.replicate_succ, Array.replicate_zero, List.push_toArray, List.append_toArray, List.nil_append, List.cons_append]
  have HRI := Lib.hid hri
  have HSZ := Lib.hid hsz
  have HU := Lib.hid hU
  have HW := Lib.hid hW
  clear hri hsz hm hU hW
  gi_wp2_with (first
    | (gi_at_range; refine wpListIn_range_own _ rfl _ 44 rfl 27 52 (int_keyed Tryd.underlying27) Tryd.underlying44 _ b es.length _ rfl hown ?_; intro w0 hrg0 hg0 hs0)
    | gi_in)
  go_frame
  gi_loopw [3] (fun _ wr => ∃ (left : Lit → Bool) (cnt : Nat) (ss : List Nat), wr.ranges Tryd.prog 27 rawE b W.heap.size es.length (entsD .u32 es) left cnt ∧ ss.length + cnt ≤ es.length ∧ CollU .u32 es left ss ∧ J ss wr)
    (fun _ wr => wr.rangeLeft b W.heap.size)
  case atStart =>
    exact ⟨_, _, [], hrg0, by rw [HSZ.out]; simp, CollU.start _ _, hJ [] W w0 none h0 hg0 (fun r e => by cases e)⟩
  case round =>
    obtain ⟨left, cnt, ss, hrg, hcs, hC, hJs⟩ := hrel
    gi_wp2_with (first
      | (gi_at_next; refine wpListIn_next_ranges _ rfl _ rfl 27 (int_keyed Tryd.underlying27) rawE (keyV .u32) id (fun key kl hk => by obtain ⟨x, hx, _⟩ := key_nat (by simp) Tryd.underlying27 hk; exact ⟨x, hx⟩) (fun v _ _ => ⟨v, rfl⟩) b W.heap.size es.length _ _ _ rfl hrg ?_ ?_)
      | gi_in)
    · intro hc0 hl0
      gi_wp2
      go_end0
      exact ⟨⟨_, rfl⟩, .inl ⟨ss, hC.perm HRI.out hl0, hJs⟩⟩
    · intro x c kl yd yp w2 cnt2 hkey hlk hv hat hrg2 hlt hg2 hs2 hen
      obtain ⟨x', ex, rfl, _⟩ := key_nat (by simp) Tryd.underlying27 hkey
      obtain rfl : x = x' := keyV_inj ex
      have hJ2 : J ss w2 := hJ ss wr w2 (some W.heap.size) hJs hg2 (fun r e => by cases e; exact ⟨Nat.le_refl _, hrg.iter_walk⟩)
      obtain ⟨fn, tmps, assign, body, hy, hR⟩ := hY ss x w2 hJ2 (by omega)
      clear hs2
      gi_wp2
      refine hR.mono ?_
      have hC2 := hC.step hlk hat
      rintro e W3 (⟨rfl, hJ3, hk3⟩ | ⟨rfl, hJx3⟩)
      · gi_wp2
        have hrg3 := hrg2.of_walks hk3
        go_roundw
        case rel => exact ⟨_, cnt2, ss ++ [x], hrg3, by simp; omega, hC2, hJ3⟩
        case measure => rw [hrg3.left_eq, hrg.left_eq]; exact hlt
      · gi_wp2
        refine bodyPost_ret (results_none rfl _ _ _) rfl ?_
        exact ⟨⟨_, rfl⟩, .inr ⟨ss ++ [x], trivial, hJx3⟩⟩
theorem keysVx (mb : Option Nat) (w : World) : Calls Tryd.prog 12 #[.map mb] w fun e w' => e = .returned (.func (.func 20) #[] #[.pointer (some ⟨w.heap.size, 0, none⟩)]) ∧ w' = w.alloc (.cells #[.map mb] 44) := by
  go_enter Tryd.func12, Tryd.ntmps12
  go_wp2
  go_ret
  exact ⟨rfl, rfl⟩
/-- slices.Sorted(maps.Keys(m)): the keys, rising. -/
theorem sortedKeysVx (b : Nat) (es : Ents) (w : World) (hU : UMap Tryd.prog 27 .u32 w b es) (hl : es.length < 999999) :
    Calls Tryd.prog 11 #[.func (.func 20) #[] #[.pointer (some ⟨w.heap.size, 0, none⟩)]] (w.alloc (.cells #[.map (some b)] 44)) fun e w' => ∃ v, e = .returned v ∧ SegN w w' v (es.map (·.1)) := by
  have hri := UMap.rising hU (int_keyed Tryd.underlying27)
  refine (sorted_any _ _ (enters_of Tryd.func20 (by kernel_rfl) rfl) _ _ es.length hl (fun ss h => by rw [h.length_eq, List.length_map]; exact hl) _
    (keysStopVx w.heap.size b es _ (by simp) (by rw [cell_of_row (heap_alloc_new' w _)]; rfl) (hU.keep ((Mod.refl _ w).alloc _)))).mono ?_
  rintro e w' ⟨v, ss, ts, rfl, h1, h2, h3, h4⟩
  have e1 : ts = es.map (·.1) := rising_eq (by rw [List.pairwise_map]; exact hri) (h2.trans h1) h3
  subst e1
  exact ⟨v, rfl, h4.seg, fun k hk => by have := h4.own k hk; simp at this; omega, ((Mod.refl _ w).alloc _).trans h4.mod⟩
end Go.Proofs.YtbgjbikpenefoaaDoor

/- YO: what is needed of it (by shake.py). -/

/- YO, as far as the seat goes. -/
/- graph.List, walked. -/
namespace Go.Proofs.YtbgjbikpenefoaaDoor
set_option linter.unusedVariables false
set_option linter.unusedSimpArgs false
open Go.RowKit Go.Maps
set_option maxRecDepth 100000 in
set_option maxHeartbeats 2000000 in
theorem list_any (g bm : Nat) (ns : List Node) (w : World) (hp : PG w g bm ns) (hL : Good (ns.map Node.x)) :
    Calls Tryd.prog 7 #[.pointer (some ⟨g, 0, none⟩)] w fun e w' => ∃ v, e = .returned v ∧ SegN w w' v ((ns.map Node.x).map Vtx.id) := by
  have hlen : (ns.map Node.f).length < 999999 := by
    have := hL.short
    rw [List.length_map] at this ⊢
    omega
  have hK := sortedKeysVx bm (ns.map Node.f) w hp.nm.map hlen
  have e : (ns.map Node.f).map (·.1) = (ns.map Node.x).map Vtx.id := by simp [Node.f, Function.comp_def]
  rw [e] at hK
  have HK := Lib.hid hK
  have g0 := cell_of_row hp.cell 0
  have zg := lt_of_block hp.cell
  simp at g0
  clear hp hL hlen hK e
  go_enter Tryd.func7, Tryd.ntmps7
  go_wp2_with (first
    | (go_at_call 12; refine (keysVx (some bm) w).mono ?_; (rintro e w1 ⟨rfl, rfl⟩))
    | (go_at_call 11; refine HK.out.mono ?_; (rintro e w2 ⟨v, rfl, hs⟩); have HS := Lib.hid hs; clear hs))
  go_ret
  exact ⟨_, rfl, HS.out⟩
end Go.Proofs.YtbgjbikpenefoaaDoor

/- YX: what is needed of it (by shake.py). -/

/- YX, as far as the seat goes. -/
/- graph.New: an empty graph. -/
namespace Go.Proofs.YtbgjbikpenefoaaDoor
set_option linter.unusedVariables false
open Go.RowKit Go.Maps
theorem new_pg (w : World) : Calls Tryd.prog 5 #[] w fun e w' => e = .returned (.pointer (some ⟨w.heap.size + 1, 0, none⟩)) ∧ Mod (fun _ => False) w w' ∧ PG w' (w.heap.size + 1) w.heap.size [] ∧ w.heap.size + 1 < w'.heap.size := by
  refine (new_any w).mono ?_
  rintro e w' ⟨rfl, m, h⟩
  refine ⟨rfl, m, ⟨h.cell, ⟨h.map, fun _ h => by simp at h, fun _ h => by simp at h, fun _ h => by simp at h, fun _ h => by simp at h⟩, ?_⟩, lt_of_block h.cell⟩
  rintro (e | ⟨n, hn, _⟩)
  · omega
  · simp at hn
end Go.Proofs.YtbgjbikpenefoaaDoor

/- G1: what is needed of it (by shake.py). -/

/- G1, as far as the seat goes. -/
/- Two tallies, each of its own; a vertex that lies at the bottom. -/
namespace Go.Proofs.YtbgjbikpenefoaaDoor
set_option linter.unusedVariables false
open Go.RowKit Go.Maps
section
variable {w wx wy : World} {g1 h1 n1 g2 h2 n2 : Nat} {H1 H2 H' : Names} {m m' : Nat}
end
section
variable {w wx wy : World} {o : Array Value} {g1 h1 n1 g2 h2 n2 : Nat} {H1 H2 H' : Names} {m m' : Nat}
end
def gone (id : Nat) : Vtx := ⟨id, false, [], []⟩
end Go.Proofs.YtbgjbikpenefoaaDoor
