import Derived.Test.YtpigipgoopeeoaaGreatDoorMAll23
set_option linter.unusedVariables false
set_option linter.unusedSimpArgs false
namespace Go.Proofs.YtpigipgoopeeoaaGreatDoor
open Go.RowKit
theorem infoOp : (Tryz.prog.info? 79).map (fun i => (i.zero, i.size, i.bytes)) = some (some (.agg #[.int .u8 0, .int .u32 0, .int .u32 0, .int .u8 0, .int .u8 0, .int .i64 0, zval]), 7, 48) := by kernel_rfl
theorem fresh_segG {w w2 : World} {t : TypeId} {size : Nat} {v : Value} {n n0 : Nat} {xs : List Value} (hn : w.heap.size = n0)
   (hs : Seg w2 t size v (0 + n) ([] ++ xs)) (hg : (w.alloc (.cells #[] t)).grownBy w2 (Value.ownBlock (.slice (some ⟨n0, 0, none⟩) 0 0)))
   (ho : v.ownBlock = Value.ownBlock (.slice (some ⟨n0, 0, none⟩) 0 0) ∨ v.ownBlock = some (w.alloc (.cells #[] t)).heap.size) : Seg w2 t size v n xs ∧ Mod (fun _ => False) w w2 ∧ ∀ b, v.ownBlock = some b → n0 ≤ b := by
 subst hn
 refine ⟨by simpa using hs, ((Mod.refl _ w).alloc _).grown hg (fun b hb hlt => ?_), fun b hb => ?_⟩
 · simp [Value.ownBlock] at hb; omega
 · rcases ho with e | e
   · rw [e] at hb; simp [Value.ownBlock] at hb; omega
   · rw [e] at hb; simp at hb; omega
theorem empty7 (w : World) (t : TypeId) {n0 : Nat} (hn : w.heap.size = n0) : Seg (w.alloc (.cells #[] t)) t 7 (.slice (some ⟨n0, 0, none⟩) 0 0) 0 [] := by
 subst hn
 have := Seg.lit (e := t) (size := 7) w #[] 0 rfl (by decide) (by simp)
 exact this
theorem ocells_ones (l : List Opr) : ∀ u ∈ ocells l, u.oneCell' = true := by
 intro u hu
 unfold ocells at hu
 obtain ⟨x, _, hx⟩ := List.mem_flatMap.1 hu
 simp [Opr.cells, Val.cells] at hx
 rcases hx with rfl | rfl | rfl | rfl | rfl | rfl | rfl <;> rfl
set_option maxRecDepth 100000 in
set_option maxHeartbeats 2000000 in
theorem twinreq_new (r : Rqt) (vo : Value) (w : World) (ho : ORd w vo r.ops) (hn : r.ops.length * 48 ≤ 140737488355328) :
   Calls Tryz.prog 38 #[rqV r vo] w fun e w' => ∃ vo', e = .returned (rqV r vo') ∧ Mod (fun _ => False) w w' ∧ Seg w' 79 7 vo' r.ops.length (ocells r.ops) ∧ ∀ b, vo'.ownBlock = some b → w.heap.size ≤ b := by
 obtain ⟨kind, ops, v, k, d⟩ := r
 have HF := Lib.hid ho.fits
 have HR := Lib.hid ho.row
 obtain ⟨a, c, rfl, -⟩ := ho.row.shape
 obtain ⟨n, hnn⟩ : ∃ n, n = ops.length := ⟨_, rfl⟩
 have HN := Lib.hid hnn
 simp only [rqV, ← hnn] at HR hn ⊢
 have HB := Lib.hid hn
 obtain ⟨i0, hi, hz0, hz1, hz2⟩ := info_parts infoOp
 have HI : Hid (Tryz.prog.info? 79 = some i0 ∧ i0.zero = some (.agg #[.int .u8 0, .int .u32 0, .int .u32 0, .int .u8 0, .int .u8 0, .int .i64 0, zval]) ∧ i0.size = 7 ∧ i0.bytes = 48) := ⟨hi, hz0, hz1, hz2⟩
 clear hi hz0 hz1 hz2 ho hnn hn
 go_enter Tryz.func38, Tryz.ntmps38
 go_upto_region 1 with fail
 obtain ⟨W1, hW1⟩ : ∃ W1, W1 = (w.alloc (.cells #[.int .u8 (kind : Int), .slice a n c, .int .u32 (v : Int), .int .i64 k, .int .i64 d] 34)).alloc (.cells #[.int .u8 0, .slice none 0 0, .int .u32 0, .int .i64 0, .int .i64 0] 34) := ⟨_, rfl⟩
 have hm1 : Mod (fun _ => False) w W1 := by rw [hW1]; exact ((Mod.refl _ _).alloc _).alloc _
 have hb1 : W1.heap[w.heap.size]? = some (.cells #[.int .u8 (kind : Int), .slice a n c, .int .u32 (v : Int), .int .i64 k, .int .i64 d] 34 (0, 0)) := by rw [hW1]; exact heap_alloc_old (heap_alloc_new' w _)
 have hr1 : W1.heap[w.heap.size + 1]? = some (.cells #[.int .u8 0, .slice none 0 0, .int .u32 0, .int .i64 0, .int .i64 0] 34 (0, 0)) := by
   rw [hW1]
   have h := heap_alloc_new' (w.alloc (.cells #[.int .u8 (kind : Int), .slice a n c, .int .u32 (v : Int), .int .i64 k, .int .i64 d] 34)) (.cells #[.int .u8 0, .slice none 0 0, .int .u32 0, .int .i64 0, .int .i64 0] 34)
   simpa using h
 have hz1 : W1.heap.size = w.heap.size + 1 + 1 := by rw [hW1]; simp
 rw [← hW1]
 have HM1 := Lib.hid hm1
 have HB1 := Lib.hid hb1
 have HT1 := Lib.hid hr1
 have HE := Lib.hid (empty7 W1 79 rfl)
 have HR0 := Lib.hid ((HR.out.keep hm1).keep ((Mod.refl _ _).alloc (.cells #[] 79)))
 have HZ := Lib.hid hz1
 have b1 := cell_of_row hb1 1
 have zb := lt_of_block hb1
 simp at b1
 clear hW1 hm1 hb1 hr1 hz1
 go_wp2_with (at_builtin; refine wpList_append_seg rfl (.tmp 3) (.tmp 5) 31 rfl i0 _ 7 48 Tryz.underlying31 HI.out.1 HI.out.2.1 HI.out.2.2.1 HI.out.2.2.2 rfl (by decide) rfl HE.out _ n _ rfl (HR0.out.src (ocells_ones _)) (by have := HB.out; unfold maxLen; omega) (by have := HB.out; omega) ?_; intro v3 w3 hs3 hg3 ho3; (obtain ⟨hsg, hmd, hown⟩ := fresh_segG rfl hs3 hg3 ho3); (obtain ⟨a3, c3, rfl, -⟩ := hsg.shape); have HS3 := Lib.hid (And.intro hsg (And.intro hmd hown)); have hb3 := hmd.heap HB1.out (fun f => f); have hr3 := hmd.heap HT1.out (fun f => f); have y0 := cell_of_row hb3 0; have y1 := cell_of_row hb3 1; have y2 := cell_of_row hb3 2; have y3 := cell_of_row hb3 3; have y4 := cell_of_row hb3 4; have y1f := free_of_row hb3 1; have q0 := cell_of_row hr3 0; have q1 := cell_of_row hr3 1; have q2 := cell_of_row hr3 2; have q3 := cell_of_row hr3 3; have q4 := cell_of_row hr3 4; have q0f := free_of_row hr3 0; have q1f := free_of_row hr3 1; have q2f := free_of_row hr3 2; have q3f := free_of_row hr3 3; have q4f := free_of_row hr3 4; have z1 := lt_of_block hb3; have z2 := lt_of_block hr3; simp at y0 y1 y2 y3 y4 q0 q1 q2 q3 q4; clear hs3 hg3 ho3 hsg hmd hown hb3 hr3)
 refine bodyPost_ret (v := .agg #[.int .u8 (kind : Int), .slice a3 n c3, .int .u32 (v : Int), .int .i64 k, .int .i64 d]) (by simp [results, Tryz.results38, go_sem, q0, q1, q2, q3, q4]) rfl ?_
 have m : Mod (fun k => k = w.heap.size ∨ k = w.heap.size + 1) w3 _ := ((((((Mod.refl (fun k => k = w.heap.size ∨ k = w.heap.size + 1) w3).setCell (p := ⟨w.heap.size, 1, none⟩) (fun _ => .inl rfl) (.slice a3 n c3)).setCell (p := ⟨w.heap.size + 1, 0, none⟩) (fun _ => .inr rfl) (.int .u8 (kind : Int))).setCell (p := ⟨w.heap.size + 1, 1, none⟩) (fun _ => .inr rfl) (.slice a3 n c3)).setCell (p := ⟨w.heap.size + 1, 2, none⟩) (fun _ => .inr rfl) (.int .u32 (v : Int))).setCell (p := ⟨w.heap.size + 1, 3, none⟩) (fun _ => .inr rfl) (.int .i64 k)).setCell (p := ⟨w.heap.size + 1, 4, none⟩) (fun _ => .inr rfl) (.int .i64 d)
 have hs := HS3.out.1.mod m (fun b hb e => by have := HS3.out.2.2 b hb; have := HZ.out; omega)
 refine ⟨.slice a3 n c3, rfl, (HM1.out.trans HS3.out.2.1).trans' m (fun i hi e => by omega), ?_, fun b hb => Nat.le_trans HM1.out.size (HS3.out.2.2 b hb)⟩
 rw [HN.out] at hs ⊢
 exact hs
open Go.RowKit Go.Maps
theorem NAt.half {w w' : World} {n : Node} (h : NAt w n) (m : Mod (fun _ => False) w w') {v : Nat} (hv : v < 4294967296) :
   (Instr.lookup 141 (.map (some n.me)) (.int .u32 (v : Int)) false).run Tryz.prog w' = .ok (valO (entX n.x.halves v)) w' := by
 have := (h.edges.keep m).get Tryz.underlying32 Tryz.underlying141 (zero_val w') (u32key hv)
 rw [getL_pents] at this
 rw [this, valO_getD]
open Go.RowKit Go.Maps
theorem new_pg (w : World) : Calls Tryz.prog 40 #[] w fun e w' => e = .returned (.pointer (some ⟨w.heap.size + 1, 0, none⟩)) ∧ Mod (fun _ => False) w w' ∧ PG w' (w.heap.size + 1) w.heap.size [] ∧ w.heap.size + 1 < w'.heap.size := by
 refine (new_any w).mono ?_
 rintro e w' ⟨rfl, m, h⟩
 refine ⟨rfl, m, ⟨h.cell, ⟨h.map, fun _ h => by simp at h, fun _ h => by simp at h, fun _ h => by simp at h, fun _ h => by simp at h⟩, ?_⟩, lt_of_block h.cell⟩
 rintro (e | ⟨n, hn, _⟩)
 · omega
 · simp at hn
open Go.RowKit Go.Maps
section
variable {w wx wy : World} {g1 h1 n1 g2 h2 n2 : Nat} {H1 H2 H' : Names} {m m' : Nat}
end
section
variable {w wx wy : World} {o : Array Value} {g1 h1 n1 g2 h2 n2 : Nat} {H1 H2 H' : Names} {m m' : Nat}
end
def gone (id : Nat) : Vtx := ⟨id, false, [], []⟩
open Go.RowKit Go.ChangeShapes Go.WideShapes Go.ChangeAt
structure Qs where
 r : Rqt
 vo : Value
def Qs.cells (q : Qs) : List Value := [.int .u8 (q.r.kind : Int), q.vo, .int .u32 (q.r.v : Int), .int .i64 q.r.k, .int .i64 q.r.dest]
structure Qs.Small (q : Qs) : Prop where
 fits : q.r.Fits
 size : q.r.ops.length * 48 ≤ 140737488355328
instance : Inhabited Opr := ⟨⟨0, 0, 0, 0, noVal⟩⟩
instance : Inhabited Qs := ⟨⟨⟨0, [], 0, 0, 0⟩, .slice none 0 0⟩⟩
section
variable {H : Type} {enc : TypeId × Value → H} {W : World} {base : Nat} {v : Value} {d : DataW H} {p : List MemPlace}
set_option maxRecDepth 100000 in
theorem in_op (n : Nat) (cs : List Value) (y : DataW H × List MemPlace) (hl : cs.length = 7) (h : DataW.trod enc Tryz.prog W 0 (fun _ => true) true n 79 cs = some y) (hw : okW 79 y.1) : ∃ x : Opr, cs = x.cells ∧ x.Fits := by
 obtain ⟨xs, n', _, _, _, hlen, hf⟩ := DataW.trod_struct Tryz.underlying79 h
 match cs, hl with
 | [c0, c1, c2, c3, c4, c5, c6], _ =>
   have c8 : Tryz.prog.cellsOf 5 = 1 := by kernel_rfl
   have cu : Tryz.prog.cellsOf 32 = 1 := by kernel_rfl
   have cv : Tryz.prog.cellsOf 77 = 3 := by kernel_rfl
   match xs, hlen with
   | [y0, y1, y2, y3, y4], _ =>
     have h0 : DataW.trod enc Tryz.prog W 0 (fun _ => true) true n' 5 ((List.drop 0 [c0, c1, c2, c3, c4, c5, c6]).take (Tryz.prog.cellsOf 5)) = some y0 := hf 0 _ rfl
     have h1 : DataW.trod enc Tryz.prog W 0 (fun _ => true) true n' 32 ((List.drop 1 [c0, c1, c2, c3, c4, c5, c6]).take (Tryz.prog.cellsOf 32)) = some y1 := hf 1 _ rfl
     have h2 : DataW.trod enc Tryz.prog W 0 (fun _ => true) true n' 32 ((List.drop 2 [c0, c1, c2, c3, c4, c5, c6]).take (Tryz.prog.cellsOf 32)) = some y2 := hf 2 _ rfl
     have h3 : DataW.trod enc Tryz.prog W 0 (fun _ => true) true n' 5 ((List.drop 3 [c0, c1, c2, c3, c4, c5, c6]).take (Tryz.prog.cellsOf 5)) = some y3 := hf 3 _ rfl
     have h4 : DataW.trod enc Tryz.prog W 0 (fun _ => true) true n' 77 ((List.drop 4 [c0, c1, c2, c3, c4, c5, c6]).take (Tryz.prog.cellsOf 77)) = some y4 := hf 4 _ rfl
     simp only [c8, cu, cv, List.drop_zero, List.take_succ_cons, List.take_zero, List.drop_succ_cons] at h0 h1 h2 h3 h4
     obtain ⟨a0, e0, _, w0⟩ := DataW.trod_int Tryz.underlying5 h0
     obtain ⟨a1, e1, _, w1⟩ := DataW.trod_int Tryz.underlying32 h1
     obtain ⟨a2, e2, _, w2⟩ := DataW.trod_int Tryz.underlying32 h2
     obtain ⟨a3, e3, _, w3⟩ := DataW.trod_int Tryz.underlying5 h3
     obtain ⟨v, e4, hv⟩ := in_val n' _ _ rfl h4
     simp only [List.cons.injEq, and_true] at e0 e1 e2 e3 e4
     have b0 := bounds_u8 w0
     have b1 := bounds_u32 w1
     have b2 := bounds_u32 w2
     have b3 := bounds_u8 w3
     obtain ⟨k0, rfl⟩ := Int.eq_ofNat_of_zero_le b0.1
     obtain ⟨k1, rfl⟩ := Int.eq_ofNat_of_zero_le b1.1
     obtain ⟨k2, rfl⟩ := Int.eq_ofNat_of_zero_le b2.1
     obtain ⟨k3, rfl⟩ := Int.eq_ofNat_of_zero_le b3.1
     obtain ⟨rfl, rfl, rfl⟩ := e4
     subst e0 e1 e2 e3
     exact ⟨⟨k0, k1, k2, k3, v⟩, rfl, by simp only; omega, by simp only; omega, by simp only; omega, by simp only; omega, hv⟩
set_option maxRecDepth 100000 in
theorem in_req (n : Nat) (cs : List Value) (y : DataW H × List MemPlace) (hl : cs.length = 5) (h : DataW.trod enc Tryz.prog W 0 (fun _ => true) true n 34 cs = some y) (hw : okW 34 y.1) : ∃ q : Qs, cs = q.cells ∧ ORd W q.vo q.r.ops ∧ q.Small := by
 obtain ⟨xs, n', _, hx, _, hlen, hf⟩ := DataW.trod_struct Tryz.underlying34 h
 match cs, hl with
 | [c0, c1, c2, c3, c4], _ =>
   have c8 : Tryz.prog.cellsOf 5 = 1 := by kernel_rfl
   have co : Tryz.prog.cellsOf 31 = 1 := by kernel_rfl
   have cu : Tryz.prog.cellsOf 32 = 1 := by kernel_rfl
   have ci : Tryz.prog.cellsOf 3 = 1 := by kernel_rfl
   match xs, hlen with
   | [y0, y1, y2, y3, y4], _ =>
     have h0 : DataW.trod enc Tryz.prog W 0 (fun _ => true) true n' 5 ((List.drop 0 [c0, c1, c2, c3, c4]).take (Tryz.prog.cellsOf 5)) = some y0 := hf 0 _ rfl
     have h1 : DataW.trod enc Tryz.prog W 0 (fun _ => true) true n' 31 ((List.drop 1 [c0, c1, c2, c3, c4]).take (Tryz.prog.cellsOf 31)) = some y1 := hf 1 _ rfl
     have h2 : DataW.trod enc Tryz.prog W 0 (fun _ => true) true n' 32 ((List.drop 2 [c0, c1, c2, c3, c4]).take (Tryz.prog.cellsOf 32)) = some y2 := hf 2 _ rfl
     have h3 : DataW.trod enc Tryz.prog W 0 (fun _ => true) true n' 3 ((List.drop 3 [c0, c1, c2, c3, c4]).take (Tryz.prog.cellsOf 3)) = some y3 := hf 3 _ rfl
     have h4 : DataW.trod enc Tryz.prog W 0 (fun _ => true) true n' 3 ((List.drop 4 [c0, c1, c2, c3, c4]).take (Tryz.prog.cellsOf 3)) = some y4 := hf 4 _ rfl
     simp only [c8, co, cu, ci, List.drop_zero, List.take_succ_cons, List.take_zero, List.drop_succ_cons] at h0 h1 h2 h3 h4
     have hy : y.1 = .agg ([y0, y1, y2, y3, y4].map (·.1)) := by rw [hx]
     rw [hy] at hw
     have w1 : okW 31 y1.1 := okW_part Tryz.underlying34 hw (j := 1) rfl rfl
     obtain ⟨a0, e0, _, u0⟩ := DataW.trod_int Tryz.underlying5 h0
     obtain ⟨a2, e2, _, u2⟩ := DataW.trod_int Tryz.underlying32 h2
     obtain ⟨a3, e3, _, u3⟩ := DataW.trod_int Tryz.underlying3 h3
     obtain ⟨a4, e4, _, u4⟩ := DataW.trod_int Tryz.underlying3 h4
     obtain ⟨os, ro, go, zo⟩ := in_slice Tryz.underlying31 (size := 7) (by kernel_rfl) (by omega) Opr.cells opr_cells Opr.Fits in_op h1 w1
     simp only [List.cons.injEq, and_true] at e0 e2 e3 e4
     have b0 := bounds_u8 u0
     have b2 := bounds_u32 u2
     have b3 := bounds_i64 u3
     have b4 := bounds_i64 u4
     have bo : Tryz.prog.bytesOf 79 = 48 := by kernel_rfl
     rw [bo] at zo
     have zo' : os.length * 48 ≤ 140737488355328 := Nat.le_trans zo (by decide)
     obtain ⟨k0, rfl⟩ := Int.eq_ofNat_of_zero_le b0.1
     obtain ⟨k2, rfl⟩ := Int.eq_ofNat_of_zero_le b2.1
     subst e0 e2 e3 e4
     exact ⟨⟨⟨k0, os, k2, a3, a4⟩, c1⟩, rfl, ⟨ro, go⟩, ⟨⟨by simp only; omega, by simp only; omega, by simp only; omega, by simp only; omega⟩, zo'⟩⟩
end
open Go.RowKit Go.Maps
structure Kept (w w' : World) : Prop where
 size : w.heap.size ≤ w'.heap.size
 cell : ∀ {a : Addr} {v : Value}, w.cell? a = some v → w'.cell? a = some v
 box : ∀ {b : Nat} {cs : Array Value} {t : TypeId} {f : Nat × Nat}, w.heap[b]? = some (.cells cs t f) → w'.heap[b]? = some (.cells cs t f)
theorem Kept.refl (w : World) : Kept w w := ⟨Nat.le_refl _, fun h => h, fun h => h⟩
theorem Kept.of {w w' : World} {bm : Nat} {ns : List Node} (h : NM w bm ns) (m : Mod (FootM bm ns) w w') : Kept w w' := ⟨m.size, fun hc => h.cell m hc, fun hb => h.box m hb⟩
theorem Kept.mod {w w' : World} (m : Mod (fun _ => False) w w') : Kept w w' := ⟨m.size, fun h => m.cell h, fun h => m.heap h (fun f => f)⟩
theorem Kept.trans {w w1 w2 : World} (a : Kept w w1) (b : Kept w1 w2) : Kept w w2 := ⟨Nat.le_trans a.size b.size, fun h => b.cell (a.cell h), fun h => b.box (a.box h)⟩
theorem Kept.then {w w1 w2 : World} (a : Kept w w1) (m : Mod (fun _ => False) w1 w2) : Kept w w2 := a.trans (.mod m)
theorem Kept.rds {w w' : World} (h : Kept w w') {size n : Nat} {v : Value} {us : List Value} (hr : RdS w size v n us) : RdS w' size v n us :=
 ⟨hr.len, hr.shape, fun a c e j u hu => by
   obtain ⟨b, off, e1, hb, hc⟩ := hr.cell a c e j u hu
   exact ⟨b, off, e1, Nat.lt_of_lt_of_le hb h.size, h.cell hc⟩⟩
theorem Kept.seg {w w' : World} (h : Kept w w') {t : TypeId} {size n : Nat} {v : Value} {us : List Value} (hr : Seg w t size v n us) : Seg w' t size v n us := by
 refine ⟨hr.1, hr.2.1, ?_⟩
 rcases hr.2.2 with hn | ⟨g, off, cap, cur, rfl, hg, r⟩
 · exact .inl hn
 · exact .inr ⟨g, off, cap, cur, rfl, h.box hg, r⟩
theorem Kept.ord {w w' : World} (h : Kept w w') {v : Value} {l : List Opr} (hr : ORd w v l) : ORd w' v l := ⟨h.rds hr.row, hr.fits⟩
structure GSt (w : World) (g bm : Nat) (L : Gr) (wr : World) : Prop where
 ex : ∃ ns, PG wr g bm ns ∧ ns.map Node.x = L ∧ ∀ b, FootN bm ns b → w.heap.size ≤ b
 good : Good L
 mod : Mod (fun _ => False) w wr
theorem GSt.keep {w wr wx : World} {g bm : Nat} {L : Gr} (h : GSt w g bm L wr) (m : Mod (fun _ => False) wr wx) : GSt w g bm L wx := by
 obtain ⟨ns, h1, h2, h3⟩ := h.ex
 exact ⟨⟨ns, h1.keep m, h2, h3⟩, h.good, h.mod.trans m⟩
theorem GSt.more {S : Nat → Prop} {w wr wx : World} {g bm : Nat} {L : Gr} (h : GSt w g bm L wr) (m : Mod S wr wx) (hlo : ∀ b, S b → w.heap.size ≤ b) (hoff : ∀ b, S b → ∃ cs t f, wr.heap[b]? = some (.cells cs t f) ∧ t ≠ 143 ∧ t ≠ 127) : GSt w g bm L wx := by
 obtain ⟨ns, h1, h2, h3⟩ := h.ex
 refine ⟨⟨ns, h1.mod m (fun b hb s => ?_), h2, h3⟩, h.good, h.mod.trans' m (fun i hi s => by have := hlo i s; omega)⟩
 obtain ⟨cs, t, f, hc, e1, e2⟩ := hoff b s
 exact h1.off_box hc e1 e2 hb
theorem GSt.turned {w wr w' : World} {g bm : Nat} {L L' : Gr} {ns ns' : List Node} {off : Nat → Prop} (h : GSt w g bm L wr) (hlo : ∀ b, FootN bm ns b → w.heap.size ≤ b) (ht : Turned g bm ns L' off wr w' ns') (hL : Good L') : GSt w g bm L' w' := by
 have hs := h.mod.size
 refine ⟨⟨ns', ht.pg, ht.is, fun b hb => ?_⟩, hL, h.mod.trans' ht.mod (fun i hi f => ?_)⟩
 · rcases ht.new b hb with e | e
   · exact hlo b e
   · omega
 · have := hlo i f.foot; omega
structure SDo (w : World) (g bm : Nat) (L : Gr) (r : Rqt) (wr : World) (vv vl : Value) (w' : World) : Prop where
 st : GSt w g bm (doG L r).1 w'
 kept : Kept wr w'
 vals : Seg w' 77 3 vv (doG L r).2.vals.length (vvcells (doG L r).2.vals)
 list : Seg w' 32 1 vl (doG L r).2.list.length ((doG L r).2.list.map (keyV .u32))
 newv : ∀ b, vv.ownBlock = some b → wr.heap.size ≤ b
 newl : ∀ b, vl.ownBlock = some b → wr.heap.size ≤ b
 pat : PatB valP w' vv
def SDoE (w : World) (g bm : Nat) (L : Gr) (r : Rqt) (wr : World) (e : Ending) (w' : World) : Prop :=
 ∃ vv vl, e = .returned (.agg #[.int .i64 ((doG L r).2.e : Nat), .int .i64 ((doG L r).2.at_ : Nat), vv, vl]) ∧ SDo w g bm L r wr vv vl w'
theorem DoA.sdo {w wr : World} {g bm : Nat} {L : Gr} {ns : List Node} {r : Rqt} (h : GSt w g bm L wr) (hp : PG wr g bm ns) (hx : ns.map Node.x = L) (hlo : ∀ b, FootN bm ns b → w.heap.size ≤ b) {e : Ending} {w' : World} (hd : DoA g bm ns r wr e w') : SDoE w g bm L r wr e w' := by
 subst hx
 obtain ⟨vv, vl, ns', rfl, ht, hv, hl, hnv, hnl, hpt⟩ := hd
 exact ⟨vv, vl, rfl, h.turned hlo ht (Good.do h.good _), .of hp.nm ht.mod, hv, hl, hnv, hnl, hpt⟩
theorem sgdo_any (g bm : Nat) (L : Gr) (r : Rqt) (vo : Value) (w wr : World) (h : GSt w g bm L wr) (ho : ORd wr vo r.ops) (hvb : r.v < 4294967296) (hg : ErrT w) :
   Calls Tryz.prog 41 #[.pointer (some ⟨g, 0, none⟩), rqV r vo] wr (SDoE w g bm L r wr) := by
 obtain ⟨ns, hp, hx, hlo⟩ := h.ex
 have hL : Good (ns.map Node.x) := by rw [hx]; exact h.good
 exact (gdo_any g bm ns r vo wr hp hL ho hvb (hg.keep h.mod (fun f => f))).mono (fun e w' hd => hd.sdo h hp hx hlo)
theorem snew_any (w wr : World) (m : Mod (fun _ => False) w wr) : Calls Tryz.prog 40 #[] wr fun e w' => e = .returned (.pointer (some ⟨wr.heap.size + 1, 0, none⟩)) ∧ Mod (fun _ => False) wr w' ∧ GSt w (wr.heap.size + 1) wr.heap.size [] w' ∧ wr.heap.size + 1 < w'.heap.size := by
 refine (new_pg wr).mono ?_
 rintro e w' ⟨rfl, m1, hp, hz⟩
 have := m.size
 refine ⟨rfl, m1, ⟨⟨[], hp, rfl, fun b hb => ?_⟩, Good.nil, m.trans m1⟩, hz⟩
 rcases hb with rfl | ⟨n, hn, _⟩
 · exact this
 · simp at hn
def runG (L : Gr) (rs : List Rqt) : Gr := rs.foldl (fun L r => (doG L r).1) L
open Go.RowKit Go.Maps
def Cx.given (x : Cx) : Bool := decide (x.e = 13 ∨ x.e = 14)
def Cx.ansIs (x : Cx) (a : Ans) : Bool := decide ((a.e : Int) = x.e ∧ (a.at_ : Int) = x.p ∧ a.vals = x.vals ∧ a.list = x.list)
def ansBad (l : List Cx) (i : Nat) : Bool := match l[i]? with
 | none => false
 | some x => !x.ansIs (doG (runG [] ((l.take i).map Cx.r)) x.r).2
def sameC (a b : Cx) : Bool := decide (a.e = b.e ∧ a.p = b.p ∧ a.vals = b.vals ∧ a.list = b.list)
def meets (c : List Cx) (x : Cx) : Bool := match placeOf c x.nm with
 | none => false
 | some i => match c[i]? with
   | none => false
   | some y => decide (x.fr ≤ (i : Int)) && (decide ((i : Int) < x.to_) && (decide (y.r = x.r) && sameC y x))
def repA (c : List Cx) (x : Cx) : Bool := !x.given && !meets c x
def repB (c : List Cx) (x : Cx) : Bool := x.given && (placeOf c x.nm).isSome
def firstR (p : Cx → Bool) (l : List Cx) : Option Nat := l.findIdx? p
def pick4 (a b c d : Option Nat) : Option (Nat × Nat) := match a with
 | some i => some (1, i)
 | none => match b with
   | some i => some (2, i)
   | none => match c with
     | some i => some (3, i)
     | none => match d with
       | some i => some (4, i)
       | none => none
def verdict (c r : List Cx) : Option (Nat × Nat) := pick4 (firstI c.length (ansBad c)) (firstI c.length (numBad c)) (firstR (repA c) r) (firstR (repB c) r)
open Go.RowKit Go.Maps
theorem Cm.Rd.vo_eq {w : World} {c : Cm} (h : c.Rd w) : ∃ a k, c.vo = .slice a c.x.r.ops.length k := by
 obtain ⟨a, k, e, _⟩ := h.ops.row.shape; exact ⟨a, k, e⟩
theorem Cm.Rd.vv_eq {w : World} {c : Cm} (h : c.Rd w) : ∃ a k, c.vv = .slice a c.x.vals.length k := by
 obtain ⟨a, k, e, _⟩ := h.vals.shape; exact ⟨a, k, e⟩
theorem Cm.Rd.vl_eq {w : World} {c : Cm} (h : c.Rd w) : ∃ a k, c.vl = .slice a c.x.list.length k := by
 obtain ⟨a, k, e, _⟩ := h.list.shape; exact ⟨a, k, e⟩
theorem Kept.cm {w w' : World} {c : Cm} (h : c.Rd w) (k : Kept w w') : c.Rd w' := ⟨h.nm, h.v, k.ord h.ops, k.rds h.vals, k.rds h.list⟩
theorem Kept.crd {w w' : World} {cells : Cm → List Value} {size : Nat} {v : Value} {l : List Cm} (h : CRd cells size w v l) (k : Kept w w') : CRd cells size w' v l := ⟨k.rds h.row, fun c hc => k.cm (h.each c hc)⟩
set_option maxRecDepth 100000 in
set_option maxHeartbeats 4000000 in
theorem ans1_any (c : Cm) (g bm : Nat) (L : Gr) (w0 w : World) (bg : Nat) (hst : GSt w0 g bm L w) (hb : w.heap[bg]? = some (.cells #[.pointer (some ⟨g, 0, none⟩)] 97 (0, 0))) (hr : c.Rd w) (hg : ErrT w0) :
   Calls Tryz.prog 59 #[.agg c.c14.toArray, .pointer (some ⟨bg, 0, none⟩)] w fun e w' => e = .returned (.bool (!c.x.ansIs (doG L c.x.r).2)) ∧ GSt w0 g bm (doG L c.x.r).1 w' ∧ Kept w w' := by
 have HDO : Hid (∀ w', Mod (fun _ => False) w w' → Calls Tryz.prog 41 #[.pointer (some ⟨g, 0, none⟩), rqV c.x.r c.vo] w' (SDoE w0 g bm L c.x.r w')) := Lib.hid (fun w' m => sgdo_any g bm L c.x.r c.vo w0 w' (hst.keep m) (hr.ops.keep m) hr.v hg)
 have HSA : Hid (∀ vv' vl' w', Kept w w' → RdS w' 3 vv' (doG L c.x.r).2.vals.length (vvcells (doG L c.x.r).2.vals) → RdS w' 1 vl' (doG L c.x.r).2.list.length ((doG L c.x.r).2.list.map (keyV .u32)) → Calls Tryz.prog 30 #[.agg #[.int .i64 ((doG L c.x.r).2.e : Nat), .int .i64 ((doG L c.x.r).2.at_ : Nat), vv', vl'], .agg #[.int .i64 c.x.e, .int .i64 c.x.p, c.vv, c.vl]] w' fun en w'' => en = .returned (.bool (c.x.ansIs (doG L c.x.r).2)) ∧ Mod (fun _ => False) w' w'') := Lib.hid (fun vv' vl' w' k h1 h2 => csame_any _ _ _ _ _ c.x.vals _ c.x.list vv' vl' c.vv c.vl w' h1 (k.rds hr.vals) h2 (k.rds hr.list))
 obtain ⟨ao, co, hvo⟩ := hr.vo_eq
 obtain ⟨av, cv, hvv⟩ := hr.vv_eq
 obtain ⟨al, cl, hvl⟩ := hr.vl_eq
 obtain ⟨b, hbe⟩ : ∃ b, b = c.x.ansIs (doG L c.x.r).2 := ⟨_, rfl⟩
 rw [← hbe] at HSA ⊢
 obtain ⟨a, ha⟩ : ∃ a, a = doG L c.x.r := ⟨_, rfl⟩
 rw [← ha] at HSA ⊢
 have HDO2 : Hid (∀ w', Mod (fun _ => False) w w' → Calls Tryz.prog 41 #[.pointer (some ⟨g, 0, none⟩), rqV c.x.r c.vo] w' fun e w'' => ∃ a1 c1 n1 a2 c2 n2, e = .returned (.agg #[.int .i64 (a.2.e : Nat), .int .i64 (a.2.at_ : Nat), .slice a1 n1 c1, .slice a2 n2 c2]) ∧ GSt w0 g bm a.1 w'' ∧ Kept w' w'' ∧ RdS w'' 3 (.slice a1 n1 c1) a.2.vals.length (vvcells a.2.vals) ∧ RdS w'' 1 (.slice a2 n2 c2) a.2.list.length (a.2.list.map (keyV .u32))) := Lib.hid (fun w' m => (HDO.out w' m).mono (by
   rintro e w'' ⟨vv, vl, he, hs⟩
   subst ha
   have h1 := hs.vals.rdS
   have h2 := hs.list.rdS
   obtain ⟨a1, c1, rfl, -⟩ := h1.shape
   obtain ⟨a2, c2, rfl, -⟩ := h2.shape
   exact ⟨a1, c1, _, a2, c2, _, he, hs.st, hs.kept, h1, h2⟩))
 clear HDO ha hbe
 obtain ⟨⟨xc, xq, ⟨kind, ops, rv, rk, rd⟩, ae, ap, vals, list, fr, to_⟩, vo, vv, vl⟩ := c
 simp only at hvo hvv hvl
 subst hvo hvv hvl
 obtain ⟨no, hno⟩ : ∃ n, n = ops.length := ⟨_, rfl⟩
 obtain ⟨nv, hnv⟩ : ∃ n, n = vals.length := ⟨_, rfl⟩
 obtain ⟨nl, hnl⟩ : ∃ n, n = list.length := ⟨_, rfl⟩
 simp only [Cm.c14, rqV, ← hno, ← hnv, ← hnl] at HDO2 HSA ⊢
 have HK1 : Hid (Kept w (w.alloc (.cells #[.int .u8 0, .int .u32 0, .int .u32 0, .int .u8 (xc : Int), .int .u32 (xq : Int), .int .u8 (kind : Int), .slice ao no co, .int .u32 (rv : Int), .int .i64 rk, .int .i64 rd, .int .i64 ae, .int .i64 ap, .slice av nv cv, .slice al nl cl] 67))) := Lib.hid (.mod ((Mod.refl _ _).alloc _))
 have HM1 : Hid (Mod (fun _ => False) w (w.alloc (.cells #[.int .u8 0, .int .u32 0, .int .u32 0, .int .u8 (xc : Int), .int .u32 (xq : Int), .int .u8 (kind : Int), .slice ao no co, .int .u32 (rv : Int), .int .i64 rk, .int .i64 rd, .int .i64 ae, .int .i64 ap, .slice av nv cv, .slice al nl cl] 67))) := Lib.hid ((Mod.refl _ _).alloc _)
 have HBX : Hid ((w.alloc (.cells #[.int .u8 0, .int .u32 0, .int .u32 0, .int .u8 (xc : Int), .int .u32 (xq : Int), .int .u8 (kind : Int), .slice ao no co, .int .u32 (rv : Int), .int .i64 rk, .int .i64 rd, .int .i64 ae, .int .i64 ap, .slice av nv cv, .slice al nl cl] 67)).heap[w.heap.size]? = some (.cells #[.int .u8 0, .int .u32 0, .int .u32 0, .int .u8 (xc : Int), .int .u32 (xq : Int), .int .u8 (kind : Int), .slice ao no co, .int .u32 (rv : Int), .int .i64 rk, .int .i64 rd, .int .i64 ae, .int .i64 ap, .slice av nv cv, .slice al nl cl] 67 (0, 0))) := Lib.hid (heap_alloc_new' _ _)
 have HBG := Lib.hid hb
 have HKEEP : Hid (∀ w', Kept (w.alloc (.cells #[.int .u8 0, .int .u32 0, .int .u32 0, .int .u8 (xc : Int), .int .u32 (xq : Int), .int .u8 (kind : Int), .slice ao no co, .int .u32 (rv : Int), .int .i64 rk, .int .i64 rd, .int .i64 ae, .int .i64 ap, .slice av nv cv, .slice al nl cl] 67)) w' → (fun w' : World => w'.cell? ⟨bg, 0, none⟩ = some (.pointer (some ⟨g, 0, none⟩)) ∧ w'.cell? ⟨w.heap.size, 5, none⟩ = some (.int .u8 (kind : Int)) ∧ w'.cell? ⟨w.heap.size, 6, none⟩ = some (.slice ao no co) ∧ w'.cell? ⟨w.heap.size, 7, none⟩ = some (.int .u32 (rv : Int)) ∧ w'.cell? ⟨w.heap.size, 8, none⟩ = some (.int .i64 rk) ∧ w'.cell? ⟨w.heap.size, 9, none⟩ = some (.int .i64 rd) ∧ w'.cell? ⟨w.heap.size, 10, none⟩ = some (.int .i64 ae) ∧ w'.cell? ⟨w.heap.size, 11, none⟩ = some (.int .i64 ap) ∧ w'.cell? ⟨w.heap.size, 12, none⟩ = some (.slice av nv cv) ∧ w'.cell? ⟨w.heap.size, 13, none⟩ = some (.slice al nl cl)) w') := Lib.hid (fun w' k => by
   have h1 := k.box HBX.out
   exact ⟨cell_of_row (k.box (HK1.out.box HBG.out)) 0, cell_of_row h1 5, cell_of_row h1 6, cell_of_row h1 7, cell_of_row h1 8, cell_of_row h1 9, cell_of_row h1 10, cell_of_row h1 11, cell_of_row h1 12, cell_of_row h1 13⟩)
 have hne : bg ≠ w.heap.size := by have := lt_of_block hb; omega
 have hlt : bg < w.heap.size := lt_of_block hb
 clear hst hb hr hno hnv hnl
 go_enter Tryz.func59, Tryz.ntmps59
 go_upto_region 1 with fail
 obtain ⟨W1, hW1⟩ : ∃ W1, W1 = w.alloc (.cells #[.int .u8 0, .int .u32 0, .int .u32 0, .int .u8 (xc : Int), .int .u32 (xq : Int), .int .u8 (kind : Int), .slice ao no co, .int .u32 (rv : Int), .int .i64 rk, .int .i64 rd, .int .i64 ae, .int .i64 ap, .slice av nv cv, .slice al nl cl] 67) := ⟨_, rfl⟩
 rw [← hW1] at HK1 HM1 HBX HKEEP ⊢
 have HZW : Hid (W1.heap.size = w.heap.size + 1) := Lib.hid (by rw [hW1]; simp)
 clear hW1
 have zw : w.heap.size < W1.heap.size := by have := HZW.out; omega
 have zg : bg < W1.heap.size := by omega
 obtain ⟨c0, c1, c2, c3, c4, c5, c6, c7, c8, c9⟩ := HKEEP.out W1.drew (.mod (Mod.refl _ _).drew)
 go_wp2_with fail
 go_region_held3 (fun w' => w'.cell? ⟨bg, 0, none⟩ = some (.pointer (some ⟨g, 0, none⟩)) ∧ w'.cell? ⟨w.heap.size, 5, none⟩ = some (.int .u8 (kind : Int)) ∧ w'.cell? ⟨w.heap.size, 6, none⟩ = some (.slice ao no co) ∧ w'.cell? ⟨w.heap.size, 7, none⟩ = some (.int .u32 (rv : Int)) ∧ w'.cell? ⟨w.heap.size, 8, none⟩ = some (.int .i64 rk) ∧ w'.cell? ⟨w.heap.size, 9, none⟩ = some (.int .i64 rd) ∧ w'.cell? ⟨w.heap.size, 10, none⟩ = some (.int .i64 ae) ∧ w'.cell? ⟨w.heap.size, 11, none⟩ = some (.int .i64 ap) ∧ w'.cell? ⟨w.heap.size, 12, none⟩ = some (.slice av nv cv) ∧ w'.cell? ⟨w.heap.size, 13, none⟩ = some (.slice al nl cl))
   (first
     | go_keep
     | exact HKEEP.out _ HK4.out
     | exact HKEEP.out _ HK3.out)
   ((first
     | (have hq := HR3.out; go_at_call 30; go_loud (refine (HSA.out _ _ _ (HK1.out.trans HK3.out) HR3.out.1 HR3.out.2).mono ?_; (rintro e w4 ⟨rfl, hm4⟩); have HK4 : Hid (Kept W1 w4) := Lib.hid (HK3.out.then hm4); have HG4 := Lib.hid (HG3.out.keep hm4); clear hm4 hq))
     | (go_at_call 41; go_loud (refine (HDO2.out _ HM1.out.drew).mono ?_; (rintro e w3 ⟨a1, c1, n1, a2, c2, n2, rfl, hg3, hk3, hv3, hl3⟩); have HG3 := Lib.hid hg3; have HK3 : Hid (Kept W1 w3) := Lib.hid ((Kept.mod (Mod.refl _ _).drew).trans hk3); have HR3 := Lib.hid (And.intro hv3 hl3); clear hg3 hk3 hv3 hl3))))
 all_goals
   go_wp2
   go_ret
   exact ⟨rfl, HG4.out, HK1.out.trans HK4.out⟩
end Go.Proofs.YtpigipgoopeeoaaGreatDoor
