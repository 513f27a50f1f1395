import Derived.Test.YtpigipgoopeeoaaGreatDoorMAll06
set_option linter.unusedVariables false
set_option linter.unusedSimpArgs false
namespace Go.Proofs.YtpigipgoopeeoaaGreatDoor
open Go.RowKit
open Go.RowKit
theorem cellsOf_ones (kk : IntKind) (l : List Ent) : ∀ u ∈ cellsOf kk l, u.oneCell' = true := by
 intro u hu
 simp only [cellsOf, List.mem_flatMap, Ent.cells] at hu
 obtain ⟨x, _, hx⟩ := hu
 simp at hx
 rcases hx with rfl | rfl | rfl | rfl <;> rfl
structure VRd (w : World) (vp vh : Value) (x : Vtx) : Prop where
 fits : x.Fits
 props : RdS w 4 vp x.props.length (cellsOf .u8 x.props)
 halves : RdS w 4 vh x.halves.length (cellsOf .u32 x.halves)
theorem VRd.keep {w w' : World} {vp vh : Value} {x : Vtx} (h : VRd w vp vh x) (m : Mod (fun _ => False) w w') : VRd w' vp vh x := ⟨h.fits, h.props.keep m, h.halves.keep m⟩
open Go.RowKit
open Go.RowKit
open Go.RowKit
open Go.RowKit
theorem infoProp : (Tryz.prog.info? 145).map (fun i => (i.zero, i.size, i.bytes)) = some (some (.agg #[.int .u8 0, .int .u8 0, .int .i64 0, zval]), 4, 40) := by kernel_rfl
theorem infoHalf : (Tryz.prog.info? 112).map (fun i => (i.zero, i.size, i.bytes)) = some (some (.agg #[.int .u32 0, .int .u8 0, .int .i64 0, zval]), 4, 40) := by kernel_rfl
structure VNew (w0 w : World) (vp vh : Value) (x : Vtx) : Prop where
 fits : x.Fits
 props : Seg w 145 4 vp x.props.length (cellsOf .u8 x.props)
 halves : Seg w 112 4 vh x.halves.length (cellsOf .u32 x.halves)
 newp : ∀ b, vp.ownBlock = some b → w0.heap.size ≤ b
 newh : ∀ b, vh.ownBlock = some b → w0.heap.size ≤ b
theorem VNew.rd {w0 w : World} {vp vh : Value} {x : Vtx} (h : VNew w0 w vp vh x) : VRd w vp vh x := ⟨h.fits, h.props.rdS, h.halves.rdS⟩
theorem VNew.mod {S : Nat → Prop} {w0 w w' : World} {vp vh : Value} {x : Vtx} (h : VNew w0 w vp vh x) (m : Mod S w w') (hs : ∀ b, w0.heap.size ≤ b → ¬ S b) : VNew w0 w' vp vh x :=
 ⟨h.fits, h.props.mod m (fun b hb => hs b (h.newp b hb)), h.halves.mod m (fun b hb => hs b (h.newh b hb)), h.newp, h.newh⟩
theorem VNew.keep {w0 w w' : World} {vp vh : Value} {x : Vtx} (h : VNew w0 w vp vh x) (m : Mod (fun _ => False) w w') : VNew w0 w' vp vh x := h.mod m (fun _ _ f => f)
def Twins (w : World) (x : Vtx) (e : Ending) (w' : World) : Prop := ∃ vp vh, e = .returned (.agg #[.int .u32 (x.id : Int), .bool x.there, vp, vh]) ∧ Mod (fun _ => False) w w' ∧ VNew w w' vp vh x
theorem fresh_seg {w w2 : World} {t : TypeId} {v : Value} {n n0 : Nat} {xs : List Value} (hn : w.heap.size = n0)
   (hs : Seg w2 t 4 v (0 + n) ([] ++ xs)) (hg : (w.alloc (.cells #[] t)).grownBy w2 (Value.ownBlock (.slice (some ⟨n0, 0, none⟩) 0 0)))
   (ho : v.ownBlock = Value.ownBlock (.slice (some ⟨n0, 0, none⟩) 0 0) ∨ v.ownBlock = some (w.alloc (.cells #[] t)).heap.size) : Seg w2 t 4 v n xs ∧ Mod (fun _ => False) w w2 ∧ ∀ b, v.ownBlock = some b → n0 ≤ b := by
 subst hn
 refine ⟨by simpa using hs, ((Mod.refl _ w).alloc _).grown hg (fun b hb hlt => ?_), fun b hb => ?_⟩
 · simp [Value.ownBlock] at hb; omega
 · rcases ho with e | e
   · rw [e] at hb; simp [Value.ownBlock] at hb; omega
   · rw [e] at hb; simp at hb; omega
theorem empty4 (w : World) (t : TypeId) {n0 : Nat} (hn : w.heap.size = n0) : Seg (w.alloc (.cells #[] t)) t 4 (.slice (some ⟨n0, 0, none⟩) 0 0) 0 [] := by
 subst hn
 have := Seg.lit (e := t) (size := 4) w #[] 0 rfl (by decide) (by simp)
 exact this
structure TwAt (w : World) (o : Array Value) (wx : World) : Prop where
 mod : Mod (fun _ => False) w wx
 box : wx.heap[w.heap.size]? = some (.cells o 104 (0, 0))
 ret : wx.heap[w.heap.size + 1]? = some (.cells #[.int .u32 0, .bool false, .slice none 0 0, .slice none 0 0] 104 (0, 0))
theorem TwAt.begin (w : World) (o : Array Value) : TwAt w o ((w.alloc (.cells o 104)).alloc (.cells #[.int .u32 0, .bool false, .slice none 0 0, .slice none 0 0] 104)) :=
 ⟨((Mod.refl _ _).alloc _).alloc _, heap_alloc_old (heap_alloc_new' w _), by
   have h := heap_alloc_new' (w.alloc (.cells o 104)) (.cells #[.int .u32 0, .bool false, .slice none 0 0, .slice none 0 0] 104)
   simpa using h⟩
theorem TwAt.more {w wx wy : World} {o : Array Value} (h : TwAt w o wx) (m : Mod (fun _ => False) wx wy) : TwAt w o wy := ⟨h.mod.trans m, m.heap h.box (fun f => f), m.heap h.ret (fun f => f)⟩
theorem TwAt.store {w wx : World} {o : Array Value} (h : TwAt w o wx) (j : Nat) (u : Value) : TwAt w (o.setIfInBounds j u) (wx.setCell ⟨w.heap.size, j, none⟩ u) :=
 ⟨h.mod.setCell (fun hlt => absurd hlt (by simp)) u, row_setCell h.box j u, (heap_setCell_other _ _ _ _ (by simp)).trans h.ret⟩
structure Made (w : World) (t : TypeId) (v : Value) (n : Nat) (xs : List Value) (wx : World) : Prop where
 seg : Seg wx t 4 v n xs
 own : ∀ b, v.ownBlock = some b → w.heap.size + 2 ≤ b
theorem Made.more {w wx wy : World} {t : TypeId} {v : Value} {n : Nat} {xs : List Value} {S : Nat → Prop} (h : Made w t v n xs wx) (m : Mod S wx wy) (hs : ∀ b, w.heap.size + 2 ≤ b → ¬ S b) : Made w t v n xs wy :=
 ⟨h.seg.mod m (fun b hb => hs b (h.own b hb)), h.own⟩
set_option maxRecDepth 100000 in
set_option maxHeartbeats 1000000 in
theorem twinV_any (x : Vtx) (vp vh : Value) (w : World) (hx : VRd w vp vh x) (h1 : x.props.length * 40 ≤ 140737488355328) (h2 : x.halves.length * 40 ≤ 140737488355328) :
   Calls Tryz.prog 49 #[vtxV x vp vh] w (Twins w x) := by
 obtain ⟨id, there, ps, hs⟩ := x
 have HF := Lib.hid hx.fits
 have HP := Lib.hid hx.props
 have HH := Lib.hid hx.halves
 obtain ⟨ap, cp, rfl, -⟩ := hx.props.shape
 obtain ⟨ah, ch, rfl, -⟩ := hx.halves.shape
 simp only at h1 h2 HP HH
 show Calls _ _ #[.agg #[.int .u32 (id : Int), .bool there, .slice ap ps.length cp, .slice ah hs.length ch]] w _
 clear hx
 obtain ⟨np, hnp⟩ : ∃ np, np = ps.length := ⟨_, rfl⟩
 obtain ⟨nh, hnh⟩ : ∃ nh, nh = hs.length := ⟨_, rfl⟩
 have HNP := Lib.hid hnp
 have HNH := Lib.hid hnh
 rw [← hnp] at h1 HP ⊢
 rw [← hnh] at h2 HH ⊢
 clear hnp hnh
 obtain ⟨i0, hi, hz0, hz1, hz2⟩ := info_parts infoProp
 have HI : Hid (Tryz.prog.info? 145 = some i0 ∧ i0.zero = some (.agg #[.int .u8 0, .int .u8 0, .int .i64 0, zval]) ∧ i0.size = 4 ∧ i0.bytes = 40) := ⟨hi, hz0, hz1, hz2⟩
 obtain ⟨j0, hj, hy0, hy1, hy2⟩ := info_parts infoHalf
 have HJ : Hid (Tryz.prog.info? 112 = some j0 ∧ j0.zero = some (.agg #[.int .u32 0, .int .u8 0, .int .i64 0, zval]) ∧ j0.size = 4 ∧ j0.bytes = 40) := ⟨hj, hy0, hy1, hy2⟩
 clear hi hz0 hz1 hz2 hj hy0 hy1 hy2
 go_enter Tryz.func49, Tryz.ntmps49
 go_upto_region 1 with fail
 have HT0 := Lib.hid (TwAt.begin w #[.int .u32 (id : Int), .bool there, .slice ap np cp, .slice ah nh ch])
 have HP0 := Lib.hid ((HP.out.keep (((Mod.refl _ w).alloc (.cells #[.int .u32 (id : Int), .bool there, .slice ap np cp, .slice ah nh ch] 104)).alloc (.cells #[.int .u32 0, .bool false, .slice none 0 0, .slice none 0 0] 104))).keep ((Mod.refl _ _).alloc (.cells #[] 145)))
 have HE := Lib.hid (empty4 ((w.alloc (.cells #[.int .u32 (id : Int), .bool there, .slice ap np cp, .slice ah nh ch] 104)).alloc (.cells #[.int .u32 0, .bool false, .slice none 0 0, .slice none 0 0] 104)) 145 (n0 := w.heap.size + 1 + 1) (by simp))
 go_cut [] (fun wx => ∃ vp, TwAt w #[.int .u32 (id : Int), .bool there, vp, .slice ah nh ch] wx ∧ Made w 145 vp np (cellsOf .u8 ps) wx)
 case first =>
   go_wp2_with (at_builtin; refine wpList_append_seg rfl (.tmp 3) (.tmp 5) 101 rfl i0 _ 4 40 Tryz.underlying101 HI.out.1 HI.out.2.1 HI.out.2.2.1 HI.out.2.2.2 rfl (by decide) rfl HE.out _ _ _ rfl (HP0.out.src (cellsOf_ones _ _)) (by unfold maxLen; omega) (by omega) ?_; intro v3 w3 hs3 hg3 ho3; (obtain ⟨hsg, hmd, hown⟩ := fresh_seg (by simp) hs3 hg3 ho3); (obtain ⟨a3, c3, rfl, -⟩ := hsg.shape); have HT3 := Lib.hid (HT0.out.more hmd); have HM3 : Hid (Made w 145 (.slice a3 np c3) np (cellsOf .u8 ps) w3) := ⟨hsg, fun b hb => by have := hown b hb; omega⟩; clear hs3 hg3 ho3 hsg hmd hown; have bx2 := cell_of_row HT3.out.box 2; have fr2 := free_of_row HT3.out.box 2; simp at bx2)
   go_meet
   exact ⟨_, HT3.out.store 2 _, HM3.out.more ((Mod.refl (fun k => k = w.heap.size) _).setCell (fun _ => rfl) _) (by omega)⟩
 case rest =>
   obtain ⟨vp', hta, hma⟩ := hcut
   clear HT0 HP0 HE
   have HT1 := Lib.hid hta
   have HMA := Lib.hid hma
   have HH1 := Lib.hid ((HH.out.keep hta.mod).keep ((Mod.refl _ wc).alloc (.cells #[] 112)))
   have HE1 := Lib.hid (empty4 wc 112 rfl)
   have b3 := cell_of_row hta.box 3
   simp at b3
   have zl := lt_of_block hta.box
   have zl1 : w.heap.size ≠ wc.heap.size := by omega
   have zl2 := lt_of_block hta.ret
   go_upto_region 2 with fail
   go_cut [] (fun wx => ∃ vh', TwAt w #[.int .u32 (id : Int), .bool there, vp', vh'] wx ∧ Made w 145 vp' np (cellsOf .u8 ps) wx ∧ Made w 112 vh' nh (cellsOf .u32 hs) wx)
   case first =>
     clear hta hma
     go_wp2_with (at_builtin; refine wpList_append_seg rfl (.tmp 8) (.tmp 10) 102 rfl j0 _ 4 40 Tryz.underlying102 HJ.out.1 HJ.out.2.1 HJ.out.2.2.1 HJ.out.2.2.2 rfl (by decide) rfl HE1.out _ _ _ rfl (HH1.out.src (cellsOf_ones _ _)) (by unfold maxLen; omega) (by omega) ?_; intro v3 w3 hs3 hg3 ho3; (obtain ⟨hsg, hmd, hown⟩ := fresh_seg rfl hs3 hg3 ho3); (obtain ⟨a3, c3, rfl, -⟩ := hsg.shape); have HT3 := Lib.hid (HT1.out.more hmd); have HMA3 := Lib.hid (HMA.out.more hmd (fun _ _ f => f)); have HM3 : Hid (Made w 112 (.slice a3 nh c3) nh (cellsOf .u32 hs) w3) := ⟨hsg, fun b hb => by have := hown b hb; omega⟩; clear hs3 hg3 ho3 hsg hmd hown; have bx2 := cell_of_row HT3.out.box 3; have fr2 := free_of_row HT3.out.box 3; simp at bx2)
     go_meet
     exact ⟨_, HT3.out.store 3 _, HMA3.out.more ((Mod.refl (fun k => k = w.heap.size) _).setCell (fun _ => rfl) _) (by omega), HM3.out.more ((Mod.refl (fun k => k = w.heap.size) _).setCell (fun _ => rfl) _) (by omega)⟩
   case rest =>
     obtain ⟨vh', hta2, hma2, hmb2⟩ := hcut
     clear hta hma HT1 HMA HH1 HE1 b3 zl zl1 zl2
     have HFIN : Hid (∀ u0 u1 u2 u3 : Value, Mod (fun _ => False) w ((((wc.setCell ⟨w.heap.size + 1, 0, none⟩ u0).setCell ⟨w.heap.size + 1, 1, none⟩ u1).setCell ⟨w.heap.size + 1, 2, none⟩ u2).setCell ⟨w.heap.size + 1, 3, none⟩ u3) ∧ VNew w ((((wc.setCell ⟨w.heap.size + 1, 0, none⟩ u0).setCell ⟨w.heap.size + 1, 1, none⟩ u1).setCell ⟨w.heap.size + 1, 2, none⟩ u2).setCell ⟨w.heap.size + 1, 3, none⟩ u3) vp' vh' ⟨id, there, ps, hs⟩) := Lib.hid (by
       intro u0 u1 u2 u3
       have m4 : Mod (fun k => k = w.heap.size + 1) wc ((((wc.setCell ⟨w.heap.size + 1, 0, none⟩ u0).setCell ⟨w.heap.size + 1, 1, none⟩ u1).setCell ⟨w.heap.size + 1, 2, none⟩ u2).setCell ⟨w.heap.size + 1, 3, none⟩ u3) :=
         ((((Mod.refl (fun k => k = w.heap.size + 1) wc).setCell (fun _ => rfl) u0).setCell (fun _ => rfl) u1).setCell (fun _ => rfl) u2).setCell (fun _ => rfl) u3
       have ha := hma2.more m4 (by omega)
       have hb := hmb2.more m4 (by omega)
       rw [HNP.out] at ha
       rw [HNH.out] at hb
       exact ⟨hta2.mod.trans' m4 (fun i hi e => by omega), HF.out, ha.seg, hb.seg, fun b h => by have := ha.own b h; omega, fun b h => by have := hb.own b h; omega⟩)
     have HT2 := Lib.hid hta2
     have b0 := cell_of_row hta2.box 0
     have b1 := cell_of_row hta2.box 1
     have b2 := cell_of_row hta2.box 2
     have b3 := cell_of_row hta2.box 3
     have r0 := cell_of_row hta2.ret 0
     have r1 := cell_of_row hta2.ret 1
     have r2 := cell_of_row hta2.ret 2
     have r3 := cell_of_row hta2.ret 3
     have f0 := free_of_row hta2.ret 0
     have f1 := free_of_row hta2.ret 1
     have f2 := free_of_row hta2.ret 2
     have f3 := free_of_row hta2.ret 3
     simp at b0 b1 b2 b3 r0 r1 r2 r3
     obtain ⟨a2, c2, rfl, -⟩ := hma2.seg.shape
     obtain ⟨a3, c3, rfl, -⟩ := hmb2.seg.shape
     clear hta2 hma2 hmb2
     go_wp2
     exact bodyPost_ret (v := .agg #[.int .u32 (id : Int), .bool there, .slice a2 np c2, .slice a3 nh c3]) (by simp [results, Tryz.results49, go_sem, r0, r1, r2, r3]) rfl ⟨_, _, rfl, (HFIN.out _ _ _ _).1, (HFIN.out _ _ _ _).2⟩
open Go.RowKit
open Go.RowKit
open Go.RowKit
def vcells (l : List Vs) : List Value := l.flatMap Vs.cells
theorem vcells_get : ∀ (l : List Vs) (i j : Nat) (x : Vs), l[i]? = some x → j < 4 → (vcells l)[i * 4 + j]? = x.cells[j]?
 | [], i, j, x, h, _ => by simp at h
 | y :: r, 0, j, x, h, hj => by
   simp at h
   subst h
   show (y.cells ++ vcells r)[0 * 4 + j]? = _
   rw [Nat.zero_mul, Nat.zero_add, List.getElem?_append_left (by simpa [Vs.cells] using hj)]
 | y :: r, i + 1, j, x, h, hj => by
   simp at h
   show (y.cells ++ vcells r)[(i + 1) * 4 + j]? = _
   rw [List.getElem?_append_right (by simp [Vs.cells]; omega)]
   have e : (i + 1) * 4 + j - y.cells.length = i * 4 + j := by simp [Vs.cells]; omega
   rw [e]
   exact vcells_get r i j x h hj
structure LRd (w : World) (v : Value) (l : List Vs) : Prop where
 row : RdS w 4 v l.length (vcells l)
 each : ∀ s ∈ l, VRd w s.vp s.vh s.x
theorem LRd.keep {w w' : World} {v : Value} {l : List Vs} (h : LRd w v l) (m : Mod (fun _ => False) w w') : LRd w' v l := ⟨h.row.keep m, fun s hs => (h.each s hs).keep m⟩
theorem LRd.at {w : World} {v : Value} {l : List Vs} (h : LRd w v l) {i : Nat} {x : Vs} (hi : l[i]? = some x) : VRd w x.vp x.vh x.x := h.each x (List.mem_of_getElem? hi)
theorem LRd.ent {w : World} {v : Value} {l : List Vs} (h : LRd w v l) {i : Nat} {x : Vs} (hi : l[i]? = some x) {a : Option Addr} {n c : Nat} (e : v = .slice a n c) :
   ∃ b off, a = some ⟨b, off, none⟩ ∧ b < w.heap.size ∧ w.cell? ⟨b, off + i * 4, none⟩ = some (.int .u32 (x.x.id : Int)) ∧ w.cell? ⟨b, off + i * 4 + 1, none⟩ = some (.bool x.x.there) ∧ w.cell? ⟨b, off + i * 4 + 2, none⟩ = some x.vp ∧ w.cell? ⟨b, off + i * 4 + 3, none⟩ = some x.vh := by
 have g := fun j hj => vcells_get l i j x hi hj
 obtain ⟨a', c', e', -⟩ := h.row.shape
 rw [e] at e'
 injection e' with e1 e2 e3
 rw [e2] at e
 obtain ⟨b, off, ea, hb, h0⟩ := h.row.cell a c e (i * 4 + 0) (.int .u32 (x.x.id : Int)) (by rw [g 0 (by omega)]; rfl)
 obtain ⟨b1, off1, ea1, _, h1⟩ := h.row.cell a c e (i * 4 + 1) (.bool x.x.there) (by rw [g 1 (by omega)]; rfl)
 obtain ⟨b2, off2, ea2, _, h2⟩ := h.row.cell a c e (i * 4 + 2) x.vp (by rw [g 2 (by omega)]; rfl)
 obtain ⟨b3, off3, ea3, _, h3⟩ := h.row.cell a c e (i * 4 + 3) x.vh (by rw [g 3 (by omega)]; rfl)
 rw [ea] at ea1 ea2 ea3
 injection ea1 with e1; injection e1 with e1 e1'
 injection ea2 with e2; injection e2 with e2 e2'
 injection ea3 with e3; injection e3 with e3 e3'
 subst e1 e1' e2 e2' e3 e3'
 exact ⟨b, off, ea, hb, h0, by rw [Nat.add_assoc]; exact h1, by rw [Nat.add_assoc]; exact h2, by rw [Nat.add_assoc]; exact h3⟩
section
variable {w0 W : World} {g bm b5 id n : Nat} {o : Array Value}
end
open Go.RowKit
open Go.RowKit
open Go.RowKit
theorem cellsOf_snoc (k : IntKind) (l : List Ent) (x : Ent) : cellsOf k (l ++ [x]) = cellsOf k l ++ x.cells k := by simp [cellsOf]
open Go.RowKit
open Go.RowKit
def VOff (S : Nat → Prop) (s : Vs) : Prop := (∀ b, s.vp.ownBlock = some b → ¬ S b) ∧ (∀ b, s.vh.ownBlock = some b → ¬ S b)
def LOff (S : Nat → Prop) (v : Value) (l : List Vs) : Prop := (∀ b, v.ownBlock = some b → ¬ S b) ∧ ∀ s ∈ l, VOff S s
theorem VOff.mono {S T : Nat → Prop} {s : Vs} (h : VOff S s) (i : ∀ k, T k → S k) : VOff T s := ⟨fun b hb t => h.1 b hb (i b t), fun b hb t => h.2 b hb (i b t)⟩
theorem LOff.mono {S T : Nat → Prop} {v : Value} {l : List Vs} (h : LOff S v l) (i : ∀ k, T k → S k) : LOff T v l := ⟨fun b hb t => h.1 b hb (i b t), fun s hs => (h.2 s hs).mono i⟩
structure VOwn (w : World) (s : Vs) : Prop where
 fits : s.x.Fits
 props : Seg w 145 4 s.vp s.x.props.length (cellsOf .u8 s.x.props)
 halves : Seg w 112 4 s.vh s.x.halves.length (cellsOf .u32 s.x.halves)
theorem VOwn.rd {w : World} {s : Vs} (h : VOwn w s) : VRd w s.vp s.vh s.x := ⟨h.fits, h.props.rdS, h.halves.rdS⟩
theorem VOwn.mod {S : Nat → Prop} {w w' : World} {s : Vs} (h : VOwn w s) (m : Mod S w w') (o : VOff S s) : VOwn w' s := ⟨h.fits, h.props.mod m o.1, h.halves.mod m o.2⟩
theorem VOwn.lt {w : World} {s : Vs} (h : VOwn w s) : VOff (fun k => w.heap.size ≤ k) s := ⟨fun b hb t => by have := h.props.lt b hb; omega, fun b hb t => by have := h.halves.lt b hb; omega⟩
theorem VNew.vown {w0 w : World} {vp vh : Value} {x : Vtx} (h : VNew w0 w vp vh x) : VOwn w ⟨x, vp, vh⟩ := ⟨h.fits, h.props, h.halves⟩
structure LOwn (w : World) (v : Value) (l : List Vs) : Prop where
 row : Seg w 104 4 v l.length (vcells l)
 each : ∀ s ∈ l, VOwn w s
 apart : ∀ s ∈ l, VOff (fun k => v.ownBlock = some k) s
theorem LOwn.rd {w : World} {v : Value} {l : List Vs} (h : LOwn w v l) : LRd w v l := ⟨h.row.rdS, fun s hs => (h.each s hs).rd⟩
theorem LOwn.mod {S : Nat → Prop} {w w' : World} {v : Value} {l : List Vs} (h : LOwn w v l) (m : Mod S w w') (o : LOff S v l) : LOwn w' v l := ⟨h.row.mod m o.1, fun s hs => (h.each s hs).mod m (o.2 s hs), h.apart⟩
theorem LOwn.lt {w : World} {v : Value} {l : List Vs} (h : LOwn w v l) : LOff (fun k => w.heap.size ≤ k) v l := ⟨fun b hb t => by have := h.row.lt b hb; omega, fun s hs => (h.each s hs).lt⟩
theorem LOwn.nil (w : World) : LOwn w (.slice none 0 0) [] := ⟨Seg.nil _ _ _, by simp, by simp⟩
theorem off_false_l {v : Value} {l : List Vs} : LOff (fun _ => False) v l := ⟨fun _ _ f => f, fun _ _ => ⟨fun _ _ f => f, fun _ _ f => f⟩⟩
theorem vcells_snoc (l : List Vs) (s : Vs) : vcells (l ++ [s]) = vcells l ++ s.cells := by simp [vcells]
theorem infoVtx : (Tryz.prog.info? 104).map (fun i => (i.zero, i.size, i.bytes)) = some (some (.agg #[.int .u32 0, .bool false, .slice none 0 0, .slice none 0 0]), 4, 56) := by kernel_rfl
def Slim (x : Vtx) : Prop := x.props.length * 40 ≤ 140737488355328 ∧ x.halves.length * 40 ≤ 140737488355328
open Go.RowKit
theorem take_map_succ {α β : Type} (f : α → β) {l : List α} {k : Nat} {x : α} (h : l[k]? = some x) : (l.take (k + 1)).map f = (l.take k).map f ++ [f x] := by
 obtain ⟨h1, h2⟩ := List.getElem?_eq_some_iff.1 h
 rw [List.take_succ_eq_append_getElem h1, h2]; simp
open Go.RowKit
open Go.RowKit Go.Maps
section
variable {w wx wy : World} {o : Array Value} {g bh bn : Nat} {Z : Zs} {en en' : Ents} {c c' : Nat → Nat} {m m' : Nat}
end
theorem RdS.ent2 {w : World} {kk : IntKind} {v : Value} {n : Nat} {l : List Ent} (h : RdS w 4 v n (cellsOf kk l)) {i : Nat} {x : Ent} (hi : l[i]? = some x) {a : Option Addr} {c : Nat} (e : v = .slice a n c) :
   ∃ b off, a = some ⟨b, off, none⟩ ∧ b < w.heap.size ∧ w.cell? ⟨b, off + i * 4, none⟩ = some (.int kk (x.key : Int)) ∧ w.cell? ⟨b, off + i * 4 + 1, none⟩ = some (.int .u8 (x.val.k : Int)) ∧ w.cell? ⟨b, off + i * 4 + 2, none⟩ = some (.int .i64 x.val.n) ∧ w.cell? ⟨b, off + i * 4 + 3, none⟩ = some (.string x.val.s) := h.ent hi e
open Go.RowKit
theorem vcells_drop (l : List Vs) (k : Nat) : (vcells l).drop (k * 4) = vcells (l.drop k) := by
 induction l generalizing k with
 | nil => simp [vcells]
 | cons s r ih =>
   cases k with
   | zero => simp
   | succ k =>
     have : vcells (s :: r) = s.cells ++ vcells r := by simp [vcells]
     rw [this, show (k + 1) * 4 = 4 + k * 4 by omega, ← List.drop_drop, List.drop_left' (by rfl), List.drop_succ_cons, ih]
theorem vcells_take (l : List Vs) (k : Nat) : (vcells l).take (k * 4) = vcells (l.take k) := by
 induction l generalizing k with
 | nil => simp [vcells]
 | cons s r ih =>
   cases k with
   | zero => simp [vcells]
   | succ k =>
     have : vcells (s :: r) = s.cells ++ vcells r := by simp [vcells]
     have h2 : vcells (s :: r.take k) = s.cells ++ vcells (r.take k) := by simp [vcells]
     rw [this, show (k + 1) * 4 = s.cells.length + k * 4 by rw [show s.cells.length = 4 from rfl]; omega, List.take_length_add_append, List.take_succ_cons, h2, ih]
theorem LRd.from {w : World} {v : Value} {l : List Vs} (h : LRd w v l) {k : Nat} (hk : k ≤ l.length) (kk : IntKind) :
   ∃ v', (Instr.slice 26 v (some (.int kk k)) none none).run Tryz.prog w = .ok v' w ∧ LRd w v' (l.drop k) := by
 obtain ⟨v', h1, h2, _⟩ := h.row.cut (by omega) (lo := k) (hi := l.length) hk (Nat.le_refl _) Tryz.underlying26 (e := 104) (by kernel_rfl) kk kk (some (.int kk k)) none (.inl rfl) (.inr ⟨rfl, rfl⟩)
 refine ⟨v', h1 _, ?_, fun s hs => h.each s (List.mem_of_mem_drop hs)⟩
 rw [List.take_of_length_le (by rw [h.row.len]; omega), vcells_drop] at h2
 simpa using h2
theorem LRd.to {w : World} {v : Value} {l : List Vs} (h : LRd w v l) {k : Nat} (hk : k ≤ l.length) (kk : IntKind) :
   ∃ v', (Instr.slice 26 v none (some (.int kk k)) none).run Tryz.prog w = .ok v' w ∧ LRd w v' (l.take k) := by
 obtain ⟨v', h1, h2, _⟩ := h.row.cut (by omega) (lo := 0) (hi := k) (Nat.zero_le _) hk Tryz.underlying26 (e := 104) (by kernel_rfl) kk kk none (some (.int kk k)) (.inr ⟨rfl, rfl⟩) (.inl rfl)
 refine ⟨v', h1 _, ?_, fun s hs => h.each s (List.mem_of_mem_take hs)⟩
 rw [vcells_take] at h2
 simpa [List.length_take, Nat.min_eq_left hk] using h2
theorem cellsOf_take (q : IntKind) (l : List Ent) (k : Nat) : (cellsOf q l).take (k * 4) = cellsOf q (l.take k) := by
 induction l generalizing k with
 | nil => simp [cellsOf]
 | cons s r ih =>
   cases k with
   | zero => simp [cellsOf]
   | succ k =>
     have : cellsOf q (s :: r) = s.cells q ++ cellsOf q r := by simp [cellsOf]
     have h2 : cellsOf q (s :: r.take k) = s.cells q ++ cellsOf q (r.take k) := by simp [cellsOf]
     rw [this, show (k + 1) * 4 = (s.cells q).length + k * 4 by rw [show (s.cells q).length = 4 from rfl]; omega, List.take_length_add_append, List.take_succ_cons, h2, ih]
theorem VRd.cut {w : World} {vp vh : Value} {x : Vtx} (h : VRd w vp vh x) {k : Nat} (hk : k ≤ x.halves.length) (kk : IntKind) :
   ∃ v', (∀ wx, (Instr.slice 102 vh none (some (.int kk k)) none).run Tryz.prog wx = .ok v' wx) ∧ VRd w vp v' ⟨x.id, x.there, x.props, x.halves.take k⟩ := by
 obtain ⟨v', h1, h2, _⟩ := h.halves.cut (by omega) (lo := 0) (hi := k) (Nat.zero_le _) hk Tryz.underlying102 (e := 112) (by kernel_rfl) kk kk none (some (.int kk k)) (.inr ⟨rfl, rfl⟩) (.inl rfl)
 refine ⟨v', h1, ⟨h.fits.id, h.fits.props, fun p hp => h.fits.halves p (List.mem_of_mem_take hp)⟩, h.props, ?_⟩
 rw [cellsOf_take] at h2
 simpa [List.length_take, Nat.min_eq_left hk] using h2
open Go.RowKit Go.Maps
open Go.RowKit
open Go.RowKit
open Go.RowKit
theorem num_any (v : Nat) (w : World) : Calls Tryz.prog 48 #[.int .u32 (v : Int)] w fun e w' => e = .returned (.bool (numB v)) ∧ w = w' := by
 by_cases h1 : 0 < v
 · have t1 : (0 : Int) < (v : Int) := by omega
   by_cases h2 : v ≤ 40
   · have t2 : (v : Int) ≤ 40 := by omega
     have HF : Hid (numB v = true) := Lib.hid (by simp [numB]; omega)
     clear h1 h2
     go_enter Tryz.func48, Tryz.ntmps48
     go_wp2
     go_ret
     exact ⟨ret_bool HF.out.symm, rfl⟩
   · have t2 : ¬ (v : Int) ≤ 40 := by omega
     have HF : Hid (numB v = false) := Lib.hid (by simp [numB]; omega)
     clear h1 h2
     go_enter Tryz.func48, Tryz.ntmps48
     go_wp2
     go_ret
     exact ⟨ret_bool HF.out.symm, rfl⟩
 · have t1 : ¬ (0 : Int) < (v : Int) := by omega
   have HF : Hid (numB v = false) := Lib.hid (by simp [numB]; omega)
   clear h1
   go_enter Tryz.func48, Tryz.ntmps48
   go_wp2
   go_ret
   exact ⟨ret_bool HF.out.symm, rfl⟩
set_option maxRecDepth 100000 in
set_option maxHeartbeats 2000000 in
theorem form_text (s : ByteArray) (hs : s.size ≤ 8) (w : World) : Calls Tryz.prog 68 #[.agg #[.int .u8 2, .int .i64 0, .string s]] w fun e w' => e = .returned (.bool (textB s)) ∧ Mod (fun _ => False) w w' := by
 go_enter Tryz.func68, Tryz.ntmps68
 go_wp2
 go_loopw [3] (fun i wr => ∃ k : Nat, i = .int .i64 k ∧ k ≤ s.size ∧ (s.data.toList.take k).all (fun c => letterB c.toNat) = true ∧ Mod (fun _ => False) w wr ∧ wr.heap[w.heap.size]? = some (.cells #[.int .u8 2, .int .i64 0, .string s] 77 (0, 0))) (fun i _ => s.size - (intOf i).toNat)
 case atStart => exact ⟨0, rfl, Nat.zero_le _, rfl, (Mod.refl _ _).alloc _, heap_alloc_new' w _⟩
 case round =>
   obtain ⟨k, rfl, hk, hall, hm, hbx⟩ := hrel
   have HA := Lib.hid hall
   have HM := Lib.hid hm
   have HBX := Lib.hid hbx
   have b2 := cell_of_row hbx 2
   simp at b2
   clear hall hm hbx
   by_cases hlt : k < s.size
   · have hts : s.data.toList.take (k + 1) = s.data.toList.take k ++ [s[k]] := by
       rw [List.take_succ_eq_append_getElem (by simpa using hlt)]; rfl
     have HS : Hid (∀ b, letterB s[k].toNat = b → (s.data.toList.take (k + 1)).all (fun c => letterB c.toNat) = b) := Lib.hid (by
       intro b hb
       rw [hts, List.all_append, HA.out]
       simp [hb])
     have hb256 := UInt8.toNat_lt s[k]
     have HBAD : Hid (letterB s[k].toNat = false → textB s = false) := Lib.hid (fun hb => by
       unfold textB
       have h1 := HS.out false hb
       have h2 : s.data.toList.all (fun c => letterB c.toNat) = false := by
         rw [List.all_eq_false] at h1 ⊢
         obtain ⟨c, hc, hn⟩ := h1
         exact ⟨c, List.mem_of_mem_take hc, hn⟩
       rw [h2]; rfl)
     clear hts
     have HGO : Hid (letterB s[k].toNat = true → (s.data.toList.take (k + 1)).all (fun c => letterB c.toNat) = true) := Lib.hid (fun hb => HS.out true hb)
     clear HS
     have hcs : (97 ≤ s[k].toNat ∧ s[k].toNat ≤ 122) ∨ (122 < s[k].toNat) ∨ (48 ≤ s[k].toNat ∧ s[k].toNat ≤ 57) ∨ (57 < s[k].toNat ∧ s[k].toNat < 97) ∨ (s[k].toNat = 46) ∨ (s[k].toNat = 45) ∨ (s[k].toNat < 48 ∧ s[k].toNat ≠ 46 ∧ s[k].toNat ≠ 45) := by omega
     rcases hcs with hcs | hcs | hcs | hcs | hcs | hcs | hcs
     · have t1 : (97 : Int) ≤ (s[k].toNat : Int) := by omega
       have t2 : (s[k].toNat : Int) ≤ 122 := by omega
       have t3 : (48 : Int) ≤ (s[k].toNat : Int) := by omega
       have t4 : ¬ (s[k].toNat : Int) ≤ 57 := by omega
       have HL : Hid (letterB s[k].toNat = true) := Lib.hid (by simp [letterB]; omega)
       clear hcs
       go_wp2
       go_roundw
       case rel => exact ⟨k + 1, by go_num, by omega, HGO.out HL.out, HM.out, HBX.out⟩
       case measure => simp [intOf]; omega
     · have t1 : (97 : Int) ≤ (s[k].toNat : Int) := by omega
       have t2 : ¬ (s[k].toNat : Int) ≤ 122 := by omega
       have t3 : (48 : Int) ≤ (s[k].toNat : Int) := by omega
       have t4 : ¬ (s[k].toNat : Int) ≤ 57 := by omega
       have t5 : ((s[k].toNat : Int) != 46) = true := by simp; omega
       have t6 : ((s[k].toNat : Int) != 45) = true := by simp; omega
       have HL : Hid (letterB s[k].toNat = false) := Lib.hid (by simp [letterB]; omega)
       clear hcs
       go_wp2
       go_ret
       exact ⟨ret_bool (HBAD.out HL.out).symm, HM.out⟩
     · have t1 : ¬ (97 : Int) ≤ (s[k].toNat : Int) := by omega
       have t3 : (48 : Int) ≤ (s[k].toNat : Int) := by omega
       have t4 : (s[k].toNat : Int) ≤ 57 := by omega
       have HL : Hid (letterB s[k].toNat = true) := Lib.hid (by simp [letterB]; omega)
       clear hcs
       go_wp2
       go_roundw
       case rel => exact ⟨k + 1, by go_num, by omega, HGO.out HL.out, HM.out, HBX.out⟩
       case measure => simp [intOf]; omega
     · have t1 : ¬ (97 : Int) ≤ (s[k].toNat : Int) := by omega
       have t3 : (48 : Int) ≤ (s[k].toNat : Int) := by omega
       have t4 : ¬ (s[k].toNat : Int) ≤ 57 := by omega
       have t5 : ((s[k].toNat : Int) != 46) = true := by simp; omega
       have t6 : ((s[k].toNat : Int) != 45) = true := by simp; omega
       have HL : Hid (letterB s[k].toNat = false) := Lib.hid (by simp [letterB]; omega)
       clear hcs
       go_wp2
       go_ret
       exact ⟨ret_bool (HBAD.out HL.out).symm, HM.out⟩
     · have t1 : ¬ (97 : Int) ≤ (s[k].toNat : Int) := by omega
       have t3 : ¬ (48 : Int) ≤ (s[k].toNat : Int) := by omega
       have t5 : ((s[k].toNat : Int) != 46) = false := by simp; omega
       have HL : Hid (letterB s[k].toNat = true) := Lib.hid (by simp [letterB]; omega)
       clear hcs
       go_wp2
       go_roundw
       case rel => exact ⟨k + 1, by go_num, by omega, HGO.out HL.out, HM.out, HBX.out⟩
       case measure => simp [intOf]; omega
     · have t1 : ¬ (97 : Int) ≤ (s[k].toNat : Int) := by omega
       have t3 : ¬ (48 : Int) ≤ (s[k].toNat : Int) := by omega
       have t5 : ((s[k].toNat : Int) != 46) = true := by simp; omega
       have t6 : ((s[k].toNat : Int) != 45) = false := by simp; omega
       have HL : Hid (letterB s[k].toNat = true) := Lib.hid (by simp [letterB]; omega)
       clear hcs
       go_wp2
       go_roundw
       case rel => exact ⟨k + 1, by go_num, by omega, HGO.out HL.out, HM.out, HBX.out⟩
       case measure => simp [intOf]; omega
     · have t1 : ¬ (97 : Int) ≤ (s[k].toNat : Int) := by omega
       have t3 : ¬ (48 : Int) ≤ (s[k].toNat : Int) := by omega
       have t5 : ((s[k].toNat : Int) != 46) = true := by simp; omega
       have t6 : ((s[k].toNat : Int) != 45) = true := by simp; omega
       have HL : Hid (letterB s[k].toNat = false) := Lib.hid (by simp [letterB]; omega)
       clear hcs
       go_wp2
       go_ret
       exact ⟨ret_bool (HBAD.out HL.out).symm, HM.out⟩
   · have HF : Hid (textB s = true) := Lib.hid (by
       unfold textB
       have h1 := HA.out
       rw [List.take_of_length_le (by simp; omega)] at h1
       rw [h1]
       simp
       omega)
     go_wp2
     go_ret
     exact ⟨ret_bool HF.out.symm, HM.out⟩
open Go.RowKit
theorem empty_size (s : ByteArray) : s.toList.isEmpty = decide (s.size = 0) := by
 rw [ByteArray.toList_eq]
 obtain ⟨⟨l⟩⟩ := s
 cases l <;> simp [ByteArray.size]
set_option maxRecDepth 100000 in
set_option maxHeartbeats 2000000 in
theorem form_any (v : Val) (hv : v.Fits) (w : World) : Calls Tryz.prog 68 #[v.v] w fun e w' => e = .returned (.bool v.ok) ∧ Mod (fun _ => False) w w' := by
 obtain ⟨k, n, s⟩ := v
 have hk := hv.k
 simp only at hk
 have hk0 : (0 : Int) ≤ (k : Int) := by omega
 have hk1 : (k : Int) < 256 := by omega
 show Calls _ _ #[.agg #[.int .u8 (k : Int), .int .i64 n, .string s]] w _
 by_cases h2 : k = 2
 · subst h2
   by_cases hn : n = 0
   · subst hn
     by_cases h8 : s.size ≤ 8
     · refine (form_text s h8 w).mono ?_
       rintro e w' ⟨rfl, hm⟩
       exact ⟨ret_bool (by simp [Val.ok]), hm⟩
     · have t8 : (8 : Int) < (s.size : Int) := by omega
       have HF : Hid (Val.ok ⟨2, 0, s⟩ = false) := Lib.hid (by simp [Val.ok, textB, h8])
       clear h8 hv
       go_enter Tryz.func68, Tryz.ntmps68
       go_wp2
       go_ret
       exact ⟨ret_bool HF.out.symm, (Mod.refl _ _).alloc _⟩
   · have n2 : (n != 0) = true := by simp [hn]
     have HF : Hid (Val.ok ⟨2, n, s⟩ = false) := Lib.hid (by simp [Val.ok, hn])
     clear hn hv
     go_enter Tryz.func68, Tryz.ntmps68
     go_wp2
     go_ret
     exact ⟨ret_bool HF.out.symm, (Mod.refl _ _).alloc _⟩
 · have k2 : ((k : Int) != 2) = true := by simp; omega
   by_cases h0 : k = 0
   · subst h0
     obtain ⟨eb, heb⟩ : ∃ eb, eb = s.toList.isEmpty := ⟨_, rfl⟩
     by_cases hn : n = 0
     · subst hn
       have HF : Hid (Val.ok ⟨0, 0, s⟩ = eb) := Lib.hid (by simp [Val.ok, heb])
       cases eb
       all_goals
         have es := heb.symm
         clear heb h2 hv
         go_enter Tryz.func68, Tryz.ntmps68
         go_wp2
         go_ret
         exact ⟨ret_bool (by rw [HF.out]), (Mod.refl _ _).alloc _⟩
     · have n1 : (n == 0) = false := by simp [hn]
       have HF : Hid (Val.ok ⟨0, n, s⟩ = false) := Lib.hid (by simp [Val.ok, hn])
       clear heb h2 hv
       go_enter Tryz.func68, Tryz.ntmps68
       go_wp2
       go_ret
       exact ⟨ret_bool HF.out.symm, (Mod.refl _ _).alloc _⟩
   · have k0 : ((k : Int) == 0) = false := by simp; omega
     by_cases h1 : k = 1
     · subst h1
       clear h2 h0 hv
       have HE : Hid (Val.ok ⟨1, n, s⟩ = decide (s.size = 0)) := Lib.hid (by simp [Val.ok, empty_size])
       by_cases hs0 : s.size = 0
       · have HF : Hid (Val.ok ⟨1, n, s⟩ = true) := Lib.hid (by rw [HE.out]; simp [hs0])
         have t0 : ((s.size : Int) == 0) = true := by simp [hs0]
         go_enter Tryz.func68, Tryz.ntmps68
         go_wp2
         go_ret
         exact ⟨ret_bool (by rw [HF.out]), (Mod.refl _ _).alloc _⟩
       · have HF : Hid (Val.ok ⟨1, n, s⟩ = false) := Lib.hid (by rw [HE.out]; simp [hs0])
         have t0 : ((s.size : Int) == 0) = false := by simp [hs0]
         go_enter Tryz.func68, Tryz.ntmps68
         go_wp2
         go_ret
         exact ⟨ret_bool (by rw [HF.out]), (Mod.refl _ _).alloc _⟩
     · have k1 : ((k : Int) == 1) = false := by simp; omega
       have HF : Hid (Val.ok ⟨k, n, s⟩ = false) := Lib.hid (by simp [Val.ok, h0, h1, h2])
       clear hv h0 h1 h2
       go_enter Tryz.func68, Tryz.ntmps68
       go_wp2
       go_ret
       exact ⟨ret_bool HF.out.symm, (Mod.refl _ _).alloc _⟩
end Go.Proofs.YtpigipgoopeeoaaGreatDoor
