import Derived.Test.YtlpdifinkcjckaaGreatDoorMFw11
set_option linter.unusedVariables false
set_option linter.unusedSimpArgs false
namespace Go.Proofs.YtlpdifinkcjckaaGreatDoor
open Go.RowKit
open Go.RowKit
theorem cellsOf_ones (kk : IntKind) (l : List Ent) : ∀ u ∈ cellsOf kk l, u.oneCell' = true := by
 intro u hu
 simp only [cellsOf, List.mem_flatMap, Ent.cells] at hu
 obtain ⟨x, _, hx⟩ := hu
 simp at hx
 rcases hx with rfl | rfl | rfl | rfl <;> rfl
open Go.RowKit
open Go.RowKit
open Go.RowKit
open Go.RowKit
theorem fresh_seg {w w2 : World} {t : TypeId} {v : Value} {n n0 : Nat} {xs : List Value} (hn : w.heap.size = n0)
   (hs : Seg w2 t 4 v (0 + n) ([] ++ xs)) (hg : (w.alloc (.cells #[] t)).grownBy w2 (Value.ownBlock (.slice (some ⟨n0, 0, none⟩) 0 0)))
   (ho : v.ownBlock = Value.ownBlock (.slice (some ⟨n0, 0, none⟩) 0 0) ∨ v.ownBlock = some (w.alloc (.cells #[] t)).heap.size) : Seg w2 t 4 v n xs ∧ Mod (fun _ => False) w w2 ∧ ∀ b, v.ownBlock = some b → n0 ≤ b := by
 subst hn
 refine ⟨by simpa using hs, ((Mod.refl _ w).alloc _).grown hg (fun b hb hlt => ?_), fun b hb => ?_⟩
 · simp [Value.ownBlock] at hb; omega
 · rcases ho with e | e
   · rw [e] at hb; simp [Value.ownBlock] at hb; omega
   · rw [e] at hb; simp at hb; omega
theorem empty4 (w : World) (t : TypeId) {n0 : Nat} (hn : w.heap.size = n0) : Seg (w.alloc (.cells #[] t)) t 4 (.slice (some ⟨n0, 0, none⟩) 0 0) 0 [] := by
 subst hn
 have := Seg.lit (e := t) (size := 4) w #[] 0 rfl (by decide) (by simp)
 exact this
structure TwAt (w : World) (o : Array Value) (wx : World) : Prop where
 mod : Mod (fun _ => False) w wx
 box : wx.heap[w.heap.size]? = some (.cells o 47 (0, 0))
 ret : wx.heap[w.heap.size + 1]? = some (.cells #[.int .u32 0, .bool false, .slice none 0 0, .slice none 0 0] 47 (0, 0))
theorem TwAt.begin (w : World) (o : Array Value) : TwAt w o ((w.alloc (.cells o 47)).alloc (.cells #[.int .u32 0, .bool false, .slice none 0 0, .slice none 0 0] 47)) :=
 ⟨((Mod.refl _ _).alloc _).alloc _, heap_alloc_old (heap_alloc_new' w _), by
   have h := heap_alloc_new' (w.alloc (.cells o 47)) (.cells #[.int .u32 0, .bool false, .slice none 0 0, .slice none 0 0] 47)
   simpa using h⟩
theorem TwAt.more {w wx wy : World} {o : Array Value} (h : TwAt w o wx) (m : Mod (fun _ => False) wx wy) : TwAt w o wy := ⟨h.mod.trans m, m.heap h.box (fun f => f), m.heap h.ret (fun f => f)⟩
theorem TwAt.store {w wx : World} {o : Array Value} (h : TwAt w o wx) (j : Nat) (u : Value) : TwAt w (o.setIfInBounds j u) (wx.setCell ⟨w.heap.size, j, none⟩ u) :=
 ⟨h.mod.setCell (fun hlt => absurd hlt (by simp)) u, row_setCell h.box j u, (heap_setCell_other _ _ _ _ (by simp)).trans h.ret⟩
structure Made (w : World) (t : TypeId) (v : Value) (n : Nat) (xs : List Value) (wx : World) : Prop where
 seg : Seg wx t 4 v n xs
 own : ∀ b, v.ownBlock = some b → w.heap.size + 2 ≤ b
theorem Made.more {w wx wy : World} {t : TypeId} {v : Value} {n : Nat} {xs : List Value} {S : Nat → Prop} (h : Made w t v n xs wx) (m : Mod S wx wy) (hs : ∀ b, w.heap.size + 2 ≤ b → ¬ S b) : Made w t v n xs wy :=
 ⟨h.seg.mod m (fun b hb => hs b (h.own b hb)), h.own⟩
set_option maxRecDepth 100000 in
set_option maxHeartbeats 1000000 in
theorem twinV_any (x : Vtx) (vp vh : Value) (w : World) (hx : VRd w vp vh x) (h1 : x.props.length * 40 ≤ 140737488355328) (h2 : x.halves.length * 40 ≤ 140737488355328) :
   Calls Tryz.prog 26 #[vtxV x vp vh] w (Twins w x) := by
 obtain ⟨id, there, ps, hs⟩ := x
 have HF := Lib.hid hx.fits
 have HP := Lib.hid hx.props
 have HH := Lib.hid hx.halves
 obtain ⟨ap, cp, rfl, -⟩ := hx.props.shape
 obtain ⟨ah, ch, rfl, -⟩ := hx.halves.shape
 simp only at h1 h2 HP HH
 show Calls _ _ #[.agg #[.int .u32 (id : Int), .bool there, .slice ap ps.length cp, .slice ah hs.length ch]] w _
 clear hx
 obtain ⟨np, hnp⟩ : ∃ np, np = ps.length := ⟨_, rfl⟩
 obtain ⟨nh, hnh⟩ : ∃ nh, nh = hs.length := ⟨_, rfl⟩
 have HNP := Lib.hid hnp
 have HNH := Lib.hid hnh
 rw [← hnp] at h1 HP ⊢
 rw [← hnh] at h2 HH ⊢
 clear hnp hnh
 obtain ⟨i0, hi, hz0, hz1, hz2⟩ := info_parts infoProp
 have HI : Hid (Tryz.prog.info? 106 = some i0 ∧ i0.zero = some (.agg #[.int .u8 0, .int .u8 0, .int .i64 0, zval]) ∧ i0.size = 4 ∧ i0.bytes = 40) := ⟨hi, hz0, hz1, hz2⟩
 obtain ⟨j0, hj, hy0, hy1, hy2⟩ := info_parts infoHalf
 have HJ : Hid (Tryz.prog.info? 109 = some j0 ∧ j0.zero = some (.agg #[.int .u32 0, .int .u8 0, .int .i64 0, zval]) ∧ j0.size = 4 ∧ j0.bytes = 40) := ⟨hj, hy0, hy1, hy2⟩
 clear hi hz0 hz1 hz2 hj hy0 hy1 hy2
 go_enter Tryz.func26, Tryz.ntmps26
 go_upto_region 1 with fail
 have HT0 := Lib.hid (TwAt.begin w #[.int .u32 (id : Int), .bool there, .slice ap np cp, .slice ah nh ch])
 have HP0 := Lib.hid ((HP.out.keep (((Mod.refl _ w).alloc (.cells #[.int .u32 (id : Int), .bool there, .slice ap np cp, .slice ah nh ch] 47)).alloc (.cells #[.int .u32 0, .bool false, .slice none 0 0, .slice none 0 0] 47))).keep ((Mod.refl _ _).alloc (.cells #[] 106)))
 have HE := Lib.hid (empty4 ((w.alloc (.cells #[.int .u32 (id : Int), .bool there, .slice ap np cp, .slice ah nh ch] 47)).alloc (.cells #[.int .u32 0, .bool false, .slice none 0 0, .slice none 0 0] 47)) 106 (n0 := w.heap.size + 1 + 1) (by simp))
 go_cut [] (fun wx => ∃ vp, TwAt w #[.int .u32 (id : Int), .bool there, vp, .slice ah nh ch] wx ∧ Made w 106 vp np (cellsOf .u8 ps) wx)
 case first =>
   go_wp2_with (at_builtin; refine wpList_append_seg rfl (.tmp 3) (.tmp 5) 44 rfl i0 _ 4 40 Tryz.underlying44 HI.out.1 HI.out.2.1 HI.out.2.2.1 HI.out.2.2.2 rfl (by decide) rfl HE.out _ _ _ rfl (HP0.out.src (cellsOf_ones _ _)) (by unfold maxLen; omega) (by omega) ?_; intro v3 w3 hs3 hg3 ho3; (obtain ⟨hsg, hmd, hown⟩ := fresh_seg (by simp) hs3 hg3 ho3); (obtain ⟨a3, c3, rfl, -⟩ := hsg.shape); have HT3 := Lib.hid (HT0.out.more hmd); have HM3 : Hid (Made w 106 (.slice a3 np c3) np (cellsOf .u8 ps) w3) := ⟨hsg, fun b hb => by have := hown b hb; omega⟩; clear hs3 hg3 ho3 hsg hmd hown; have bx2 := cell_of_row HT3.out.box 2; have fr2 := free_of_row HT3.out.box 2; simp at bx2)
   go_meet
   exact ⟨_, HT3.out.store 2 _, HM3.out.more ((Mod.refl (fun k => k = w.heap.size) _).setCell (fun _ => rfl) _) (by omega)⟩
 case rest =>
   obtain ⟨vp', hta, hma⟩ := hcut
   clear HT0 HP0 HE
   have HT1 := Lib.hid hta
   have HMA := Lib.hid hma
   have HH1 := Lib.hid ((HH.out.keep hta.mod).keep ((Mod.refl _ wc).alloc (.cells #[] 109)))
   have HE1 := Lib.hid (empty4 wc 109 rfl)
   have b3 := cell_of_row hta.box 3
   simp at b3
   have zl := lt_of_block hta.box
   have zl1 : w.heap.size ≠ wc.heap.size := by omega
   have zl2 := lt_of_block hta.ret
   go_upto_region 2 with fail
   go_cut [] (fun wx => ∃ vh', TwAt w #[.int .u32 (id : Int), .bool there, vp', vh'] wx ∧ Made w 106 vp' np (cellsOf .u8 ps) wx ∧ Made w 109 vh' nh (cellsOf .u32 hs) wx)
   case first =>
     clear hta hma
     go_wp2_with (at_builtin; refine wpList_append_seg rfl (.tmp 8) (.tmp 10) 45 rfl j0 _ 4 40 Tryz.underlying45 HJ.out.1 HJ.out.2.1 HJ.out.2.2.1 HJ.out.2.2.2 rfl (by decide) rfl HE1.out _ _ _ rfl (HH1.out.src (cellsOf_ones _ _)) (by unfold maxLen; omega) (by omega) ?_; intro v3 w3 hs3 hg3 ho3; (obtain ⟨hsg, hmd, hown⟩ := fresh_seg rfl hs3 hg3 ho3); (obtain ⟨a3, c3, rfl, -⟩ := hsg.shape); have HT3 := Lib.hid (HT1.out.more hmd); have HMA3 := Lib.hid (HMA.out.more hmd (fun _ _ f => f)); have HM3 : Hid (Made w 109 (.slice a3 nh c3) nh (cellsOf .u32 hs) w3) := ⟨hsg, fun b hb => by have := hown b hb; omega⟩; clear hs3 hg3 ho3 hsg hmd hown; have bx2 := cell_of_row HT3.out.box 3; have fr2 := free_of_row HT3.out.box 3; simp at bx2)
     go_meet
     exact ⟨_, HT3.out.store 3 _, HMA3.out.more ((Mod.refl (fun k => k = w.heap.size) _).setCell (fun _ => rfl) _) (by omega), HM3.out.more ((Mod.refl (fun k => k = w.heap.size) _).setCell (fun _ => rfl) _) (by omega)⟩
   case rest =>
     obtain ⟨vh', hta2, hma2, hmb2⟩ := hcut
     clear hta hma HT1 HMA HH1 HE1 b3 zl zl1 zl2
     have HFIN : Hid (∀ u0 u1 u2 u3 : Value, Mod (fun _ => False) w ((((wc.setCell ⟨w.heap.size + 1, 0, none⟩ u0).setCell ⟨w.heap.size + 1, 1, none⟩ u1).setCell ⟨w.heap.size + 1, 2, none⟩ u2).setCell ⟨w.heap.size + 1, 3, none⟩ u3) ∧ VNew w ((((wc.setCell ⟨w.heap.size + 1, 0, none⟩ u0).setCell ⟨w.heap.size + 1, 1, none⟩ u1).setCell ⟨w.heap.size + 1, 2, none⟩ u2).setCell ⟨w.heap.size + 1, 3, none⟩ u3) vp' vh' ⟨id, there, ps, hs⟩) := Lib.hid (by
       intro u0 u1 u2 u3
       have m4 : Mod (fun k => k = w.heap.size + 1) wc ((((wc.setCell ⟨w.heap.size + 1, 0, none⟩ u0).setCell ⟨w.heap.size + 1, 1, none⟩ u1).setCell ⟨w.heap.size + 1, 2, none⟩ u2).setCell ⟨w.heap.size + 1, 3, none⟩ u3) :=
         ((((Mod.refl (fun k => k = w.heap.size + 1) wc).setCell (fun _ => rfl) u0).setCell (fun _ => rfl) u1).setCell (fun _ => rfl) u2).setCell (fun _ => rfl) u3
       have ha := hma2.more m4 (by omega)
       have hb := hmb2.more m4 (by omega)
       rw [HNP.out] at ha
       rw [HNH.out] at hb
       exact ⟨hta2.mod.trans' m4 (fun i hi e => by omega), HF.out, ha.seg, hb.seg, fun b h => by have := ha.own b h; omega, fun b h => by have := hb.own b h; omega⟩)
     have HT2 := Lib.hid hta2
     have b0 := cell_of_row hta2.box 0
     have b1 := cell_of_row hta2.box 1
     have b2 := cell_of_row hta2.box 2
     have b3 := cell_of_row hta2.box 3
     have r0 := cell_of_row hta2.ret 0
     have r1 := cell_of_row hta2.ret 1
     have r2 := cell_of_row hta2.ret 2
     have r3 := cell_of_row hta2.ret 3
     have f0 := free_of_row hta2.ret 0
     have f1 := free_of_row hta2.ret 1
     have f2 := free_of_row hta2.ret 2
     have f3 := free_of_row hta2.ret 3
     simp at b0 b1 b2 b3 r0 r1 r2 r3
     obtain ⟨a2, c2, rfl, -⟩ := hma2.seg.shape
     obtain ⟨a3, c3, rfl, -⟩ := hmb2.seg.shape
     clear hta2 hma2 hmb2
     go_wp2
     exact bodyPost_ret (v := .agg #[.int .u32 (id : Int), .bool there, .slice a2 np c2, .slice a3 nh c3]) (by simp [results, Tryz.results26, go_sem, r0, r1, r2, r3]) rfl ⟨_, _, rfl, (HFIN.out _ _ _ _).1, (HFIN.out _ _ _ _).2⟩
open Go.RowKit
open Go.RowKit
open Go.RowKit
section
variable {w0 W : World} {g bm b5 id n : Nat} {o : Array Value}
end
open Go.RowKit
open Go.RowKit
structure LLRd (w : World) (v : Value) (ls : List Ls) : Prop where
 row : RdS w 1 v ls.length (ls.map Ls.v)
 each : ∀ s ∈ ls, LRd w s.v s.l
theorem LLRd.keep {w w' : World} {v : Value} {ls : List Ls} (h : LLRd w v ls) (m : Mod (fun _ => False) w w') : LLRd w' v ls := ⟨h.row.keep m, fun s hs => (h.each s hs).keep m⟩
theorem LLRd.at {w : World} {v : Value} {ls : List Ls} (h : LLRd w v ls) {i : Nat} {x : Ls} (hi : ls[i]? = some x) : LRd w x.v x.l := h.each x (List.mem_of_getElem? hi)
theorem LLRd.ent {w : World} {v : Value} {ls : List Ls} (h : LLRd w v ls) {i : Nat} {x : Ls} (hi : ls[i]? = some x) {a : Option Addr} {n c : Nat} (e : v = .slice a n c) :
   ∃ b off, a = some ⟨b, off, none⟩ ∧ b < w.heap.size ∧ w.cell? ⟨b, off + i, none⟩ = some x.v :=
 h.row.one (by simp [hi]) e
open Go.RowKit
open Go.RowKit
open Go.RowKit
def LLOff (S : Nat → Prop) (v : Value) (ls : List Ls) : Prop := (∀ b, v.ownBlock = some b → ¬ S b) ∧ ∀ s ∈ ls, LOff S s.v s.l
theorem LLOff.mono {S T : Nat → Prop} {v : Value} {ls : List Ls} (h : LLOff S v ls) (i : ∀ k, T k → S k) : LLOff T v ls := ⟨fun b hb t => h.1 b hb (i b t), fun s hs => (h.2 s hs).mono i⟩
structure LLOwn (w : World) (v : Value) (ls : List Ls) : Prop where
 row : Seg w 41 1 v ls.length (ls.map Ls.v)
 each : ∀ s ∈ ls, LOwn w s.v s.l
 apart : ∀ s ∈ ls, LOff (fun k => v.ownBlock = some k) s.v s.l
theorem LLOwn.rd {w : World} {v : Value} {ls : List Ls} (h : LLOwn w v ls) : LLRd w v ls := ⟨h.row.rdS, fun s hs => (h.each s hs).rd⟩
theorem LLOwn.mod {S : Nat → Prop} {w w' : World} {v : Value} {ls : List Ls} (h : LLOwn w v ls) (m : Mod S w w') (o : LLOff S v ls) : LLOwn w' v ls := ⟨h.row.mod m o.1, fun s hs => (h.each s hs).mod m (o.2 s hs), h.apart⟩
theorem LLOwn.lt {w : World} {v : Value} {ls : List Ls} (h : LLOwn w v ls) : LLOff (fun k => w.heap.size ≤ k) v ls := ⟨fun b hb t => by have := h.row.lt b hb; omega, fun s hs => (h.each s hs).lt⟩
theorem LLOwn.nil (w : World) : LLOwn w (.slice none 0 0) [] := ⟨Seg.nil _ _ _, by simp, by simp⟩
theorem off_false_l {v : Value} {l : List Vs} : LOff (fun _ => False) v l := ⟨fun _ _ f => f, fun _ _ => ⟨fun _ _ f => f, fun _ _ f => f⟩⟩
theorem off_false {v : Value} {ls : List Ls} : LLOff (fun _ => False) v ls := ⟨fun _ _ f => f, fun _ _ => off_false_l⟩
structure TwIn (w : World) (vo : Value) (ls : List Ls) (mv : Value) (l : List Vs) (wr : World) : Prop where
 mod : Mod (fun _ => False) w wr
 out : LLOwn wr vo ls
 outo : ∀ b, vo.ownBlock = some b → w.heap.size ≤ b
 mine : LOwn wr mv l
 mineo : ∀ b, mv.ownBlock = some b → w.heap.size ≤ b
 ap1 : LLOff (fun k => mv.ownBlock = some k) vo ls
 ap2 : LOff (fun k => vo.ownBlock = some k) mv l
theorem TwIn.more {w wr wy : World} {vo mv : Value} {ls : List Ls} {l : List Vs} (h : TwIn w vo ls mv l wr) (m : Mod (fun _ => False) wr wy) : TwIn w vo ls mv l wy :=
 ⟨h.mod.trans m, h.out.mod m off_false, h.outo, h.mine.mod m off_false_l, h.mineo, h.ap1, h.ap2⟩
theorem TwIn.app {w wc wr wy : World} {vo mv v' : Value} {ls : List Ls} {l : List Vs} (s : Vs) (h : TwIn w vo ls mv l wr) (hc : wc.heap.size ≤ wr.heap.size) (hmc : ∀ b, mv.ownBlock = some b → b < wc.heap.size) (hoc : ∀ b, vo.ownBlock = some b → b < wc.heap.size)
   (hv : VOwn wr s) (hp : ∀ b, s.vp.ownBlock = some b → wc.heap.size ≤ b) (hh : ∀ b, s.vh.ownBlock = some b → wc.heap.size ≤ b)
   (hs : Seg wy 47 4 v' (l.length + 1) (vcells l ++ s.cells)) (hg : wr.grownBy wy mv.ownBlock) (ho : v'.ownBlock = mv.ownBlock ∨ v'.ownBlock = some wr.heap.size) : TwIn w vo ls v' (l ++ [s]) wy := by
 have hm := mod_grown hg
 have hso : VOff (fun k => mv.ownBlock = some k) s := ⟨fun b hb e => by have := hp b hb; have := hmc b e; omega, fun b hb e => by have := hh b hb; have := hmc b e; omega⟩
 have hsv : VOff (fun k => vo.ownBlock = some k) s := ⟨fun b hb e => by have := hp b hb; have := hoc b e; omega, fun b hb e => by have := hh b hb; have := hoc b e; omega⟩
 refine ⟨h.mod.grown hg (fun b hb hlt => by have := h.mineo b hb; omega), h.out.mod hm h.ap1, h.outo, ⟨?_, ?_, ?_⟩, fun b hb => ?_, ?_, ?_⟩
 · rw [vcells_snoc, List.length_append]; exact hs
 · intro t ht
   rcases List.mem_append.1 ht with ht | ht
   · exact (h.mine.each t ht).mod hm (h.mine.apart t ht)
   · rw [List.mem_singleton] at ht; subst ht; exact hv.mod hm hso
 · intro t ht
   rcases ho with ho | ho
   · rw [ho]
     rcases List.mem_append.1 ht with ht | ht
     · exact h.mine.apart t ht
     · rw [List.mem_singleton] at ht; subst ht; exact hso
   · rw [ho]
     have : VOff (fun k => wr.heap.size ≤ k) t := by
       rcases List.mem_append.1 ht with ht | ht
       · exact (h.mine.each t ht).lt
       · rw [List.mem_singleton] at ht; subst ht; exact hv.lt
     exact this.mono (fun k e => by injection e with e; omega)
 · rcases ho with ho | ho
   · exact h.mineo b (by rw [← ho]; exact hb)
   · rw [ho] at hb; injection hb with hb; have := h.mod.size; omega
 · rcases ho with ho | ho
   · rw [ho]; exact h.ap1
   · rw [ho]; exact h.out.lt.mono (fun k e => by injection e with e; omega)
 · refine ⟨fun b hb e => ?_, fun t ht => ?_⟩
   · rcases ho with ho | ho
     · exact h.ap2.1 b (by rw [← ho]; exact hb) e
     · rw [ho] at hb; injection hb with hb; have := h.out.row.lt b e; omega
   · rcases List.mem_append.1 ht with ht | ht
     · exact h.ap2.2 t ht
     · rw [List.mem_singleton] at ht; subst ht; exact hsv
structure TwOut (w : World) (vo : Value) (ls : List Ls) (wr : World) : Prop where
 mod : Mod (fun _ => False) w wr
 out : LLOwn wr vo ls
 outo : ∀ b, vo.ownBlock = some b → w.heap.size ≤ b
theorem TwOut.start {w wr : World} {vo : Value} {ls : List Ls} (h : TwOut w vo ls wr) : TwIn w vo ls (.slice none 0 0) [] wr :=
 ⟨h.mod, h.out, h.outo, LOwn.nil _, fun b hb => by simp [Value.ownBlock] at hb, by
   have : LLOff (fun _ => False) vo ls := off_false
   exact this.mono (fun k e => by simp [Value.ownBlock] at e), ⟨fun b hb => by simp [Value.ownBlock] at hb, by simp⟩⟩
def Slim (x : Vtx) : Prop := x.props.length * 40 ≤ 140737488355328 ∧ x.halves.length * 40 ≤ 140737488355328
open Go.RowKit
theorem take_map_succ {α β : Type} (f : α → β) {l : List α} {k : Nat} {x : α} (h : l[k]? = some x) : (l.take (k + 1)).map f = (l.take k).map f ++ [f x] := by
 obtain ⟨h1, h2⟩ := List.getElem?_eq_some_iff.1 h
 rw [List.take_succ_eq_append_getElem h1, h2]; simp
open Go.RowKit
open Go.RowKit Go.Maps
section
variable {w wx wy : World} {o : Array Value} {g bh bn : Nat} {Z : Zs} {en en' : Ents} {c c' : Nat → Nat} {m m' : Nat}
end
theorem RdS.ent2 {w : World} {kk : IntKind} {v : Value} {n : Nat} {l : List Ent} (h : RdS w 4 v n (cellsOf kk l)) {i : Nat} {x : Ent} (hi : l[i]? = some x) {a : Option Addr} {c : Nat} (e : v = .slice a n c) :
   ∃ b off, a = some ⟨b, off, Option.none⟩ ∧ b < w.heap.size ∧ w.cell? ⟨b, off + i * 4, Option.none⟩ = some (.int kk (x.key : Int)) ∧ w.cell? ⟨b, off + i * 4 + 1, Option.none⟩ = some (.int .u8 (x.val.k : Int)) ∧ w.cell? ⟨b, off + i * 4 + 2, Option.none⟩ = some (.int .i64 x.val.n) ∧ w.cell? ⟨b, off + i * 4 + 3, Option.none⟩ = some (.string x.val.s) := h.ent hi e
open Go.RowKit
section
variable {α : Type} (key : α → Nat) (x : α)
end
open Go.RowKit
theorem entX_some {l : List Ent} {f k : Nat} {y : Ent} (hx : l[k]? = some y) (hv : y.key = f) (hb : ∀ s ∈ l.take k, s.key ≠ f) : entX l f = some y.val := by
 obtain ⟨h1, h2⟩ := List.getElem?_eq_some_iff.1 hx
 have : l.find? (fun e => e.key == f) = some y := by
   rw [List.find?_eq_some_iff_getElem]
   refine ⟨by simpa using hv, k, h1, h2, fun j hj => ?_⟩
   have := hb (l[j]) (by rw [List.mem_take_iff_getElem]; exact ⟨j, by omega, rfl⟩)
   simpa using this
 unfold entX
 rw [this]
 rfl
theorem entX_none {l : List Ent} {f : Nat} (hb : ∀ s ∈ l, s.key ≠ f) : entX l f = none := by
 have : l.find? (fun e => e.key == f) = none := by
   rw [List.find?_eq_none]
   intro s hs
   simpa using hb s hs
 unfold entX
 rw [this]
 rfl
structure RtAt (w : World) (wx : World) : Prop where
 mod : Mod (fun _ => False) w wx
 ret : wx.heap[w.heap.size + 1]? = some (.cells #[.int .u8 0, .int .i64 0, zval] 68 (0, 0))
theorem RtAt.begin (w : World) (o : Array Value) : RtAt w ((w.alloc (.cells o 47)).alloc (.cells #[.int .u8 0, .int .i64 0, zval] 68)) :=
 ⟨((Mod.refl _ _).alloc _).alloc _, by
   have h := heap_alloc_new' (w.alloc (.cells o 47)) (.cells #[.int .u8 0, .int .i64 0, zval] 68)
   simpa using h⟩
theorem RtAt.more {w wx wy : World} (h : RtAt w wx) (m : Mod (fun _ => False) wx wy) : RtAt w wy := ⟨h.mod.trans m, m.heap h.ret (fun f => f)⟩
set_option maxRecDepth 100000 in
set_option maxHeartbeats 2000000 in
theorem dhalf_any (x : Vtx) (vp vh : Value) (f : Nat) (w : World) (hx : VRd w vp vh x) :
   Calls Tryz.prog 27 #[vtxV x vp vh, .int .u32 (f : Int)] w fun e w' => e = .returned (.tuple #[((entX x.halves f).getD noVal).v, .bool (entX x.halves f).isSome]) ∧ Mod (fun _ => False) w w' := by
 obtain ⟨id, there, ps, hs⟩ := x
 obtain ⟨ap, cp, rfl, -⟩ := hx.props.shape
 obtain ⟨ah, ch, rfl, hc1, hc2, -⟩ := hx.halves.shape
 have HH := Lib.hid hx.halves
 simp only at hc1 HH
 clear hx
 simp only [vtxV]
 generalize ps.length = np
 obtain ⟨n, hn⟩ : ∃ n, n = hs.length := ⟨_, rfl⟩
 have HN := Lib.hid hn
 rw [← hn] at HH hc1 ⊢
 clear hn
 have HB := Lib.hid (RtAt.begin w #[.int .u32 (id : Int), .bool there, .slice ap np cp, .slice ah n ch])
 go_enter Tryz.func27, Tryz.ntmps27
 go_wp2
 go_loopw [11] (fun i wr => ∃ k : Nat, i = .int .i64 k ∧ k ≤ n ∧ (∀ s ∈ hs.take k, s.key ≠ f) ∧ RtAt w wr) (fun i _ => n - (intOf i).toNat)
 case atStart => exact ⟨0, rfl, Nat.zero_le _, by simp, HB.out⟩
 case round =>
   obtain ⟨k, rfl, hk, hh, hm⟩ := hrel
   have HM := Lib.hid hm
   have HK := Lib.hid hh
   have r0 := cell_of_row hm.ret 0
   have r1 := cell_of_row hm.ret 1
   have r2 := cell_of_row hm.ret 2
   have f0 := free_of_row hm.ret 0
   have f1 := free_of_row hm.ret 1
   have f2 := free_of_row hm.ret 2
   have zr := lt_of_block hm.ret
   simp at r0 r1 r2
   have HFIN : Hid (∀ (wy : World) (u0 u1 u2 : Value), Mod (fun _ => False) wr wy → Mod (fun _ => False) w (((wy.setCell ⟨w.heap.size + 1, 0, none⟩ u0).setCell ⟨w.heap.size + 1, 1, none⟩ u1).setCell ⟨w.heap.size + 1, 2, none⟩ u2)) := Lib.hid (fun wy u0 u1 u2 m => by
     have hlt : ¬ (w.heap.size + 1 < w.heap.size) := by omega
     exact (((HM.out.mod.trans m).setCell (fun h => absurd h hlt) _).setCell (fun h => absurd h hlt) _).setCell (fun h => absurd h hlt) _)
   clear hm hh HB
   by_cases hkn : k < n
   · obtain ⟨y, hy⟩ : ∃ x, hs[k]? = some x := ⟨_, List.getElem?_eq_getElem (by rw [← HN.out]; exact hkn)⟩
     obtain ⟨b, off, e0, hb, p0, p1, p2, p3⟩ := HH.out.ent2 hy rfl
     have p0 := HM.out.mod.cell p0
     have p1 := HM.out.mod.cell p1
     have p2 := HM.out.mod.cell p2
     have p3 := HM.out.mod.cell p3
     have zb : b < wr.heap.size := Nat.lt_of_lt_of_le hb HM.out.mod.size
     have HTK := Lib.hid (take_snoc hy)
     have HIN : Hid (y.key = f → entX hs f = some y.val) := Lib.hid (fun e => entX_some hy e HK.out)
     clear hy hb
     obtain ⟨key, ⟨vk, vn, vs⟩⟩ := y
     simp only at p0 p1 p2 p3 HIN
     subst e0
     have HM2 := Lib.hid (HM.out.more ((Mod.refl (fun _ => False) wr).alloc (.cells #[.int .u32 (key : Int), .int .u8 (vk : Int), .int .i64 vn, .string vs] 109)))
     by_cases hi : key = f
     · have HE := Lib.hid (HIN.out hi)
       subst hi
       have hr := heap_alloc_old (o' := .cells #[.int .u32 (key : Int), .int .u8 (vk : Int), .int .i64 vn, .string vs] 109) (row_setCell (row_setCell (row_setCell HM.out.ret 0 (.int .u8 (vk : Int))) 1 (.int .i64 vn)) 2 (.string vs))
       have q0 := cell_of_row hr 0
       have q1 := cell_of_row hr 1
       have q2 := cell_of_row hr 2
       simp at q0 q1 q2
       go_wp2
       refine bodyPost_ret (v := .tuple #[.agg #[.int .u8 (vk : Int), .int .i64 vn, .string vs], .bool true]) (by simp [results, Tryz.results27, go_sem, q0, q1, q2]) rfl ⟨?_, ?_⟩
       · rw [HE.out]; rfl
       · exact (HFIN.out _ _ _ _ (Mod.refl _ _)).alloc _
     · have hi' : (key : Int) ≠ (f : Int) := by omega
       go_wp2
       go_roundw
       case rel => exact ⟨k + 1, by go_num, by omega, fun s hs => by
         rw [HTK.out] at hs
         rcases List.mem_append.1 hs with hs | hs
         · exact HK.out s hs
         · rw [List.mem_singleton] at hs; subst hs; exact hi, HM2.out⟩
       case measure => simp [intOf]; omega
   · have HE : Hid (entX hs f = none) := Lib.hid (entX_none (by
       have h := HK.out
       rwa [List.take_of_length_le (by have := HN.out; omega)] at h))
     go_wp2
     refine bodyPost_ret (v := .tuple #[.agg #[.int .u8 0, .int .i64 0, zval], .bool false]) (by simp [results, Tryz.results27, go_sem, r0, r1, r2, zval]) rfl ⟨?_, ?_⟩
     · rw [HE.out]; rfl
     · exact HFIN.out _ _ _ _ (Mod.refl _ _)
section
variable {α : Type} {key : α → Nat}
end
open Go.ChangeShapes Go.WideShapes Go.ChangeAt Go.RowKit
section
variable {H : Type}
theorem okW_part {t : TypeId} {fs : Array Field} {parts : List (DataW H)} (ht : Tryz.prog.underlying t = some (.struct fs)) (h : okW t (.agg parts)) {j : Nat} {f : Field} {d : DataW H} (hf : fs[j]? = some f) (hd : parts[j]? = some d) : okW f.type d := by
 unfold okW at h
 simp only [DataW.weights, ht] at h
 exact List.all_eq_true.2 fun n hn => List.all_eq_true.1 h n (DataW.weights_mem_each (j := j) (by simp [hf]) hd n hn)
variable {enc : TypeId × Value → H} {W : World}
end
open Go.ChangeShapes Go.WideShapes Go.ChangeAt Go.RowKit
section
variable {H : Type} {enc : TypeId × Value → H} {W : World}
set_option maxRecDepth 100000 in
theorem in_half (n : Nat) (cs : List Value) (y : DataW H × List MemPlace) (hl : cs.length = 4) (h : DataW.trod enc Tryz.prog W 0 (fun _ => true) true n 109 cs = some y) (hw : okW 109 y.1) : ∃ x : Ent, cs = x.cells .u32 ∧ x.key < 4294967296 ∧ x.val.Fits := by
 obtain ⟨xs, n', _, _, _, hlen, hf⟩ := DataW.trod_struct Tryz.underlying109 h
 match cs, hl with
 | [c0, c1, c2, c3], _ =>
   have cu : Tryz.prog.cellsOf 27 = 1 := by kernel_rfl
   have cv : Tryz.prog.cellsOf 68 = 3 := by kernel_rfl
   match xs, hlen with
   | [y0, y1], _ =>
     have h0 : DataW.trod enc Tryz.prog W 0 (fun _ => true) true n' 27 ((List.drop 0 [c0, c1, c2, c3]).take (Tryz.prog.cellsOf 27)) = some y0 := hf 0 _ rfl
     have h1 : DataW.trod enc Tryz.prog W 0 (fun _ => true) true n' 68 ((List.drop 1 [c0, c1, c2, c3]).take (Tryz.prog.cellsOf 68)) = some y1 := hf 1 _ rfl
     simp only [cu, cv, List.drop_zero, List.take_succ_cons, List.take_zero, List.drop_succ_cons] at h0 h1
     obtain ⟨a0, e0, _, w0⟩ := DataW.trod_int Tryz.underlying27 h0
     obtain ⟨v, e1, hv⟩ := in_val n' _ _ rfl h1
     simp only [List.cons.injEq, and_true] at e0 e1
     have b0 := bounds_u32 w0
     obtain ⟨k, rfl⟩ := Int.eq_ofNat_of_zero_le b0.1
     obtain ⟨rfl, rfl, rfl⟩ := e1
     subst e0
     exact ⟨⟨k, v⟩, rfl, by simp only; omega, hv⟩
set_option maxRecDepth 100000 in
theorem in_prop (n : Nat) (cs : List Value) (y : DataW H × List MemPlace) (hl : cs.length = 4) (h : DataW.trod enc Tryz.prog W 0 (fun _ => true) true n 106 cs = some y) (hw : okW 106 y.1) : ∃ x : Ent, cs = x.cells .u8 ∧ x.key < 256 ∧ x.val.Fits := by
 obtain ⟨xs, n', _, _, _, hlen, hf⟩ := DataW.trod_struct Tryz.underlying106 h
 match cs, hl with
 | [c0, c1, c2, c3], _ =>
   have cu : Tryz.prog.cellsOf 5 = 1 := by kernel_rfl
   have cv : Tryz.prog.cellsOf 68 = 3 := by kernel_rfl
   match xs, hlen with
   | [y0, y1], _ =>
     have h0 : DataW.trod enc Tryz.prog W 0 (fun _ => true) true n' 5 ((List.drop 0 [c0, c1, c2, c3]).take (Tryz.prog.cellsOf 5)) = some y0 := hf 0 _ rfl
     have h1 : DataW.trod enc Tryz.prog W 0 (fun _ => true) true n' 68 ((List.drop 1 [c0, c1, c2, c3]).take (Tryz.prog.cellsOf 68)) = some y1 := hf 1 _ rfl
     simp only [cu, cv, List.drop_zero, List.take_succ_cons, List.take_zero, List.drop_succ_cons] at h0 h1
     obtain ⟨a0, e0, _, w0⟩ := DataW.trod_int Tryz.underlying5 h0
     obtain ⟨v, e1, hv⟩ := in_val n' _ _ rfl h1
     simp only [List.cons.injEq, and_true] at e0 e1
     have b0 := bounds_u8 w0
     obtain ⟨k, rfl⟩ := Int.eq_ofNat_of_zero_le b0.1
     obtain ⟨rfl, rfl, rfl⟩ := e1
     subst e0
     exact ⟨⟨k, v⟩, rfl, by simp only; omega, hv⟩
def GoodV (W : World) (s : Vs) : Prop := VRd W s.vp s.vh s.x ∧ Slim s.x
set_option maxRecDepth 100000 in
theorem in_vtx (n : Nat) (cs : List Value) (y : DataW H × List MemPlace) (hl : cs.length = 4) (h : DataW.trod enc Tryz.prog W 0 (fun _ => true) true n 47 cs = some y) (hw : okW 47 y.1) : ∃ s : Vs, cs = s.cells ∧ GoodV W s := by
 obtain ⟨xs, n', _, hx, _, hlen, hf⟩ := DataW.trod_struct Tryz.underlying47 h
 match cs, hl with
 | [c0, c1, c2, c3], _ =>
   have cu : Tryz.prog.cellsOf 27 = 1 := by kernel_rfl
   have cb : Tryz.prog.cellsOf 4 = 1 := by kernel_rfl
   have cp : Tryz.prog.cellsOf 44 = 1 := by kernel_rfl
   have ch : Tryz.prog.cellsOf 45 = 1 := by kernel_rfl
   match xs, hlen with
   | [y0, y1, y2, y3], _ =>
     have h0 : DataW.trod enc Tryz.prog W 0 (fun _ => true) true n' 27 ((List.drop 0 [c0, c1, c2, c3]).take (Tryz.prog.cellsOf 27)) = some y0 := hf 0 _ rfl
     have h1 : DataW.trod enc Tryz.prog W 0 (fun _ => true) true n' 4 ((List.drop 1 [c0, c1, c2, c3]).take (Tryz.prog.cellsOf 4)) = some y1 := hf 1 _ rfl
     have h2 : DataW.trod enc Tryz.prog W 0 (fun _ => true) true n' 44 ((List.drop 2 [c0, c1, c2, c3]).take (Tryz.prog.cellsOf 44)) = some y2 := hf 2 _ rfl
     have h3 : DataW.trod enc Tryz.prog W 0 (fun _ => true) true n' 45 ((List.drop 3 [c0, c1, c2, c3]).take (Tryz.prog.cellsOf 45)) = some y3 := hf 3 _ rfl
     simp only [cu, cb, cp, ch, List.drop_zero, List.take_succ_cons, List.take_zero, List.drop_succ_cons] at h0 h1 h2 h3
     have hy : y.1 = .agg ([y0, y1, y2, y3].map (·.1)) := by rw [hx]
     rw [hy] at hw
     have w2 : okW 44 y2.1 := okW_part Tryz.underlying47 hw (j := 2) rfl rfl
     have w3 : okW 45 y3.1 := okW_part Tryz.underlying47 hw (j := 3) rfl rfl
     obtain ⟨a0, e0, _, w0⟩ := DataW.trod_int Tryz.underlying27 h0
     obtain ⟨bt, e1, _⟩ := DataW.trod_bool Tryz.underlying4 h1
     obtain ⟨ps, rp, gp, bp⟩ := in_slice Tryz.underlying44 (size := 4) (by kernel_rfl) (by omega) (Ent.cells .u8) (fun _ => rfl) (fun x => x.key < 256 ∧ x.val.Fits) in_prop h2 w2
     obtain ⟨hs, rh, gh, bh⟩ := in_slice Tryz.underlying45 (size := 4) (by kernel_rfl) (by omega) (Ent.cells .u32) (fun _ => rfl) (fun x => x.key < 4294967296 ∧ x.val.Fits) in_half h3 w3
     simp only [List.cons.injEq, and_true] at e0 e1
     have b0 := bounds_u32 w0
     obtain ⟨k, rfl⟩ := Int.eq_ofNat_of_zero_le b0.1
     subst e0 e1
     have q1 : Tryz.prog.bytesOf 106 = 40 := by kernel_rfl
     have q2 : Tryz.prog.bytesOf 109 = 40 := by kernel_rfl
     have q3 : reachBytes = 140737488351232 := rfl
     rw [q1, q3] at bp
     rw [q2, q3] at bh
     exact ⟨⟨⟨k, bt, ps, hs⟩, c2, c3⟩, rfl, ⟨⟨by simp only; omega, gp, gh⟩, rp, rh⟩, by show _ ≤ _; simp only; omega, by show _ ≤ _; simp only; omega⟩
def GoodL (W : World) (s : Ls) : Prop := LRd W s.v s.l ∧ ∀ x ∈ s.l, Slim x.x
theorem in_list (n : Nat) (cs : List Value) (y : DataW H × List MemPlace) (hl : cs.length = 1) (h : DataW.trod enc Tryz.prog W 0 (fun _ => true) true n 41 cs = some y) (hw : okW 41 y.1) : ∃ s : Ls, cs = [s.v] ∧ GoodL W s := by
 match cs, hl with
 | [u], _ =>
   obtain ⟨l, rl, gl, _⟩ := in_slice Tryz.underlying41 (size := 4) (by kernel_rfl) (by omega) Vs.cells (fun _ => rfl) (GoodV W) in_vtx h hw
   exact ⟨⟨u, l⟩, rfl, ⟨rl, fun s hs => (gl s hs).1⟩, fun s hs => (gl s hs).2⟩
variable {base : Nat} {v : Value} {d : DataW H} {p : List MemPlace}
end
open Go.RowKit Go.Maps
theorem right_gone {x : Vtx} (h : x.right = true) (ht : x.there = false) : x.props = [] ∧ x.halves = [] := by
 rcases (right_parts h).2.1 with h | h
 · rw [ht] at h; cases h
 · exact h
end Go.Proofs.YtlpdifinkcjckaaGreatDoor
