/- Lemmas for the claim, in one text: VB, VC, VD, VF, VG. -/
import Derived.Test.YtbgjbikpenefoaaGreatDoorVA
import Derived.Test.YtbgjbikpenefoaaGreatDoorA
import Derived.StillTailTactics
import Derived.Maps.Own

/- VB: what is needed of it (by shake.py). -/

/- VB, as far as the seat goes. -/
/- V4, V5, V6, V7 in one. -/
/- graph.New and Put. -/
namespace Go.Proofs.YtbgjbikpenefoaaGreatDoor
set_option linter.unusedVariables false
open Go.RowKit
theorem u32key {k : Nat} (h : k < 4294967296) : (Lit.int .u32 (k : Int)).wf = true := by go_wf
theorem u8key {k : Nat} (h : k < 256) : (Lit.int .u8 (k : Int)).wf = true := by go_wf
/-- A graph in memory: its cell, and its map. -/
structure GAt (w : World) (g bm : Nat) (es : Ents) : Prop where
  cell : w.heap[g]? = some (.cells #[.map (some bm)] 81 (0, 0))
  map : UMap Tryz.prog 23 .u32 w bm es
theorem GAt.mod {S : Nat → Prop} {w w' : World} {g bm : Nat} {es : Ents} (h : GAt w g bm es) (m : Mod S w w') (h1 : ¬ S g) (h2 : ¬ S bm) : GAt w' g bm es := ⟨m.heap h.cell h1, h.map.mod m h2⟩
theorem new_any (w : World) : Calls Tryz.prog 11 #[] w fun e w' => e = .returned (.pointer (some ⟨w.heap.size + 1, 0, none⟩)) ∧ Mod (fun _ => False) w w' ∧ GAt w' (w.heap.size + 1) w.heap.size [] := by
  have hmm := @run_makeMap Tryz.prog
  have HG : Hid (GAt ((w.alloc (.map #[] 0)).alloc (.cells #[.map (some w.heap.size)] 81)) (w.heap.size + 1) w.heap.size []) :=
    ⟨by have h := heap_alloc_new' (w.alloc (.map #[] 0)) (.cells #[.map (some w.heap.size)] 81); simpa using h,
     (UMap.made Tryz.prog 23 .u32 w).keep ((Mod.refl _ _).alloc _)⟩
  go_enter Tryz.func11, Tryz.ntmps11
  go_wp2
  go_ret
  exact ⟨rfl, ((Mod.refl _ _).alloc _).alloc _, HG.out⟩
theorem put_bad (x : Vtx) (vp vh : Value) (gp : Option Addr) (w : World) (hx : VRd w vp vh x) (hr : x.right = false) : Calls Tryz.prog 30 #[.pointer gp, vtxV x vp vh] w fun e w' => e = .returned (.int .i64 3) ∧ Mod (fun _ => False) w w' := by
  have HR : Hid (∀ w', Mod (fun _ => False) w w' → Calls Tryz.prog 49 #[.agg #[.int .u32 (x.id : Int), .bool x.there, vp, vh]] w' fun e w'' => e = .returned (.bool false) ∧ Mod (fun _ => False) w' w'') := fun w' m => by
    have := right_any x vp vh w' (hx.keep m)
    rw [hr] at this
    exact this
  show Calls _ _ #[.pointer gp, .agg #[.int .u32 (x.id : Int), .bool x.there, vp, vh]] w _
  clear hx hr
  generalize (x.id : Int) = id at HR ⊢
  generalize x.there = there at HR ⊢
  go_enter Tryz.func30, Tryz.ntmps30
  go_wp2_with (go_at_call 49; refine (HR.out _ ((Mod.refl _ _).alloc _)).mono ?_; rintro e w3 ⟨rfl, hm⟩; have M3 : Hid (Mod (fun _ => False) w w3) := ((Mod.refl _ _).alloc _).trans hm; clear hm)
  go_ret
  exact ⟨rfl, M3.out⟩
theorem right_call (x : Vtx) (vp vh : Value) (w : World) (hx : VRd w vp vh x) (b : Bool) (hr : x.right = b) : ∀ w', Mod (fun _ => False) w w' → Calls Tryz.prog 49 #[.agg #[.int .u32 (x.id : Int), .bool x.there, vp, vh]] w' fun e w'' => e = .returned (.bool b) ∧ Mod (fun _ => False) w' w'' := fun w' m => by
  have := right_any x vp vh w' (hx.keep m)
  rw [hr] at this
  exact this
end Go.Proofs.YtbgjbikpenefoaaGreatDoor
/- graph.Put that lays a vertex. -/
namespace Go.Proofs.YtbgjbikpenefoaaGreatDoor
set_option linter.unusedVariables false
open Go.RowKit
end Go.Proofs.YtbgjbikpenefoaaGreatDoor
/- A vertex of its own: Twin. -/
namespace Go.Proofs.YtbgjbikpenefoaaGreatDoor
set_option linter.unusedVariables false
open Go.RowKit
def zval : Value := .string ⟨#[]⟩
theorem infoProp : (Tryz.prog.info? 61).map (fun i => (i.zero, i.size, i.bytes)) = some (some (.agg #[.int .u8 0, .int .u8 0, .int .i64 0, zval]), 4, 40) := by kernel_rfl
theorem infoHalf : (Tryz.prog.info? 46).map (fun i => (i.zero, i.size, i.bytes)) = some (some (.agg #[.int .u32 0, .int .u8 0, .int .i64 0, zval]), 4, 40) := by kernel_rfl
/-- A vertex that has been made: its slices are new, and may be written. -/
structure VNew (w0 w : World) (vp vh : Value) (x : Vtx) : Prop where
  fits : x.Fits
  props : Seg w 61 4 vp x.props.length (cellsOf .u8 x.props)
  halves : Seg w 46 4 vh x.halves.length (cellsOf .u32 x.halves)
  newp : ∀ b, vp.ownBlock = some b → w0.heap.size ≤ b
  newh : ∀ b, vh.ownBlock = some b → w0.heap.size ≤ b
theorem VNew.rd {w0 w : World} {vp vh : Value} {x : Vtx} (h : VNew w0 w vp vh x) : VRd w vp vh x := ⟨h.fits, h.props.rdS, h.halves.rdS⟩
theorem VNew.mod {S : Nat → Prop} {w0 w w' : World} {vp vh : Value} {x : Vtx} (h : VNew w0 w vp vh x) (m : Mod S w w') (hs : ∀ b, w0.heap.size ≤ b → ¬ S b) : VNew w0 w' vp vh x :=
  ⟨h.fits, h.props.mod m (fun b hb => hs b (h.newp b hb)), h.halves.mod m (fun b hb => hs b (h.newh b hb)), h.newp, h.newh⟩
theorem VNew.keep {w0 w w' : World} {vp vh : Value} {x : Vtx} (h : VNew w0 w vp vh x) (m : Mod (fun _ => False) w w') : VNew w0 w' vp vh x := h.mod m (fun _ _ f => f)
def Twins (w : World) (x : Vtx) (e : Ending) (w' : World) : Prop := ∃ vp vh, e = .returned (.agg #[.int .u32 (x.id : Int), .bool x.there, vp, vh]) ∧ Mod (fun _ => False) w w' ∧ VNew w w' vp vh x
/-- append([]T{}, xs...): what is made. -/
theorem fresh_seg {w w2 : World} {t : TypeId} {v : Value} {n n0 : Nat} {xs : List Value} (hn : w.heap.size = n0)
    (hs : Seg w2 t 4 v (0 + n) ([] ++ xs)) (hg : (w.alloc (.cells #[] t)).grownBy w2 (Value.ownBlock (.slice (some ⟨n0, 0, none⟩) 0 0)))
    (ho : v.ownBlock = Value.ownBlock (.slice (some ⟨n0, 0, none⟩) 0 0) ∨ v.ownBlock = some (w.alloc (.cells #[] t)).heap.size) : Seg w2 t 4 v n xs ∧ Mod (fun _ => False) w w2 ∧ ∀ b, v.ownBlock = some b → n0 ≤ b := by
  subst hn
  refine ⟨by simpa using hs, ((Mod.refl _ w).alloc _).grown hg (fun b hb hlt => ?_), fun b hb => ?_⟩
  · simp [Value.ownBlock] at hb; omega
  · rcases ho with e | e
    · rw [e] at hb; simp [Value.ownBlock] at hb; omega
    · rw [e] at hb; simp at hb; omega
theorem empty4 (w : World) (t : TypeId) {n0 : Nat} (hn : w.heap.size = n0) : Seg (w.alloc (.cells #[] t)) t 4 (.slice (some ⟨n0, 0, none⟩) 0 0) 0 [] := by
  subst hn
  have := Seg.lit (e := t) (size := 4) w #[] 0 rfl (by decide) (by simp)
  exact this
structure TwAt (w : World) (o : Array Value) (wx : World) : Prop where
  mod : Mod (fun _ => False) w wx
  box : wx.heap[w.heap.size]? = some (.cells o 40 (0, 0))
  ret : wx.heap[w.heap.size + 1]? = some (.cells #[.int .u32 0, .bool false, .slice none 0 0, .slice none 0 0] 40 (0, 0))
theorem TwAt.begin (w : World) (o : Array Value) : TwAt w o ((w.alloc (.cells o 40)).alloc (.cells #[.int .u32 0, .bool false, .slice none 0 0, .slice none 0 0] 40)) :=
  ⟨((Mod.refl _ _).alloc _).alloc _, heap_alloc_old (heap_alloc_new' w _), by
    have h := heap_alloc_new' (w.alloc (.cells o 40)) (.cells #[.int .u32 0, .bool false, .slice none 0 0, .slice none 0 0] 40)
    simpa using h⟩
theorem TwAt.more {w wx wy : World} {o : Array Value} (h : TwAt w o wx) (m : Mod (fun _ => False) wx wy) : TwAt w o wy := ⟨h.mod.trans m, m.heap h.box (fun f => f), m.heap h.ret (fun f => f)⟩
theorem TwAt.store {w wx : World} {o : Array Value} (h : TwAt w o wx) (j : Nat) (u : Value) : TwAt w (o.setIfInBounds j u) (wx.setCell ⟨w.heap.size, j, none⟩ u) :=
  ⟨h.mod.setCell (fun hlt => absurd hlt (by simp)) u, row_setCell h.box j u, (heap_setCell_other _ _ _ _ (by simp)).trans h.ret⟩
/-- What one append has made. -/
structure Made (w : World) (t : TypeId) (v : Value) (n : Nat) (xs : List Value) (wx : World) : Prop where
  seg : Seg wx t 4 v n xs
  own : ∀ b, v.ownBlock = some b → w.heap.size + 2 ≤ b
theorem Made.more {w wx wy : World} {t : TypeId} {v : Value} {n : Nat} {xs : List Value} {S : Nat → Prop} (h : Made w t v n xs wx) (m : Mod S wx wy) (hs : ∀ b, w.heap.size + 2 ≤ b → ¬ S b) : Made w t v n xs wy :=
  ⟨h.seg.mod m (fun b hb => hs b (h.own b hb)), h.own⟩
set_option maxRecDepth 100000 in
set_option maxHeartbeats 1000000 in
theorem twinV_any (x : Vtx) (vp vh : Value) (w : World) (hx : VRd w vp vh x) (h1 : x.props.length * 40 ≤ 140737488355328) (h2 : x.halves.length * 40 ≤ 140737488355328) :
    Calls Tryz.prog 31 #[vtxV x vp vh] w (Twins w x) := by
  obtain ⟨id, there, ps, hs⟩ := x
  have HF := Lib.hid hx.fits
  have HP := Lib.hid hx.props
  have HH := Lib.hid hx.halves
  obtain ⟨ap, cp, rfl, -⟩ := hx.props.shape
  obtain ⟨ah, ch, rfl, -⟩ := hx.halves.shape
  simp only at h1 h2 HP HH
  show Calls _ _ #[.agg #[.int .u32 (id : Int), .bool there, .slice ap ps.length cp, .slice ah hs.length ch]] w _
  clear hx
  obtain ⟨np, hnp⟩ : ∃ np, np = ps.length := ⟨_, rfl⟩
  obtain ⟨nh, hnh⟩ : ∃ nh, nh = hs.length := ⟨_, rfl⟩
  have HNP := Lib.hid hnp
  have HNH := Lib.hid hnh
  rw [← hnp] at h1 HP ⊢
  rw [← hnh] at h2 HH ⊢
  clear hnp hnh
  obtain ⟨i0, hi, hz0, hz1, hz2⟩ := info_parts infoProp
  have HI : Hid (Tryz.prog.info? 61 = some i0 ∧ i0.zero = some (.agg #[.int .u8 0, .int .u8 0, .int .i64 0, zval]) ∧ i0.size = 4 ∧ i0.bytes = 40) := ⟨hi, hz0, hz1, hz2⟩
  obtain ⟨j0, hj, hy0, hy1, hy2⟩ := info_parts infoHalf
  have HJ : Hid (Tryz.prog.info? 46 = some j0 ∧ j0.zero = some (.agg #[.int .u32 0, .int .u8 0, .int .i64 0, zval]) ∧ j0.size = 4 ∧ j0.bytes = 40) := ⟨hj, hy0, hy1, hy2⟩
  clear hi hz0 hz1 hz2 hj hy0 hy1 hy2
  go_enter Tryz.func31, Tryz.ntmps31
  go_upto_region 1 with fail
  have HT0 := Lib.hid (TwAt.begin w #[.int .u32 (id : Int), .bool there, .slice ap np cp, .slice ah nh ch])
  have HP0 := Lib.hid ((HP.out.keep (((Mod.refl _ w).alloc (.cells #[.int .u32 (id : Int), .bool there, .slice ap np cp, .slice ah nh ch] 40)).alloc (.cells #[.int .u32 0, .bool false, .slice none 0 0, .slice none 0 0] 40))).keep ((Mod.refl _ _).alloc (.cells #[] 61)))
  have HE := Lib.hid (empty4 ((w.alloc (.cells #[.int .u32 (id : Int), .bool there, .slice ap np cp, .slice ah nh ch] 40)).alloc (.cells #[.int .u32 0, .bool false, .slice none 0 0, .slice none 0 0] 40)) 61 (n0 := w.heap.size + 1 + 1) (by simp))
  go_cut [] (fun wx => ∃ vp, TwAt w #[.int .u32 (id : Int), .bool there, vp, .slice ah nh ch] wx ∧ Made w 61 vp np (cellsOf .u8 ps) wx)
  case first =>
    go_wp2_with (at_builtin; refine wpList_append_seg rfl (.tmp 3) (.tmp 5) 37 rfl i0 _ 4 40 Tryz.underlying37 HI.out.1 HI.out.2.1 HI.out.2.2.1 HI.out.2.2.2 rfl (by decide) rfl HE.out _ _ _ rfl (HP0.out.src (cellsOf_ones _ _)) (by unfold maxLen; omega) (by omega) ?_; intro v3 w3 hs3 hg3 ho3; (obtain ⟨hsg, hmd, hown⟩ := fresh_seg (by simp) hs3 hg3 ho3); (obtain ⟨a3, c3, rfl, -⟩ := hsg.shape); have HT3 := Lib.hid (HT0.out.more hmd); have HM3 : Hid (Made w 61 (.slice a3 np c3) np (cellsOf .u8 ps) w3) := ⟨hsg, fun b hb => by have := hown b hb; omega⟩; clear hs3 hg3 ho3 hsg hmd hown; have bx2 := cell_of_row HT3.out.box 2; have fr2 := free_of_row HT3.out.box 2; simp at bx2)
    go_meet
    exact ⟨_, HT3.out.store 2 _, HM3.out.more ((Mod.refl (fun k => k = w.heap.size) _).setCell (fun _ => rfl) _) (by omega)⟩
  case rest =>
    obtain ⟨vp', hta, hma⟩ := hcut
    clear HT0 HP0 HE
    have HT1 := Lib.hid hta
    have HMA := Lib.hid hma
    have HH1 := Lib.hid ((HH.out.keep hta.mod).keep ((Mod.refl _ wc).alloc (.cells #[] 46)))
    have HE1 := Lib.hid (empty4 wc 46 rfl)
    have b3 := cell_of_row hta.box 3
    simp at b3
    have zl := lt_of_block hta.box
    have zl1 : w.heap.size ≠ wc.heap.size := by omega
    have zl2 := lt_of_block hta.ret
    go_upto_region 2 with fail
    go_cut [] (fun wx => ∃ vh', TwAt w #[.int .u32 (id : Int), .bool there, vp', vh'] wx ∧ Made w 61 vp' np (cellsOf .u8 ps) wx ∧ Made w 46 vh' nh (cellsOf .u32 hs) wx)
    case first =>
      clear hta hma
      go_wp2_with (at_builtin; refine wpList_append_seg rfl (.tmp 8) (.tmp 10) 38 rfl j0 _ 4 40 Tryz.underlying38 HJ.out.1 HJ.out.2.1 HJ.out.2.2.1 HJ.out.2.2.2 rfl (by decide) rfl HE1.out _ _ _ rfl (HH1.out.src (cellsOf_ones _ _)) (by unfold maxLen; omega) (by omega) ?_; intro v3 w3 hs3 hg3 ho3; (obtain ⟨hsg, hmd, hown⟩ := fresh_seg rfl hs3 hg3 ho3); (obtain ⟨a3, c3, rfl, -⟩ := hsg.shape); have HT3 := Lib.hid (HT1.out.more hmd); have HMA3 := Lib.hid (HMA.out.more hmd (fun _ _ f => f)); have HM3 : Hid (Made w 46 (.slice a3 nh c3) nh (cellsOf .u32 hs) w3) := ⟨hsg, fun b hb => by have := hown b hb; omega⟩; clear hs3 hg3 ho3 hsg hmd hown; have bx2 := cell_of_row HT3.out.box 3; have fr2 := free_of_row HT3.out.box 3; simp at bx2)
      go_meet
      exact ⟨_, HT3.out.store 3 _, HMA3.out.more ((Mod.refl (fun k => k = w.heap.size) _).setCell (fun _ => rfl) _) (by omega), HM3.out.more ((Mod.refl (fun k => k = w.heap.size) _).setCell (fun _ => rfl) _) (by omega)⟩
    case rest =>
      obtain ⟨vh', hta2, hma2, hmb2⟩ := hcut
      clear hta hma HT1 HMA HH1 HE1 b3 zl zl1 zl2
      have HFIN : Hid (∀ u0 u1 u2 u3 : Value, Mod (fun _ => False) w ((((wc.setCell ⟨w.heap.size + 1, 0, none⟩ u0).setCell ⟨w.heap.size + 1, 1, none⟩ u1).setCell ⟨w.heap.size + 1, 2, none⟩ u2).setCell ⟨w.heap.size + 1, 3, none⟩ u3) ∧ VNew w ((((wc.setCell ⟨w.heap.size + 1, 0, none⟩ u0).setCell ⟨w.heap.size + 1, 1, none⟩ u1).setCell ⟨w.heap.size + 1, 2, none⟩ u2).setCell ⟨w.heap.size + 1, 3, none⟩ u3) vp' vh' ⟨id, there, ps, hs⟩) := Lib.hid (by
        intro u0 u1 u2 u3
        have m4 : Mod (fun k => k = w.heap.size + 1) wc ((((wc.setCell ⟨w.heap.size + 1, 0, none⟩ u0).setCell ⟨w.heap.size + 1, 1, none⟩ u1).setCell ⟨w.heap.size + 1, 2, none⟩ u2).setCell ⟨w.heap.size + 1, 3, none⟩ u3) :=
          ((((Mod.refl (fun k => k = w.heap.size + 1) wc).setCell (fun _ => rfl) u0).setCell (fun _ => rfl) u1).setCell (fun _ => rfl) u2).setCell (fun _ => rfl) u3
        have ha := hma2.more m4 (by omega)
        have hb := hmb2.more m4 (by omega)
        rw [HNP.out] at ha
        rw [HNH.out] at hb
        exact ⟨hta2.mod.trans' m4 (fun i hi e => by omega), HF.out, ha.seg, hb.seg, fun b h => by have := ha.own b h; omega, fun b h => by have := hb.own b h; omega⟩)
      have HT2 := Lib.hid hta2
      have b0 := cell_of_row hta2.box 0
      have b1 := cell_of_row hta2.box 1
      have b2 := cell_of_row hta2.box 2
      have b3 := cell_of_row hta2.box 3
      have r0 := cell_of_row hta2.ret 0
      have r1 := cell_of_row hta2.ret 1
      have r2 := cell_of_row hta2.ret 2
      have r3 := cell_of_row hta2.ret 3
      have f0 := free_of_row hta2.ret 0
      have f1 := free_of_row hta2.ret 1
      have f2 := free_of_row hta2.ret 2
      have f3 := free_of_row hta2.ret 3
      simp at b0 b1 b2 b3 r0 r1 r2 r3
      obtain ⟨a2, c2, rfl, -⟩ := hma2.seg.shape
      obtain ⟨a3, c3, rfl, -⟩ := hmb2.seg.shape
      clear hta2 hma2 hmb2
      go_wp2
      exact bodyPost_ret (v := .agg #[.int .u32 (id : Int), .bool there, .slice a2 np c2, .slice a3 nh c3]) (by simp [results, Tryz.results31, go_sem, r0, r1, r2, r3]) rfl ⟨_, _, rfl, (HFIN.out _ _ _ _).1, (HFIN.out _ _ _ _).2⟩
end Go.Proofs.YtbgjbikpenefoaaGreatDoor
/- repair.half: a vertex' half to another one. -/
namespace Go.Proofs.YtbgjbikpenefoaaGreatDoor
set_option linter.unusedVariables false
open Go.RowKit
end Go.Proofs.YtbgjbikpenefoaaGreatDoor

/- VC: what is needed of it (by shake.py). -/

/- VC, as far as the seat goes. -/
/- V8, V9, V10, V11 in one. -/
/- repair.half. -/
namespace Go.Proofs.YtbgjbikpenefoaaGreatDoor
set_option linter.unusedVariables false
open Go.RowKit
end Go.Proofs.YtbgjbikpenefoaaGreatDoor
/- A list of vertices. -/
namespace Go.Proofs.YtbgjbikpenefoaaGreatDoor
set_option linter.unusedVariables false
open Go.RowKit
/-- A vertex with its slices. -/
structure Vs where
  x : Vtx
  vp : Value
  vh : Value
def Vs.v (s : Vs) : Value := vtxV s.x s.vp s.vh
def Vs.cells (s : Vs) : List Value := [.int .u32 (s.x.id : Int), .bool s.x.there, s.vp, s.vh]
section
variable {w0 W : World} {g bm b5 id n : Nat} {o : Array Value}
end
end Go.Proofs.YtbgjbikpenefoaaGreatDoor
/- repair.right: is a list in form? -/
namespace Go.Proofs.YtbgjbikpenefoaaGreatDoor
set_option linter.unusedVariables false
open Go.RowKit
end Go.Proofs.YtbgjbikpenefoaaGreatDoor
/- Lists of lists of vertices, flags, and where each vertex is held first: the data. -/
namespace Go.Proofs.YtbgjbikpenefoaaGreatDoor
set_option linter.unusedVariables false
open Go.RowKit
/-- A list with its slice. -/
structure Ls where
  v : Value
  l : List Vs
theorem RdS.one {w : World} {v : Value} {n m : Nat} {xs : List Value} (h : RdS w 1 v n xs) {i : Nat} {x : Value} (hi : xs[i]? = some x) {a : Option Addr} {c : Nat} (e : v = .slice a m c) :
    ∃ b off, a = some ⟨b, off, none⟩ ∧ b < w.heap.size ∧ w.cell? ⟨b, off + i, none⟩ = some x := by
  obtain ⟨a', c', e', -⟩ := h.shape
  rw [e] at e'
  injection e' with e1 e2 e3
  rw [e2] at e
  exact h.cell a c e i x hi
/-- What is held where, in order: only where a list's flag is up. -/
def held (up : List Bool) : Nat → List Ls → List (Nat × Vs)
  | _, [] => []
  | n, s :: r => (if up[n]? = some true then s.l.map (fun x => (n, x)) else []) ++ held up (n + 1) r
/-- The pairs ahead of list n. -/
def heldTo (up : List Bool) (ls : List Ls) (n : Nat) : List (Nat × Vs) := held up 0 (ls.take n)
end Go.Proofs.YtbgjbikpenefoaaGreatDoor

/- VD: what is needed of it (by shake.py). -/

/- VD, as far as the seat goes. -/
/- V12, V13, V14, V15 in one. -/
/- repair.judge: what is told of a half. -/
namespace Go.Proofs.YtbgjbikpenefoaaGreatDoor
set_option linter.unusedVariables false
open Go.RowKit
deriving instance DecidableEq for Val
end Go.Proofs.YtbgjbikpenefoaaGreatDoor
/- repair.seats: where each vertex is held first. -/
namespace Go.Proofs.YtbgjbikpenefoaaGreatDoor
set_option linter.unusedVariables false
open Go.RowKit
/-- The pairs met so far, in the midst of list k. -/
def part (up : List Bool) (ls : List Ls) (k : Nat) (xl : List Vs) (j : Nat) : List (Nat × Vs) := heldTo up ls k ++ (xl.take j).map (fun x => (k, x))
end Go.Proofs.YtbgjbikpenefoaaGreatDoor
/- repair.judge, whole. -/
namespace Go.Proofs.YtbgjbikpenefoaaGreatDoor
set_option linter.unusedVariables false
open Go.RowKit
end Go.Proofs.YtbgjbikpenefoaaGreatDoor
/- Is any list out of form? Is any flag down? (slices.ContainsFunc with repair.right, slices.Contains of flags.) -/
namespace Go.Proofs.YtbgjbikpenefoaaGreatDoor
set_option linter.unusedVariables false
open Go.RowKit
end Go.Proofs.YtbgjbikpenefoaaGreatDoor

/- VF: what is needed of it (by shake.py). -/

/- VF, as far as the seat goes. -/
/- V18, V19, V20 in one. -/
/- gussetlaw23.vertex: a vertex with halves. -/
namespace Go.Proofs.YtbgjbikpenefoaaGreatDoor
set_option linter.unusedVariables false
open Go.RowKit
def farE (f : Nat) : Ent := ⟨f, ⟨0, 0, ⟨#[]⟩⟩⟩
/-- One element, just laid. -/
theorem src_cells {w : World} {n0 size : Nat} (hn : w.heap.size = n0) (t : TypeId) (cs : Array Value) (hs : cs.size = size) (h1 : ∀ u ∈ cs.toList, u.oneCell' = true) : Src (w.alloc (.cells cs t)) size (.slice (some ⟨n0, 0, none⟩) 1 1) 1 cs.toList := by
  subst hn
  exact Src.one (size := size) w cs t 1 1 (by omega) h1
end Go.Proofs.YtbgjbikpenefoaaGreatDoor
/- gussetlaw23.reports, gussetref23.Same. -/
namespace Go.Proofs.YtbgjbikpenefoaaGreatDoor
set_option linter.unusedVariables false
open Go.RowKit
end Go.Proofs.YtbgjbikpenefoaaGreatDoor
/- gussetlaw23.twins: lists of one's own. -/
namespace Go.Proofs.YtbgjbikpenefoaaGreatDoor
set_option linter.unusedVariables false
open Go.RowKit
theorem mod_grown {w w' : World} {v : Value} (g : w.grownBy w' v.ownBlock) : Mod (fun k => v.ownBlock = some k) w w' := ⟨g.os, g.tape, g.output, g.size, fun k hk hne => g.block k hk (fun e => hne e.symm)⟩
def Slim (x : Vtx) : Prop := x.props.length * 40 ≤ 140737488355328 ∧ x.halves.length * 40 ≤ 140737488355328
end Go.Proofs.YtbgjbikpenefoaaGreatDoor

/- VG: what is needed of it (by shake.py). -/

/- VG, as far as the seat goes. -/
/- V21, V22 in one. -/
/- gussetlaw23.twins, walked. -/
namespace Go.Proofs.YtbgjbikpenefoaaGreatDoor
set_option linter.unusedVariables false
open Go.RowKit
end Go.Proofs.YtbgjbikpenefoaaGreatDoor
/- gussetlaw23.awake. -/
namespace Go.Proofs.YtbgjbikpenefoaaGreatDoor
set_option linter.unusedVariables false
open Go.RowKit
def va : Vtx := ⟨1, true, [], [farE 2]⟩
def vb : Vtx := ⟨2, true, [], []⟩
theorem rd_lit (w : World) (t : TypeId) (cs : Array Value) (n size n0 : Nat) (h0 : w.heap.size = n0) (hs : cs.size = n * size) (hn : n ≤ maxLen) (h1 : ∀ u ∈ cs.toList, u.oneCell' = true) : RdS (w.alloc (.cells cs t)) size (.slice (some ⟨n0, 0, none⟩) n n) n cs.toList := by
  subst h0
  exact (Seg.lit (e := t) (size := size) w cs n hs hn h1).rdS
end Go.Proofs.YtbgjbikpenefoaaGreatDoor
