/- VB: what is needed of it (by shake.py). -/
import Derived.Test.YtnkmfgklmfmfeaaGreatDoorVA
import Derived.Test.YtnkmfgklmfmfeaaGreatDoorA
import Derived.StillTailTactics
import Derived.Maps.Own

/- VB, as far as the seat goes. -/
/- V4, V5, V6, V7 in one. -/
/- graph.New and Put. -/
namespace Go.Proofs.YtnkmfgklmfmfeaaGreatDoor
set_option linter.unusedVariables false
open Go.RowKit
theorem u32key {k : Nat} (h : k < 4294967296) : (Lit.int .u32 (k : Int)).wf = true := by go_wf
theorem u8key {k : Nat} (h : k < 256) : (Lit.int .u8 (k : Int)).wf = true := by go_wf
/-- A graph in memory: its cell, and its map. -/
structure GAt (w : World) (g bm : Nat) (es : Ents) : Prop where
  cell : w.heap[g]? = some (.cells #[.map (some bm)] 68 (0, 0))
  map : UMap Tryz.prog 28 .u32 w bm es
theorem GAt.mod {S : Nat → Prop} {w w' : World} {g bm : Nat} {es : Ents} (h : GAt w g bm es) (m : Mod S w w') (h1 : ¬ S g) (h2 : ¬ S bm) : GAt w' g bm es := ⟨m.heap h.cell h1, h.map.mod m h2⟩
theorem new_any (w : World) : Calls Tryz.prog 7 #[] w fun e w' => e = .returned (.pointer (some ⟨w.heap.size + 1, 0, none⟩)) ∧ Mod (fun _ => False) w w' ∧ GAt w' (w.heap.size + 1) w.heap.size [] := by
  have hmm := @run_makeMap Tryz.prog
  have HG : Hid (GAt ((w.alloc (.map #[] 0)).alloc (.cells #[.map (some w.heap.size)] 68)) (w.heap.size + 1) w.heap.size []) :=
    ⟨by have h := heap_alloc_new' (w.alloc (.map #[] 0)) (.cells #[.map (some w.heap.size)] 68); simpa using h,
     (UMap.made Tryz.prog 28 .u32 w).keep ((Mod.refl _ _).alloc _)⟩
  go_enter Tryz.func7, Tryz.ntmps7
  go_wp2
  go_ret
  exact ⟨rfl, ((Mod.refl _ _).alloc _).alloc _, HG.out⟩
def putAll (es : Ents) (l : List Ent) : Ents := l.foldl (fun m p => putL p.key p.val.v m) es
/-- A vertex in memory: its two maps. -/
structure VertAt (w : World) (a : Nat) (ps hs : Ents) : Prop where
  box : ∃ mp me, w.heap[a]? = some (.cells #[.map (some mp), .map (some me)] 84 (0, 0)) ∧ UMap Tryz.prog 5 .u8 w mp ps ∧ UMap Tryz.prog 28 .u32 w me hs
theorem put_bad (x : Vtx) (vp vh : Value) (gp : Option Addr) (w : World) (hx : VRd w vp vh x) (hr : x.right = false) : Calls Tryz.prog 49 #[.pointer gp, vtxV x vp vh] w fun e w' => e = .returned (.int .i64 3) ∧ Mod (fun _ => False) w w' := by
  have HR : Hid (∀ w', Mod (fun _ => False) w w' → Calls Tryz.prog 64 #[.agg #[.int .u32 (x.id : Int), .bool x.there, vp, vh]] w' fun e w'' => e = .returned (.bool false) ∧ Mod (fun _ => False) w' w'') := fun w' m => by
    have := right_any x vp vh w' (hx.keep m)
    rw [hr] at this
    exact this
  show Calls _ _ #[.pointer gp, .agg #[.int .u32 (x.id : Int), .bool x.there, vp, vh]] w _
  clear hx hr
  generalize (x.id : Int) = id at HR ⊢
  generalize x.there = there at HR ⊢
  go_enter Tryz.func49, Tryz.ntmps49
  go_wp2_with (go_at_call 64; refine (HR.out _ ((Mod.refl _ _).alloc _)).mono ?_; rintro e w3 ⟨rfl, hm⟩; have M3 : Hid (Mod (fun _ => False) w w3) := ((Mod.refl _ _).alloc _).trans hm; clear hm)
  go_ret
  exact ⟨rfl, M3.out⟩
theorem right_call (x : Vtx) (vp vh : Value) (w : World) (hx : VRd w vp vh x) (b : Bool) (hr : x.right = b) : ∀ w', Mod (fun _ => False) w w' → Calls Tryz.prog 64 #[.agg #[.int .u32 (x.id : Int), .bool x.there, vp, vh]] w' fun e w'' => e = .returned (.bool b) ∧ Mod (fun _ => False) w' w'' := fun w' m => by
  have := right_any x vp vh w' (hx.keep m)
  rw [hr] at this
  exact this
end Go.Proofs.YtnkmfgklmfmfeaaGreatDoor
/- graph.Put that lays a vertex. -/
namespace Go.Proofs.YtnkmfgklmfmfeaaGreatDoor
set_option linter.unusedVariables false
open Go.RowKit
structure PutAt (w : World) (s : Nat) (o : Array Value) (ps hs : Ents) (wr : World) : Prop where
  mod : Mod (fun _ => False) w wr
  box : wr.heap[w.heap.size]? = some (.cells o 44 (0, 0))
  vert : wr.heap[s + 2]? = some (.cells #[.map (some s), .map (some (s + 1))] 84 (0, 0))
  props : UMap Tryz.prog 5 .u8 wr s ps
  edges : UMap Tryz.prog 28 .u32 wr (s + 1) hs
  lo : w.heap.size < s
theorem PutAt.more {w wx wy : World} {s : Nat} {o : Array Value} {ps hs : Ents} (h : PutAt w s o ps hs wx) (m : Mod (fun _ => False) wx wy) : PutAt w s o ps hs wy :=
  ⟨h.mod.trans m, m.heap h.box (fun f => f), m.heap h.vert (fun f => f), h.props.keep m, h.edges.keep m, h.lo⟩
theorem PutAt.prop {w wx wz wy : World} {s : Nat} {o : Array Value} {ps ps' hs : Ents} (h : PutAt w s o ps hs wx) (m0 : Mod (fun _ => False) wx wz) (hU : UMap Tryz.prog 5 .u8 wy s ps') (m : Mod (fun i => i = s) wz wy) : PutAt w s o ps' hs wy := by
  have h0 := h.more m0
  have hl := h.lo
  exact ⟨h0.mod.trans' m (fun i hi e => by omega), m.heap h0.box (by omega), m.heap h0.vert (by omega), hU, h0.edges.mod m (by omega), hl⟩
theorem PutAt.edge {w wx wz wy : World} {s : Nat} {o : Array Value} {ps hs hs' : Ents} (h : PutAt w s o ps hs wx) (m0 : Mod (fun _ => False) wx wz) (hU : UMap Tryz.prog 28 .u32 wy (s + 1) hs') (m : Mod (fun i => i = s + 1) wz wy) : PutAt w s o ps hs' wy := by
  have h0 := h.more m0
  have hl := h.lo
  exact ⟨h0.mod.trans' m (fun i hi e => by omega), m.heap h0.box (by omega), m.heap h0.vert (by omega), h0.props.mod m (by omega), hU, hl⟩
theorem PutAt.begin {w w3 : World} {o : Array Value} (m : Mod (fun _ => False) w w3) (hb : w3.heap[w.heap.size]? = some (.cells o 44 (0, 0))) :
    PutAt w w3.heap.size o [] [] (((w3.alloc (.map #[] 0)).alloc (.map #[] 0)).alloc (.cells #[.map (some w3.heap.size), .map (some (w3.heap.size + 1))] 84)) := by
  have hm : Mod (fun _ => False) w3 (((w3.alloc (.map #[] 0)).alloc (.map #[] 0)).alloc (.cells #[.map (some w3.heap.size), .map (some (w3.heap.size + 1))] 84)) := (((Mod.refl _ _).alloc _).alloc _).alloc _
  refine ⟨m.trans hm, hm.heap hb (fun f => f), ?_, (UMap.made Tryz.prog 5 .u8 w3).keep (((Mod.refl _ _).alloc _).alloc _), ?_, lt_of_block hb⟩
  · have h := heap_alloc_new' ((w3.alloc (.map #[] 0)).alloc (.map #[] 0)) (.cells #[.map (some w3.heap.size), .map (some (w3.heap.size + 1))] 84)
    simpa using h
  · have h := (UMap.made Tryz.prog 28 .u32 (w3.alloc (.map #[] 0))).keep ((Mod.refl _ _).alloc (.cells #[.map (some w3.heap.size), .map (some (w3.heap.size + 1))] 84))
    simpa using h
theorem putAll_snoc (l : List Ent) (k : Nat) (x : Ent) (h : l[k]? = some x) (es : Ents) : putAll es (l.take (k + 1)) = putL x.key x.val.v (putAll es (l.take k)) := by
  obtain ⟨hk, hx⟩ := List.getElem?_eq_some_iff.1 h
  rw [List.take_succ_eq_append_getElem hk, hx]
  simp [putAll]
theorem putAll_length (l : List Ent) : ∀ es : Ents, (putAll es l).length ≤ es.length + l.length := by
  induction l with
  | nil => intro es; simp [putAll]
  | cons x r ih =>
    intro es
    have h1 := ih (putL x.key x.val.v es)
    have h2 := putL_length x.key x.val.v es
    show (putAll (putL x.key x.val.v es) r).length ≤ _
    simp only [List.length_cons]; omega
/-- A vertex has been laid at a new place. -/
def Laid (w : World) (g bm : Nat) (x : Vtx) (es : Ents) (e : Ending) (w' : World) : Prop :=
  ∃ a, e = .returned (.int .i64 0) ∧ Mod (fun k => k = bm) w w' ∧ w.heap.size ≤ a ∧ GAt w' g bm (putL x.id (.pointer (some ⟨a, 0, none⟩)) es) ∧ VertAt w' a (putAll [] x.props) (putAll [] x.halves)
set_option maxRecDepth 100000 in
set_option maxHeartbeats 2000000 in
theorem put_good (x : Vtx) (vp vh : Value) (g bm : Nat) (es : Ents) (w : World) (hx : VRd w vp vh x) (hr : x.right = true) (ht : x.there = true) (hg : GAt w g bm es) (hes : es.length < 1000000) :
    Calls Tryz.prog 49 #[.pointer (some ⟨g, 0, none⟩), vtxV x vp vh] w (Laid w g bm x es) := by
  have HR := Lib.hid (right_call x vp vh w hx true hr)
  have HID := Lib.hid (u32key hx.fits.id)
  obtain ⟨id, there, ps, hs⟩ := x
  simp only at ht
  subst ht
  have HP := Lib.hid hx.props
  have HH := Lib.hid hx.halves
  have HF := Lib.hid hx.fits
  obtain ⟨ap, cp, rfl, hcp, hcp2, hap⟩ := hx.props.shape
  obtain ⟨ah, ch, rfl, hch, hch2, hah⟩ := hx.halves.shape
  simp only at hcp hch HP HH HID
  show Calls _ _ #[.pointer (some ⟨g, 0, none⟩), .agg #[.int .u32 (id : Int), .bool true, .slice ap ps.length cp, .slice ah hs.length ch]] w _
  simp only at HR
  have HG := Lib.hid hg
  have zg := lt_of_block hg.cell
  have zm := hg.map.lt
  have hne : bm ≠ g := by
    intro e
    obtain ⟨⟨es', clock, hb, _⟩⟩ := hg.map
    rw [e, hg.cell] at hb
    cases hb
  have HNE := Lib.hid hne
  clear hx hr hg hne hap hah
  obtain ⟨np, hnp⟩ : ∃ np, np = ps.length := ⟨_, rfl⟩
  obtain ⟨nh, hnh⟩ : ∃ nh, nh = hs.length := ⟨_, rfl⟩
  have HNP := Lib.hid hnp
  have HNH := Lib.hid hnh
  rw [← hnp] at hcp HP HR ⊢
  rw [← hnh] at hch HH HR ⊢
  clear hnp hnh
  go_enter Tryz.func49, Tryz.ntmps49
  have hmm := @run_makeMap Tryz.prog
  go_wp2_with fail
  refine (HR.out _ ((Mod.refl _ _).alloc _)).mono ?_
  rintro e w3 ⟨rfl, hm⟩
  have M3 : Hid (Mod (fun _ => False) w w3) := ((Mod.refl _ _).alloc _).trans hm
  have bx : w3.heap[w.heap.size]? = some (.cells #[.int .u32 (id : Int), .bool true, .slice ap np cp, .slice ah nh ch] 44 (0, 0)) := hm.heap (heap_alloc_new' w _) (fun f => f)
  have HPA := Lib.hid (PutAt.begin M3.out bx)
  have b0 := cell_of_row bx 0
  have b1 := cell_of_row bx 1
  have b2 := cell_of_row bx 2
  have b3 := cell_of_row bx 3
  simp at b0 b1 b2 b3
  have zz := lt_of_block bx
  clear hm bx
  go_upto_region 8 with fail
  go_cut [5] (fun v wx => v = .pointer (some ⟨w3.heap.size + 2, 0, none⟩) ∧ PutAt w w3.heap.size #[.int .u32 (id : Int), .bool true, .slice ap np cp, .slice ah nh ch] [] [] wx)
  case first =>
    clear b0 b1 b2 b3
    go_wp2_with fail
    go_meet
    exact ⟨rfl, HPA.out⟩
  case rest =>
    obtain ⟨rfl, hpa⟩ := hcut
    clear b0 b1 b2 b3 hmm HPA zz
    have HPA := Lib.hid hpa
    obtain ⟨s, hs0⟩ : ∃ s, s = w3.heap.size := ⟨_, rfl⟩
    rw [← hs0] at HPA ⊢
    clear hs0 hpa
    have b0 := cell_of_row HPA.out.box 0
    have b2 := cell_of_row HPA.out.box 2
    simp at b0 b2
    go_wp2_with fail
    clear b0 b2
    go_loopw [34] (fun i wr => ∃ k : Nat, i = .int .i64 k ∧ k ≤ np ∧ PutAt w s #[.int .u32 (id : Int), .bool true, .slice ap np cp, .slice ah nh ch] (putAll [] (ps.take k)) [] wr) (fun i _ => np - (intOf i).toNat)
    case atStart => exact ⟨0, rfl, Nat.zero_le _, HPA.out⟩
    case round =>
      obtain ⟨k, rfl, hk, hpk⟩ := hrel
      have HPK := Lib.hid hpk
      by_cases hkn : k < np
      · obtain ⟨x, hx⟩ : ∃ x, ps[k]? = some x := ⟨_, List.getElem?_eq_getElem (by rw [← HNP.out]; exact hkn)⟩
        have hfx := HF.out.props x (List.mem_of_getElem? hx)
        have HSN := Lib.hid (putAll_snoc ps k x hx [])
        obtain ⟨b, off, rfl, hb, p0, p1, p2, p3⟩ := HP.out.ent hx rfl
        have p0 := hpk.mod.cell p0
        have p1 := hpk.mod.cell p1
        have p2 := hpk.mod.cell p2
        have p3 := hpk.mod.cell p3
        have zc : b < wr.heap.size := Nat.lt_of_lt_of_le hb hpk.mod.size
        obtain ⟨key, vk, vn, vs⟩ := x
        simp only at p0 p1 p2 p3 hfx HSN
        have HKEY := Lib.hid (u8key hfx.1)
        have v0 := cell_of_row hpk.vert 0
        simp at v0
        have zv := lt_of_block hpk.vert
        have hlen : (putAll [] (ps.take k)).length < maxLen := by
          have h1 := putAll_length (ps.take k) []
          have h2 : (ps.take k).length ≤ k := by simp; omega
          simp at h1
          unfold maxLen; omega
        have m0 : Mod (fun _ => False) wr (wr.alloc (.cells #[.int .u8 (key : Int), .int .u8 (vk : Int), .int .i64 vn, .string vs] 86)).drew := ((Mod.refl _ _).alloc _).drew
        obtain ⟨w5, hrun, hU, hM⟩ := ((hpk.props.keep m0)).store Tryz.underlying5 Tryz.underlying81 hlen (u8key hfx.1) (.agg #[.int .u8 (vk : Int), .int .i64 vn, .string vs])
        have HN2 : Hid (PutAt w s #[.int .u32 (id : Int), .bool true, .slice (some ⟨b, off, none⟩) np cp, .slice ah nh ch] (putAll [] (ps.take (k + 1))) [] w5) := by
          show PutAt _ _ _ _ _ _
          rw [HSN.out]
          exact hpk.prop m0 hU hM
        clear hpk hx hfx hlen m0 hU hM HPA
        go_wp2_with fail
        go_region
        go_wp2
        go_roundw
        case rel => exact ⟨k + 1, by go_num, by omega, HN2.out⟩
        case measure => simp [intOf]; omega
      · have HA : Hid (PutAt w s #[.int .u32 (id : Int), .bool true, .slice ap np cp, .slice ah nh ch] (putAll [] ps) [] wr) := Lib.hid (by
          have e : ps.take k = ps := List.take_of_length_le (by have := HNP.out; omega)
          rw [e] at hpk
          exact hpk)
        obtain ⟨wo, rfl⟩ : ∃ wo : World, wo = wr := ⟨_, rfl⟩
        have b3 := cell_of_row HA.out.box 3
        simp at b3
        clear hpk HPK HPA
        go_wp2_with fail
        clear b3
        go_loopw [50] (fun i wr => ∃ k : Nat, i = .int .i64 k ∧ k ≤ nh ∧ PutAt w s #[.int .u32 (id : Int), .bool true, .slice ap np cp, .slice ah nh ch] (putAll [] ps) (putAll [] (hs.take k)) wr) (fun i _ => nh - (intOf i).toNat)
        case atStart => exact ⟨0, rfl, Nat.zero_le _, HA.out⟩
        case round =>
          obtain ⟨k, rfl, hk, hpk⟩ := hrel
          by_cases hkn2 : k < nh
          · obtain ⟨x, hx⟩ : ∃ x, hs[k]? = some x := ⟨_, List.getElem?_eq_getElem (by rw [← HNH.out]; exact hkn2)⟩
            have hfx := HF.out.halves x (List.mem_of_getElem? hx)
            have HSN := Lib.hid (putAll_snoc hs k x hx [])
            obtain ⟨b, off, rfl, hb, p0, p1, p2, p3⟩ := HH.out.ent hx rfl
            have p0 := hpk.mod.cell p0
            have p1 := hpk.mod.cell p1
            have p2 := hpk.mod.cell p2
            have p3 := hpk.mod.cell p3
            have zc : b < wr.heap.size := Nat.lt_of_lt_of_le hb hpk.mod.size
            obtain ⟨key, vk, vn, vs⟩ := x
            simp only at p0 p1 p2 p3 hfx HSN
            have v1 := cell_of_row hpk.vert 1
            simp at v1
            have zv := lt_of_block hpk.vert
            have hlen : (putAll [] (hs.take k)).length < maxLen := by
              have h1 := putAll_length (hs.take k) []
              have h2 : (hs.take k).length ≤ k := by simp; omega
              simp at h1
              unfold maxLen; omega
            have m0 : Mod (fun _ => False) wr (wr.alloc (.cells #[.int .u32 (key : Int), .int .u8 (vk : Int), .int .i64 vn, .string vs] 57)).drew := ((Mod.refl _ _).alloc _).drew
            obtain ⟨w5, hrun, hU, hM⟩ := ((hpk.edges.keep m0)).store Tryz.underlying28 Tryz.underlying82 hlen (u32key hfx.1) (.agg #[.int .u8 (vk : Int), .int .i64 vn, .string vs])
            have HN2 : Hid (PutAt w s #[.int .u32 (id : Int), .bool true, .slice ap np cp, .slice (some ⟨b, off, none⟩) nh ch] (putAll [] ps) (putAll [] (hs.take (k + 1))) w5) := by
              show PutAt _ _ _ _ _ _
              rw [HSN.out]
              exact hpk.edge m0 hU hM
            clear hpk hx hfx hlen m0 hU hM HA
            go_wp2_with fail
            go_region
            go_wp2
            go_roundw
            case rel => exact ⟨k + 1, by go_num, by omega, HN2.out⟩
            case measure => simp [intOf]; omega
          · have HA2 : Hid (PutAt w s #[.int .u32 (id : Int), .bool true, .slice ap np cp, .slice ah nh ch] (putAll [] ps) (putAll [] hs) wr) := Lib.hid (by
              have e : hs.take k = hs := List.take_of_length_le (by have := HNH.out; omega)
              rw [e] at hpk
              exact hpk)
            have gc := hpk.mod.heap HG.out.cell (fun f => f)
            have gc0 := cell_of_row gc 0
            simp at gc0
            have b0 := cell_of_row HA2.out.box 0
            simp at b0
            have m0 : Mod (fun _ => False) wr wr.drew := (Mod.refl _ _).drew
            obtain ⟨w5, hrun, hU, hM⟩ := ((HG.out.map.keep hpk.mod).keep m0).store Tryz.underlying28 Tryz.underlying66 (by unfold maxLen; omega) HID.out (.pointer (some ⟨s + 2, 0, none⟩))
            have HFIN : Hid (Laid w g bm ⟨id, true, ps, hs⟩ es (.returned (.int .i64 0)) w5) := by
              have hl := HA2.out.lo
              have hM2 : Mod (fun k => k = bm) wr w5 := ⟨hM.os, hM.tape, hM.output, hM.size, hM.block⟩
              refine ⟨s + 2, rfl, (hpk.mod.mono (fun _ _ f => f.elim)).trans hM2, by omega, ⟨hM2.heap gc (fun e => HNE.out e.symm), hU⟩, s, s + 1, hM2.heap HA2.out.vert (by omega), HA2.out.props.mod hM2 (by omega), HA2.out.edges.mod hM2 (by omega)⟩
            clear hpk hU hM m0 gc HA
            go_wp2_with fail
            go_region
            go_wp2
            go_ret
            exact HFIN.out
end Go.Proofs.YtnkmfgklmfmfeaaGreatDoor
/- A vertex of its own: Twin. -/
namespace Go.Proofs.YtnkmfgklmfmfeaaGreatDoor
set_option linter.unusedVariables false
open Go.RowKit
def zval : Value := .string ⟨#[]⟩
theorem infoProp : (Tryz.prog.info? 86).map (fun i => (i.zero, i.size, i.bytes)) = some (some (.agg #[.int .u8 0, .int .u8 0, .int .i64 0, zval]), 4, 40) := by kernel_rfl
theorem infoHalf : (Tryz.prog.info? 57).map (fun i => (i.zero, i.size, i.bytes)) = some (some (.agg #[.int .u32 0, .int .u8 0, .int .i64 0, zval]), 4, 40) := by kernel_rfl
/-- A vertex that has been made: its slices are new, and may be written. -/
structure VNew (w0 w : World) (vp vh : Value) (x : Vtx) : Prop where
  fits : x.Fits
  props : Seg w 86 4 vp x.props.length (cellsOf .u8 x.props)
  halves : Seg w 57 4 vh x.halves.length (cellsOf .u32 x.halves)
  newp : ∀ b, vp.ownBlock = some b → w0.heap.size ≤ b
  newh : ∀ b, vh.ownBlock = some b → w0.heap.size ≤ b
theorem VNew.rd {w0 w : World} {vp vh : Value} {x : Vtx} (h : VNew w0 w vp vh x) : VRd w vp vh x := ⟨h.fits, h.props.rdS, h.halves.rdS⟩
theorem VNew.mod {S : Nat → Prop} {w0 w w' : World} {vp vh : Value} {x : Vtx} (h : VNew w0 w vp vh x) (m : Mod S w w') (hs : ∀ b, w0.heap.size ≤ b → ¬ S b) : VNew w0 w' vp vh x :=
  ⟨h.fits, h.props.mod m (fun b hb => hs b (h.newp b hb)), h.halves.mod m (fun b hb => hs b (h.newh b hb)), h.newp, h.newh⟩
theorem VNew.keep {w0 w w' : World} {vp vh : Value} {x : Vtx} (h : VNew w0 w vp vh x) (m : Mod (fun _ => False) w w') : VNew w0 w' vp vh x := h.mod m (fun _ _ f => f)
def Twins (w : World) (x : Vtx) (e : Ending) (w' : World) : Prop := ∃ vp vh, e = .returned (.agg #[.int .u32 (x.id : Int), .bool x.there, vp, vh]) ∧ Mod (fun _ => False) w w' ∧ VNew w w' vp vh x
end Go.Proofs.YtnkmfgklmfmfeaaGreatDoor
/- repair.half: a vertex' half to another one. -/
namespace Go.Proofs.YtnkmfgklmfmfeaaGreatDoor
set_option linter.unusedVariables false
open Go.RowKit
theorem half1_any (key vk : Nat) (vn : Int) (vs : ByteArray) (bf far : Nat) (w : World) (hf : w.cell? ⟨bf, 0, none⟩ = some (.int .u32 (far : Int))) :
    Calls Tryz.prog 66 #[.agg #[.int .u32 (key : Int), .int .u8 (vk : Int), .int .i64 vn, .string vs], .pointer (some ⟨bf, 0, none⟩)] w fun e w' => e = .returned (.bool (decide (key = far))) ∧ Mod (fun _ => False) w w' := by
  have hlt := World.block_lt_of_cell? _ _ hf
  have hne : bf ≠ w.heap.size := by simp at hlt; omega
  have hlt2 : bf < w.heap.size := hlt
  have HB : Hid (((key : Int) == (far : Int)) = decide (key = far)) := Lib.hid (by rw [Bool.eq_iff_iff]; simp [Int.ofNat_inj])
  have HM : Hid (∀ n, Mod (fun _ => False) w ((w.alloc (.cells #[.int .u32 (key : Int), .int .u8 (vk : Int), .int .i64 vn, .string vs] 57)).drewN n)) := fun n => ((Mod.refl _ _).alloc _).drewN n
  clear hlt
  go_enter Tryz.func66, Tryz.ntmps66
  go_wp2
  go_ret
  exact ⟨ret_bool HB.out, HM.out 0⟩
def idxE (far : Nat) : List Ent → Nat → Int
  | [], _ => -1
  | x :: r, i => if x.key = far then (i : Int) else idxE far r (i + 1)
theorem idxE_none {far : Nat} : ∀ (l : List Ent) (i : Nat), (∀ x ∈ l, x.key ≠ far) → idxE far l i = -1
  | [], _, _ => rfl
  | x :: r, i, h => by rw [idxE, if_neg (h x (by simp)), idxE_none r (i + 1) (fun y hy => h y (by simp [hy]))]
theorem idxE_at {far : Nat} : ∀ (l : List Ent) (i k : Nat) (x : Ent), l[k]? = some x → x.key = far → (∀ y ∈ l.take k, y.key ≠ far) → idxE far l i = ((i + k : Nat) : Int)
  | [], _, _, _, h, _, _ => by simp at h
  | y :: r, i, 0, x, h, hx, _ => by
    simp at h; subst h
    rw [idxE, if_pos hx]; rfl
  | y :: r, i, k + 1, x, h, hx, hp => by
    rw [idxE, if_neg (hp y (by simp)), idxE_at r (i + 1) k x (by simpa using h) hx (fun z hz => hp z (by simp [hz]))]
    congr 1; omega
theorem take_all_succ {far k : Nat} {l : List Ent} {x : Ent} (h : ∀ y ∈ l.take k, y.key ≠ far) (hx : l[k]? = some x) (hne : x.key ≠ far) : ∀ y ∈ l.take (k + 1), y.key ≠ far := by
  obtain ⟨hk, he⟩ := List.getElem?_eq_some_iff.1 hx
  rw [List.take_succ_eq_append_getElem hk, he]
  intro y hy
  rcases List.mem_append.1 hy with h' | h'
  · exact h y h'
  · simp at h'; rw [h']; exact hne
set_option maxRecDepth 100000 in
set_option maxHeartbeats 1000000 in
theorem idx_any (v : Value) (l : List Ent) (bf far : Nat) (w : World) (hv : RdS w 4 v l.length (cellsOf .u32 l)) (hf : w.cell? ⟨bf, 0, none⟩ = some (.int .u32 (far : Int))) :
    Calls Tryz.prog 65 #[v, .func (.func 66) #[] #[.pointer (some ⟨bf, 0, none⟩)]] w fun e w' => e = .returned (.int .i64 (idxE far l 0)) ∧ Mod (fun _ => False) w w' := by
  have HV := Lib.hid hv
  have HFC := Lib.hid hf
  obtain ⟨a, c, rfl, hc1, hc2, -⟩ := hv.shape
  clear hv hf
  obtain ⟨n, hn⟩ : ∃ n, n = l.length := ⟨_, rfl⟩
  have HN := Lib.hid hn
  rw [← hn] at HV hc1 ⊢
  clear hn
  go_enter Tryz.func65, Tryz.ntmps65
  go_wp2
  go_loopw [8] (fun i wr => ∃ k : Nat, i = .int .i64 k ∧ k ≤ n ∧ (∀ y ∈ l.take k, y.key ≠ far) ∧ Mod (fun _ => False) w wr) (fun i _ => n - (intOf i).toNat)
  case atStart => exact ⟨0, rfl, Nat.zero_le _, by simp, Mod.refl _ _⟩
  case round =>
    obtain ⟨k, rfl, hk, hall, hm⟩ := hrel
    have HA := Lib.hid hall
    have HM := Lib.hid hm
    clear hall
    by_cases hkn : k < n
    · obtain ⟨x, hx⟩ : ∃ x, l[k]? = some x := ⟨_, List.getElem?_eq_getElem (by rw [← HN.out]; exact hkn)⟩
      have HX := Lib.hid hx
      obtain ⟨b, off, rfl, hb, p0, p1, p2, p3⟩ := HV.out.ent hx rfl
      have p0 := hm.cell p0
      have p1 := hm.cell p1
      have p2 := hm.cell p2
      have p3 := hm.cell p3
      have HC := Lib.hid (half1_any x.key x.val.k x.val.n x.val.s bf far wr (hm.cell HFC.out))
      clear hx hm
      obtain ⟨key, vk, vn, vs⟩ := x
      simp only at p0 p1 p2 p3 HC
      by_cases hkf : key = far
      · have HF := Lib.hid (idxE_at l 0 k ⟨key, ⟨vk, vn, vs⟩⟩ HX.out hkf HA.out)
        rw [show decide (key = far) = true by simp [hkf]] at HC
        clear hkf
        go_wp2_with (go_at_call 66; refine HC.out.mono ?_; rintro e w3 ⟨rfl, hm⟩; have M3 := Lib.hid (HM.out.trans hm); clear hm)
        go_ret
        exact ⟨ret_int (by rw [HF.out]; simp), M3.out⟩
      · have HF := Lib.hid (take_all_succ HA.out HX.out hkf)
        rw [show decide (key = far) = false by simp [hkf]] at HC
        clear hkf
        go_wp2_with (go_at_call 66; refine HC.out.mono ?_; rintro e w3 ⟨rfl, hm⟩; have M3 := Lib.hid (HM.out.trans hm); clear hm)
        go_roundw
        case rel => exact ⟨k + 1, by go_num, by omega, HF.out, M3.out⟩
        case measure => simp [intOf]; omega
    · have HF := Lib.hid (idxE_none l 0 (by
        have := HA.out
        rwa [List.take_of_length_le (by have := HN.out; omega)] at this))
      clear hm
      go_wp2
      go_ret
      exact ⟨ret_int HF.out.symm, HM.out⟩
end Go.Proofs.YtnkmfgklmfmfeaaGreatDoor
