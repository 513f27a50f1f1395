import Derived.Test.YtlpdifinkcjckaaGreatDoorMEn01
import Derived.StillTailTactics
import Derived.Maps.Own
set_option linter.unusedVariables false
set_option linter.unusedSimpArgs false
namespace Go.Proofs.YtlpdifinkcjckaaGreatDoor
open Go.RowKit
theorem u32key {k : Nat} (h : k < 4294967296) : (Lit.int .u32 (k : Int)).wf = true := by go_wf
theorem u8key {k : Nat} (h : k < 256) : (Lit.int .u8 (k : Int)).wf = true := by go_wf
structure GAt (w : World) (g bm : Nat) (es : Ents) : Prop where
 cell : w.heap[g]? = some (.cells #[.map (some bm)] 86 (0, 0))
 map : UMap Tryz.prog 27 .u32 w bm es
theorem GAt.mod {S : Nat → Prop} {w w' : World} {g bm : Nat} {es : Ents} (h : GAt w g bm es) (m : Mod S w w') (h1 : ¬ S g) (h2 : ¬ S bm) : GAt w' g bm es := ⟨m.heap h.cell h1, h.map.mod m h2⟩
theorem new_any (w : World) : Calls Tryz.prog 9 #[] w fun e w' => e = .returned (.pointer (some ⟨w.heap.size + 1, 0, none⟩)) ∧ Mod (fun _ => False) w w' ∧ GAt w' (w.heap.size + 1) w.heap.size [] := by
 have hmm := @run_makeMap Tryz.prog
 have HG : Hid (GAt ((w.alloc (.map #[] 0)).alloc (.cells #[.map (some w.heap.size)] 86)) (w.heap.size + 1) w.heap.size []) :=
   ⟨by have h := heap_alloc_new' (w.alloc (.map #[] 0)) (.cells #[.map (some w.heap.size)] 86); simpa using h,
    (UMap.made Tryz.prog 27 .u32 w).keep ((Mod.refl _ _).alloc _)⟩
 go_enter Tryz.func9, Tryz.ntmps9
 go_wp2
 go_ret
 exact ⟨rfl, ((Mod.refl _ _).alloc _).alloc _, HG.out⟩
def putAll (es : Ents) (l : List Ent) : Ents := l.foldl (fun m p => putL p.key p.val.v m) es
theorem put_bad (x : Vtx) (vp vh : Value) (gp : Option Addr) (w : World) (hx : VRd w vp vh x) (hr : x.right = false) : Calls Tryz.prog 68 #[.pointer gp, vtxV x vp vh] w fun e w' => e = .returned (.int .i64 3) ∧ Mod (fun _ => False) w w' := by
 have HR : Hid (∀ w', Mod (fun _ => False) w w' → Calls Tryz.prog 92 #[.agg #[.int .u32 (x.id : Int), .bool x.there, vp, vh]] w' fun e w'' => e = .returned (.bool false) ∧ Mod (fun _ => False) w' w'') := fun w' m => by
   have := right_any x vp vh w' (hx.keep m)
   rw [hr] at this
   exact this
 show Calls _ _ #[.pointer gp, .agg #[.int .u32 (x.id : Int), .bool x.there, vp, vh]] w _
 clear hx hr
 generalize (x.id : Int) = id at HR ⊢
 generalize x.there = there at HR ⊢
 go_enter Tryz.func68, Tryz.ntmps68
 go_wp2_with (go_at_call 92; refine (HR.out _ ((Mod.refl _ _).alloc _)).mono ?_; rintro e w3 ⟨rfl, hm⟩; have M3 : Hid (Mod (fun _ => False) w w3) := ((Mod.refl _ _).alloc _).trans hm; clear hm)
 go_ret
 exact ⟨rfl, M3.out⟩
theorem right_call (x : Vtx) (vp vh : Value) (w : World) (hx : VRd w vp vh x) (b : Bool) (hr : x.right = b) : ∀ w', Mod (fun _ => False) w w' → Calls Tryz.prog 92 #[.agg #[.int .u32 (x.id : Int), .bool x.there, vp, vh]] w' fun e w'' => e = .returned (.bool b) ∧ Mod (fun _ => False) w' w'' := fun w' m => by
 have := right_any x vp vh w' (hx.keep m)
 rw [hr] at this
 exact this
theorem put_del (x : Vtx) (vp vh : Value) (g bm : Nat) (es : Ents) (w : World) (hx : VRd w vp vh x) (hr : x.right = true) (ht : x.there = false) (hg : GAt w g bm es) :
   Calls Tryz.prog 68 #[.pointer (some ⟨g, 0, none⟩), vtxV x vp vh] w fun e w' => e = .returned (.int .i64 0) ∧ Mod (fun k => k = bm) w w' ∧ GAt w' g bm (delL x.id es) := by
 have HR := Lib.hid (right_call x vp vh w hx true hr)
 have hid := hx.fits.id
 have HID := Lib.hid (u32key hid)
 show Calls _ _ #[.pointer (some ⟨g, 0, none⟩), .agg #[.int .u32 (x.id : Int), .bool x.there, vp, vh]] w _
 rw [ht] at HR ⊢
 have HG := Lib.hid hg
 have zg := lt_of_block hg.cell
 have zm := hg.map.lt
 have hne : bm ≠ g := by
   intro e
   obtain ⟨⟨es', clock, hb, _⟩⟩ := hg.map
   rw [e, hg.cell] at hb
   cases hb
 have HNE := Lib.hid hne
 clear hx hr ht hg hid hne
 generalize x.id = id at HR HID ⊢
 go_enter Tryz.func68, Tryz.ntmps68
 go_wp2_with fail
 refine (HR.out _ ((Mod.refl _ _).alloc _)).mono ?_
 rintro e w3 ⟨rfl, hm⟩
 have M3 : Hid (Mod (fun _ => False) w w3) := ((Mod.refl _ _).alloc _).trans hm
 have bx : w3.heap[w.heap.size]? = some (.cells #[.int .u32 (id : Int), .bool false, vp, vh] 47 (0, 0)) := hm.heap (heap_alloc_new' w _) (fun f => f)
 have G3 := Lib.hid (HG.out.mod M3.out (fun f => f) (fun f => f))
 have b0 := cell_of_row bx 0
 have b1 := cell_of_row bx 1
 have gc := cell_of_row G3.out.cell 0
 simp at b0 b1 gc
 clear hm bx
 go_wp2_with fail
 go_region_law (refine step_delete_u rfl (.tmp 24) (.tmp 26) 84 rfl _ Tryz.underlying84 Tryz.underlying27 rfl G3.out.map.drew id rfl HID.out ?_; intro w5 hU hM)
 all_goals
   have HF : Hid (Mod (fun k => k = bm) w w5 ∧ GAt w5 g bm (delL id es)) := by
     have hM2 : Mod (fun k => k = bm) w3 w5 := ⟨hM.os, hM.tape, hM.output, hM.size, hM.block⟩
     refine ⟨(M3.out.mono (fun _ _ f => f.elim)).trans hM2, hM2.heap G3.out.cell (fun e => HNE.out e.symm), hU⟩
   clear hU hM
   go_wp2
   go_ret
   exact ⟨rfl, HF.out.1, HF.out.2⟩
open Go.RowKit
structure PutAt (w : World) (s : Nat) (o : Array Value) (ps hs : Ents) (wr : World) : Prop where
 mod : Mod (fun _ => False) w wr
 box : wr.heap[w.heap.size]? = some (.cells o 47 (0, 0))
 vert : wr.heap[s + 2]? = some (.cells #[.map (some s), .map (some (s + 1))] 104 (0, 0))
 props : UMap Tryz.prog 5 .u8 wr s ps
 edges : UMap Tryz.prog 27 .u32 wr (s + 1) hs
 lo : w.heap.size < s
theorem PutAt.more {w wx wy : World} {s : Nat} {o : Array Value} {ps hs : Ents} (h : PutAt w s o ps hs wx) (m : Mod (fun _ => False) wx wy) : PutAt w s o ps hs wy :=
 ⟨h.mod.trans m, m.heap h.box (fun f => f), m.heap h.vert (fun f => f), h.props.keep m, h.edges.keep m, h.lo⟩
theorem PutAt.prop {w wx wz wy : World} {s : Nat} {o : Array Value} {ps ps' hs : Ents} (h : PutAt w s o ps hs wx) (m0 : Mod (fun _ => False) wx wz) (hU : UMap Tryz.prog 5 .u8 wy s ps') (m : Mod (fun i => i = s) wz wy) : PutAt w s o ps' hs wy := by
 have h0 := h.more m0
 have hl := h.lo
 exact ⟨h0.mod.trans' m (fun i hi e => by omega), m.heap h0.box (by omega), m.heap h0.vert (by omega), hU, h0.edges.mod m (by omega), hl⟩
theorem PutAt.edge {w wx wz wy : World} {s : Nat} {o : Array Value} {ps hs hs' : Ents} (h : PutAt w s o ps hs wx) (m0 : Mod (fun _ => False) wx wz) (hU : UMap Tryz.prog 27 .u32 wy (s + 1) hs') (m : Mod (fun i => i = s + 1) wz wy) : PutAt w s o ps hs' wy := by
 have h0 := h.more m0
 have hl := h.lo
 exact ⟨h0.mod.trans' m (fun i hi e => by omega), m.heap h0.box (by omega), m.heap h0.vert (by omega), h0.props.mod m (by omega), hU, hl⟩
theorem PutAt.begin {w w3 : World} {o : Array Value} (m : Mod (fun _ => False) w w3) (hb : w3.heap[w.heap.size]? = some (.cells o 47 (0, 0))) :
   PutAt w w3.heap.size o [] [] (((w3.alloc (.map #[] 0)).alloc (.map #[] 0)).alloc (.cells #[.map (some w3.heap.size), .map (some (w3.heap.size + 1))] 104)) := by
 have hm : Mod (fun _ => False) w3 (((w3.alloc (.map #[] 0)).alloc (.map #[] 0)).alloc (.cells #[.map (some w3.heap.size), .map (some (w3.heap.size + 1))] 104)) := (((Mod.refl _ _).alloc _).alloc _).alloc _
 refine ⟨m.trans hm, hm.heap hb (fun f => f), ?_, (UMap.made Tryz.prog 5 .u8 w3).keep (((Mod.refl _ _).alloc _).alloc _), ?_, lt_of_block hb⟩
 · have h := heap_alloc_new' ((w3.alloc (.map #[] 0)).alloc (.map #[] 0)) (.cells #[.map (some w3.heap.size), .map (some (w3.heap.size + 1))] 104)
   simpa using h
 · have h := (UMap.made Tryz.prog 27 .u32 (w3.alloc (.map #[] 0))).keep ((Mod.refl _ _).alloc (.cells #[.map (some w3.heap.size), .map (some (w3.heap.size + 1))] 104))
   simpa using h
theorem putAll_snoc (l : List Ent) (k : Nat) (x : Ent) (h : l[k]? = some x) (es : Ents) : putAll es (l.take (k + 1)) = putL x.key x.val.v (putAll es (l.take k)) := by
 obtain ⟨hk, hx⟩ := List.getElem?_eq_some_iff.1 h
 rw [List.take_succ_eq_append_getElem hk, hx]
 simp [putAll]
theorem putAll_length (l : List Ent) : ∀ es : Ents, (putAll es l).length ≤ es.length + l.length := by
 induction l with
 | nil => intro es; simp [putAll]
 | cons x r ih =>
   intro es
   have h1 := ih (putL x.key x.val.v es)
   have h2 := putL_length x.key x.val.v es
   show (putAll (putL x.key x.val.v es) r).length ≤ _
   simp only [List.length_cons]; omega
def LaidN (w : World) (g bm : Nat) (x : Vtx) (es : Ents) (e : Ending) (w' : World) : Prop :=
 ∃ a mp me, e = .returned (.int .i64 0) ∧ Mod (fun k => k = bm) w w' ∧ w.heap.size ≤ a ∧ w.heap.size ≤ mp ∧ w.heap.size ≤ me ∧ (a ≠ mp ∧ a ≠ me ∧ mp ≠ me) ∧ GAt w' g bm (putL x.id (.pointer (some ⟨a, 0, none⟩)) es) ∧ w'.heap[a]? = some (.cells #[.map (some mp), .map (some me)] 104 (0, 0)) ∧ UMap Tryz.prog 5 .u8 w' mp (putAll [] x.props) ∧ UMap Tryz.prog 27 .u32 w' me (putAll [] x.halves)
set_option maxRecDepth 100000 in
set_option maxHeartbeats 2000000 in
theorem put_new (x : Vtx) (vp vh : Value) (g bm : Nat) (es : Ents) (w : World) (hx : VRd w vp vh x) (hr : x.right = true) (ht : x.there = true) (hg : GAt w g bm es) (hes : es.length < 1000000) :
   Calls Tryz.prog 68 #[.pointer (some ⟨g, 0, none⟩), vtxV x vp vh] w (LaidN w g bm x es) := by
 have HR := Lib.hid (right_call x vp vh w hx true hr)
 have HID := Lib.hid (u32key hx.fits.id)
 obtain ⟨id, there, ps, hs⟩ := x
 simp only at ht
 subst ht
 have HP := Lib.hid hx.props
 have HH := Lib.hid hx.halves
 have HF := Lib.hid hx.fits
 obtain ⟨ap, cp, rfl, hcp, hcp2, hap⟩ := hx.props.shape
 obtain ⟨ah, ch, rfl, hch, hch2, hah⟩ := hx.halves.shape
 simp only at hcp hch HP HH HID
 show Calls _ _ #[.pointer (some ⟨g, 0, none⟩), .agg #[.int .u32 (id : Int), .bool true, .slice ap ps.length cp, .slice ah hs.length ch]] w _
 simp only at HR
 have HG := Lib.hid hg
 have zg := lt_of_block hg.cell
 have zm := hg.map.lt
 have hne : bm ≠ g := by
   intro e
   obtain ⟨⟨es', clock, hb, _⟩⟩ := hg.map
   rw [e, hg.cell] at hb
   cases hb
 have HNE := Lib.hid hne
 clear hx hr hg hne hap hah
 obtain ⟨np, hnp⟩ : ∃ np, np = ps.length := ⟨_, rfl⟩
 obtain ⟨nh, hnh⟩ : ∃ nh, nh = hs.length := ⟨_, rfl⟩
 have HNP := Lib.hid hnp
 have HNH := Lib.hid hnh
 rw [← hnp] at hcp HP HR ⊢
 rw [← hnh] at hch HH HR ⊢
 clear hnp hnh
 go_enter Tryz.func68, Tryz.ntmps68
 have hmm := @run_makeMap Tryz.prog
 go_wp2_with fail
 refine (HR.out _ ((Mod.refl _ _).alloc _)).mono ?_
 rintro e w3 ⟨rfl, hm⟩
 have M3 : Hid (Mod (fun _ => False) w w3) := ((Mod.refl _ _).alloc _).trans hm
 have bx : w3.heap[w.heap.size]? = some (.cells #[.int .u32 (id : Int), .bool true, .slice ap np cp, .slice ah nh ch] 47 (0, 0)) := hm.heap (heap_alloc_new' w _) (fun f => f)
 have HPA := Lib.hid (PutAt.begin M3.out bx)
 have b0 := cell_of_row bx 0
 have b1 := cell_of_row bx 1
 have b2 := cell_of_row bx 2
 have b3 := cell_of_row bx 3
 simp at b0 b1 b2 b3
 have zz := lt_of_block bx
 clear hm bx
 go_upto_region 8 with fail
 go_cut [5] (fun v wx => v = .pointer (some ⟨w3.heap.size + 2, 0, none⟩) ∧ PutAt w w3.heap.size #[.int .u32 (id : Int), .bool true, .slice ap np cp, .slice ah nh ch] [] [] wx)
 case first =>
   clear b0 b1 b2 b3
   go_wp2_with fail
   go_meet
   exact ⟨rfl, HPA.out⟩
 case rest =>
   obtain ⟨rfl, hpa⟩ := hcut
   clear b0 b1 b2 b3 hmm HPA zz
   have HPA := Lib.hid hpa
   obtain ⟨s, hs0⟩ : ∃ s, s = w3.heap.size := ⟨_, rfl⟩
   rw [← hs0] at HPA ⊢
   clear hs0 hpa
   have b0 := cell_of_row HPA.out.box 0
   have b2 := cell_of_row HPA.out.box 2
   simp at b0 b2
   go_wp2_with fail
   clear b0 b2
   go_loopw [34] (fun i wr => ∃ k : Nat, i = .int .i64 k ∧ k ≤ np ∧ PutAt w s #[.int .u32 (id : Int), .bool true, .slice ap np cp, .slice ah nh ch] (putAll [] (ps.take k)) [] wr) (fun i _ => np - (intOf i).toNat)
   case atStart => exact ⟨0, rfl, Nat.zero_le _, HPA.out⟩
   case round =>
     obtain ⟨k, rfl, hk, hpk⟩ := hrel
     have HPK := Lib.hid hpk
     by_cases hkn : k < np
     · obtain ⟨x, hx⟩ : ∃ x, ps[k]? = some x := ⟨_, List.getElem?_eq_getElem (by rw [← HNP.out]; exact hkn)⟩
       have hfx := HF.out.props x (List.mem_of_getElem? hx)
       have HSN := Lib.hid (putAll_snoc ps k x hx [])
       obtain ⟨b, off, rfl, hb, p0, p1, p2, p3⟩ := HP.out.ent hx rfl
       have p0 := hpk.mod.cell p0
       have p1 := hpk.mod.cell p1
       have p2 := hpk.mod.cell p2
       have p3 := hpk.mod.cell p3
       have zc : b < wr.heap.size := Nat.lt_of_lt_of_le hb hpk.mod.size
       obtain ⟨key, vk, vn, vs⟩ := x
       simp only at p0 p1 p2 p3 hfx HSN
       have HKEY := Lib.hid (u8key hfx.1)
       have v0 := cell_of_row hpk.vert 0
       simp at v0
       have zv := lt_of_block hpk.vert
       have hlen : (putAll [] (ps.take k)).length < maxLen := by
         have h1 := putAll_length (ps.take k) []
         have h2 : (ps.take k).length ≤ k := by simp; omega
         simp at h1
         unfold maxLen; omega
       have m0 : Mod (fun _ => False) wr (wr.alloc (.cells #[.int .u8 (key : Int), .int .u8 (vk : Int), .int .i64 vn, .string vs] 106)).drew := ((Mod.refl _ _).alloc _).drew
       obtain ⟨w5, hrun, hU, hM⟩ := ((hpk.props.keep m0)).store Tryz.underlying5 Tryz.underlying101 hlen (u8key hfx.1) (.agg #[.int .u8 (vk : Int), .int .i64 vn, .string vs])
       have HN2 : Hid (PutAt w s #[.int .u32 (id : Int), .bool true, .slice (some ⟨b, off, none⟩) np cp, .slice ah nh ch] (putAll [] (ps.take (k + 1))) [] w5) := by
         show PutAt _ _ _ _ _ _
         rw [HSN.out]
         exact hpk.prop m0 hU hM
       clear hpk hx hfx hlen m0 hU hM HPA
       go_wp2_with fail
       go_region
       go_wp2
       go_roundw
       case rel => exact ⟨k + 1, by go_num, by omega, HN2.out⟩
       case measure => simp [intOf]; omega
     · have HA : Hid (PutAt w s #[.int .u32 (id : Int), .bool true, .slice ap np cp, .slice ah nh ch] (putAll [] ps) [] wr) := Lib.hid (by
         have e : ps.take k = ps := List.take_of_length_le (by have := HNP.out; omega)
         rw [e] at hpk
         exact hpk)
       obtain ⟨wo, rfl⟩ : ∃ wo : World, wo = wr := ⟨_, rfl⟩
       have b3 := cell_of_row HA.out.box 3
       simp at b3
       clear hpk HPK HPA
       go_wp2_with fail
       clear b3
       go_loopw [50] (fun i wr => ∃ k : Nat, i = .int .i64 k ∧ k ≤ nh ∧ PutAt w s #[.int .u32 (id : Int), .bool true, .slice ap np cp, .slice ah nh ch] (putAll [] ps) (putAll [] (hs.take k)) wr) (fun i _ => nh - (intOf i).toNat)
       case atStart => exact ⟨0, rfl, Nat.zero_le _, HA.out⟩
       case round =>
         obtain ⟨k, rfl, hk, hpk⟩ := hrel
         by_cases hkn2 : k < nh
         · obtain ⟨x, hx⟩ : ∃ x, hs[k]? = some x := ⟨_, List.getElem?_eq_getElem (by rw [← HNH.out]; exact hkn2)⟩
           have hfx := HF.out.halves x (List.mem_of_getElem? hx)
           have HSN := Lib.hid (putAll_snoc hs k x hx [])
           obtain ⟨b, off, rfl, hb, p0, p1, p2, p3⟩ := HH.out.ent hx rfl
           have p0 := hpk.mod.cell p0
           have p1 := hpk.mod.cell p1
           have p2 := hpk.mod.cell p2
           have p3 := hpk.mod.cell p3
           have zc : b < wr.heap.size := Nat.lt_of_lt_of_le hb hpk.mod.size
           obtain ⟨key, vk, vn, vs⟩ := x
           simp only at p0 p1 p2 p3 hfx HSN
           have v1 := cell_of_row hpk.vert 1
           simp at v1
           have zv := lt_of_block hpk.vert
           have hlen : (putAll [] (hs.take k)).length < maxLen := by
             have h1 := putAll_length (hs.take k) []
             have h2 : (hs.take k).length ≤ k := by simp; omega
             simp at h1
             unfold maxLen; omega
           have m0 : Mod (fun _ => False) wr (wr.alloc (.cells #[.int .u32 (key : Int), .int .u8 (vk : Int), .int .i64 vn, .string vs] 109)).drew := ((Mod.refl _ _).alloc _).drew
           obtain ⟨w5, hrun, hU, hM⟩ := ((hpk.edges.keep m0)).store Tryz.underlying27 Tryz.underlying102 hlen (u32key hfx.1) (.agg #[.int .u8 (vk : Int), .int .i64 vn, .string vs])
           have HN2 : Hid (PutAt w s #[.int .u32 (id : Int), .bool true, .slice ap np cp, .slice (some ⟨b, off, none⟩) nh ch] (putAll [] ps) (putAll [] (hs.take (k + 1))) w5) := by
             show PutAt _ _ _ _ _ _
             rw [HSN.out]
             exact hpk.edge m0 hU hM
           clear hpk hx hfx hlen m0 hU hM HA
           go_wp2_with fail
           go_region
           go_wp2
           go_roundw
           case rel => exact ⟨k + 1, by go_num, by omega, HN2.out⟩
           case measure => simp [intOf]; omega
         · have HA2 : Hid (PutAt w s #[.int .u32 (id : Int), .bool true, .slice ap np cp, .slice ah nh ch] (putAll [] ps) (putAll [] hs) wr) := Lib.hid (by
             have e : hs.take k = hs := List.take_of_length_le (by have := HNH.out; omega)
             rw [e] at hpk
             exact hpk)
           have gc := hpk.mod.heap HG.out.cell (fun f => f)
           have gc0 := cell_of_row gc 0
           simp at gc0
           have b0 := cell_of_row HA2.out.box 0
           simp at b0
           have m0 : Mod (fun _ => False) wr wr.drew := (Mod.refl _ _).drew
           obtain ⟨w5, hrun, hU, hM⟩ := ((HG.out.map.keep hpk.mod).keep m0).store Tryz.underlying27 Tryz.underlying84 (by unfold maxLen; omega) HID.out (.pointer (some ⟨s + 2, 0, none⟩))
           have HFIN : Hid (LaidN w g bm ⟨id, true, ps, hs⟩ es (.returned (.int .i64 0)) w5) := by
             have hl := HA2.out.lo
             have hM2 : Mod (fun k => k = bm) wr w5 := ⟨hM.os, hM.tape, hM.output, hM.size, hM.block⟩
             refine ⟨s + 2, s, s + 1, rfl, (hpk.mod.mono (fun _ _ f => f.elim)).trans hM2, by omega, by omega, by omega, ⟨by omega, by omega, by omega⟩, ⟨hM2.heap gc (fun e => HNE.out e.symm), hU⟩, hM2.heap HA2.out.vert (by omega), HA2.out.props.mod hM2 (by omega), HA2.out.edges.mod hM2 (by omega)⟩
           clear hpk hU hM m0 gc HA
           go_wp2_with fail
           go_region
           go_wp2
           go_ret
           exact HFIN.out
open Go.RowKit
def zval : Value := .string ⟨#[]⟩
theorem infoProp : (Tryz.prog.info? 106).map (fun i => (i.zero, i.size, i.bytes)) = some (some (.agg #[.int .u8 0, .int .u8 0, .int .i64 0, zval]), 4, 40) := by kernel_rfl
theorem infoHalf : (Tryz.prog.info? 109).map (fun i => (i.zero, i.size, i.bytes)) = some (some (.agg #[.int .u32 0, .int .u8 0, .int .i64 0, zval]), 4, 40) := by kernel_rfl
structure VNew (w0 w : World) (vp vh : Value) (x : Vtx) : Prop where
 fits : x.Fits
 props : Seg w 106 4 vp x.props.length (cellsOf .u8 x.props)
 halves : Seg w 109 4 vh x.halves.length (cellsOf .u32 x.halves)
 newp : ∀ b, vp.ownBlock = some b → w0.heap.size ≤ b
 newh : ∀ b, vh.ownBlock = some b → w0.heap.size ≤ b
theorem VNew.rd {w0 w : World} {vp vh : Value} {x : Vtx} (h : VNew w0 w vp vh x) : VRd w vp vh x := ⟨h.fits, h.props.rdS, h.halves.rdS⟩
theorem VNew.mod {S : Nat → Prop} {w0 w w' : World} {vp vh : Value} {x : Vtx} (h : VNew w0 w vp vh x) (m : Mod S w w') (hs : ∀ b, w0.heap.size ≤ b → ¬ S b) : VNew w0 w' vp vh x :=
 ⟨h.fits, h.props.mod m (fun b hb => hs b (h.newp b hb)), h.halves.mod m (fun b hb => hs b (h.newh b hb)), h.newp, h.newh⟩
theorem VNew.keep {w0 w w' : World} {vp vh : Value} {x : Vtx} (h : VNew w0 w vp vh x) (m : Mod (fun _ => False) w w') : VNew w0 w' vp vh x := h.mod m (fun _ _ f => f)
def Twins (w : World) (x : Vtx) (e : Ending) (w' : World) : Prop := ∃ vp vh, e = .returned (.agg #[.int .u32 (x.id : Int), .bool x.there, vp, vh]) ∧ Mod (fun _ => False) w w' ∧ VNew w w' vp vh x
open Go.RowKit
open Go.RowKit
open Go.RowKit
structure Vs where
 x : Vtx
 vp : Value
 vh : Value
def Vs.v (s : Vs) : Value := vtxV s.x s.vp s.vh
def Vs.cells (s : Vs) : List Value := [.int .u32 (s.x.id : Int), .bool s.x.there, s.vp, s.vh]
def vcells (l : List Vs) : List Value := l.flatMap Vs.cells
theorem vcells_get : ∀ (l : List Vs) (i j : Nat) (x : Vs), l[i]? = some x → j < 4 → (vcells l)[i * 4 + j]? = x.cells[j]?
 | [], i, j, x, h, _ => by simp at h
 | y :: r, 0, j, x, h, hj => by
   simp at h
   subst h
   show (y.cells ++ vcells r)[0 * 4 + j]? = _
   rw [Nat.zero_mul, Nat.zero_add, List.getElem?_append_left (by simpa [Vs.cells] using hj)]
 | y :: r, i + 1, j, x, h, hj => by
   simp at h
   show (y.cells ++ vcells r)[(i + 1) * 4 + j]? = _
   rw [List.getElem?_append_right (by simp [Vs.cells]; omega)]
   have e : (i + 1) * 4 + j - y.cells.length = i * 4 + j := by simp [Vs.cells]; omega
   rw [e]
   exact vcells_get r i j x h hj
structure LRd (w : World) (v : Value) (l : List Vs) : Prop where
 row : RdS w 4 v l.length (vcells l)
 each : ∀ s ∈ l, VRd w s.vp s.vh s.x
theorem LRd.keep {w w' : World} {v : Value} {l : List Vs} (h : LRd w v l) (m : Mod (fun _ => False) w w') : LRd w' v l := ⟨h.row.keep m, fun s hs => (h.each s hs).keep m⟩
theorem LRd.at {w : World} {v : Value} {l : List Vs} (h : LRd w v l) {i : Nat} {x : Vs} (hi : l[i]? = some x) : VRd w x.vp x.vh x.x := h.each x (List.mem_of_getElem? hi)
theorem LRd.ent {w : World} {v : Value} {l : List Vs} (h : LRd w v l) {i : Nat} {x : Vs} (hi : l[i]? = some x) {a : Option Addr} {n c : Nat} (e : v = .slice a n c) :
   ∃ b off, a = some ⟨b, off, none⟩ ∧ b < w.heap.size ∧ w.cell? ⟨b, off + i * 4, none⟩ = some (.int .u32 (x.x.id : Int)) ∧ w.cell? ⟨b, off + i * 4 + 1, none⟩ = some (.bool x.x.there) ∧ w.cell? ⟨b, off + i * 4 + 2, none⟩ = some x.vp ∧ w.cell? ⟨b, off + i * 4 + 3, none⟩ = some x.vh := by
 have g := fun j hj => vcells_get l i j x hi hj
 obtain ⟨a', c', e', -⟩ := h.row.shape
 rw [e] at e'
 injection e' with e1 e2 e3
 rw [e2] at e
 obtain ⟨b, off, ea, hb, h0⟩ := h.row.cell a c e (i * 4 + 0) (.int .u32 (x.x.id : Int)) (by rw [g 0 (by omega)]; rfl)
 obtain ⟨b1, off1, ea1, _, h1⟩ := h.row.cell a c e (i * 4 + 1) (.bool x.x.there) (by rw [g 1 (by omega)]; rfl)
 obtain ⟨b2, off2, ea2, _, h2⟩ := h.row.cell a c e (i * 4 + 2) x.vp (by rw [g 2 (by omega)]; rfl)
 obtain ⟨b3, off3, ea3, _, h3⟩ := h.row.cell a c e (i * 4 + 3) x.vh (by rw [g 3 (by omega)]; rfl)
 rw [ea] at ea1 ea2 ea3
 injection ea1 with e1; injection e1 with e1 e1'
 injection ea2 with e2; injection e2 with e2 e2'
 injection ea3 with e3; injection e3 with e3 e3'
 subst e1 e1' e2 e2' e3 e3'
 exact ⟨b, off, ea, hb, h0, by rw [Nat.add_assoc]; exact h1, by rw [Nat.add_assoc]; exact h2, by rw [Nat.add_assoc]; exact h3⟩
section
variable {w0 W : World} {g bm b5 id n : Nat} {o : Array Value}
end
open Go.RowKit
open Go.RowKit
structure Ls where
 v : Value
 l : List Vs
theorem RdS.one {w : World} {v : Value} {n m : Nat} {xs : List Value} (h : RdS w 1 v n xs) {i : Nat} {x : Value} (hi : xs[i]? = some x) {a : Option Addr} {c : Nat} (e : v = .slice a m c) :
   ∃ b off, a = some ⟨b, off, none⟩ ∧ b < w.heap.size ∧ w.cell? ⟨b, off + i, none⟩ = some x := by
 obtain ⟨a', c', e', -⟩ := h.shape
 rw [e] at e'
 injection e' with e1 e2 e3
 rw [e2] at e
 exact h.cell a c e i x hi
def held (up : List Bool) : Nat → List Ls → List (Nat × Vs)
 | _, [] => []
 | n, s :: r => (if up[n]? = some true then s.l.map (fun x => (n, x)) else []) ++ held up (n + 1) r
def heldTo (up : List Bool) (ls : List Ls) (n : Nat) : List (Nat × Vs) := held up 0 (ls.take n)
open Go.RowKit
deriving instance DecidableEq for Val
open Go.RowKit
def part (up : List Bool) (ls : List Ls) (k : Nat) (xl : List Vs) (j : Nat) : List (Nat × Vs) := heldTo up ls k ++ (xl.take j).map (fun x => (k, x))
open Go.RowKit
open Go.RowKit
open Go.RowKit
def farE (f : Nat) : Ent := ⟨f, ⟨0, 0, ⟨#[]⟩⟩⟩
theorem src_cells {w : World} {n0 size : Nat} (hn : w.heap.size = n0) (t : TypeId) (cs : Array Value) (hs : cs.size = size) (h1 : ∀ u ∈ cs.toList, u.oneCell' = true) : Src (w.alloc (.cells cs t)) size (.slice (some ⟨n0, 0, none⟩) 1 1) 1 cs.toList := by
 subst hn
 exact Src.one (size := size) w cs t 1 1 (by omega) h1
open Go.RowKit
open Go.RowKit
def VOff (S : Nat → Prop) (s : Vs) : Prop := (∀ b, s.vp.ownBlock = some b → ¬ S b) ∧ (∀ b, s.vh.ownBlock = some b → ¬ S b)
def LOff (S : Nat → Prop) (v : Value) (l : List Vs) : Prop := (∀ b, v.ownBlock = some b → ¬ S b) ∧ ∀ s ∈ l, VOff S s
theorem VOff.mono {S T : Nat → Prop} {s : Vs} (h : VOff S s) (i : ∀ k, T k → S k) : VOff T s := ⟨fun b hb t => h.1 b hb (i b t), fun b hb t => h.2 b hb (i b t)⟩
theorem LOff.mono {S T : Nat → Prop} {v : Value} {l : List Vs} (h : LOff S v l) (i : ∀ k, T k → S k) : LOff T v l := ⟨fun b hb t => h.1 b hb (i b t), fun s hs => (h.2 s hs).mono i⟩
structure VOwn (w : World) (s : Vs) : Prop where
 fits : s.x.Fits
 props : Seg w 106 4 s.vp s.x.props.length (cellsOf .u8 s.x.props)
 halves : Seg w 109 4 s.vh s.x.halves.length (cellsOf .u32 s.x.halves)
theorem VOwn.rd {w : World} {s : Vs} (h : VOwn w s) : VRd w s.vp s.vh s.x := ⟨h.fits, h.props.rdS, h.halves.rdS⟩
theorem VOwn.mod {S : Nat → Prop} {w w' : World} {s : Vs} (h : VOwn w s) (m : Mod S w w') (o : VOff S s) : VOwn w' s := ⟨h.fits, h.props.mod m o.1, h.halves.mod m o.2⟩
theorem VOwn.lt {w : World} {s : Vs} (h : VOwn w s) : VOff (fun k => w.heap.size ≤ k) s := ⟨fun b hb t => by have := h.props.lt b hb; omega, fun b hb t => by have := h.halves.lt b hb; omega⟩
theorem VNew.vown {w0 w : World} {vp vh : Value} {x : Vtx} (h : VNew w0 w vp vh x) : VOwn w ⟨x, vp, vh⟩ := ⟨h.fits, h.props, h.halves⟩
structure LOwn (w : World) (v : Value) (l : List Vs) : Prop where
 row : Seg w 47 4 v l.length (vcells l)
 each : ∀ s ∈ l, VOwn w s
 apart : ∀ s ∈ l, VOff (fun k => v.ownBlock = some k) s
theorem LOwn.rd {w : World} {v : Value} {l : List Vs} (h : LOwn w v l) : LRd w v l := ⟨h.row.rdS, fun s hs => (h.each s hs).rd⟩
theorem LOwn.mod {S : Nat → Prop} {w w' : World} {v : Value} {l : List Vs} (h : LOwn w v l) (m : Mod S w w') (o : LOff S v l) : LOwn w' v l := ⟨h.row.mod m o.1, fun s hs => (h.each s hs).mod m (o.2 s hs), h.apart⟩
theorem LOwn.lt {w : World} {v : Value} {l : List Vs} (h : LOwn w v l) : LOff (fun k => w.heap.size ≤ k) v l := ⟨fun b hb t => by have := h.row.lt b hb; omega, fun s hs => (h.each s hs).lt⟩
theorem LOwn.nil (w : World) : LOwn w (.slice none 0 0) [] := ⟨Seg.nil _ _ _, by simp, by simp⟩
theorem vcells_snoc (l : List Vs) (s : Vs) : vcells (l ++ [s]) = vcells l ++ s.cells := by simp [vcells]
theorem mod_grown {w w' : World} {v : Value} (g : w.grownBy w' v.ownBlock) : Mod (fun k => v.ownBlock = some k) w w' := ⟨g.os, g.tape, g.output, g.size, fun k hk hne => g.block k hk (fun e => hne e.symm)⟩
theorem infoVtx : (Tryz.prog.info? 47).map (fun i => (i.zero, i.size, i.bytes)) = some (some (.agg #[.int .u32 0, .bool false, .slice none 0 0, .slice none 0 0]), 4, 56) := by kernel_rfl
open Go.RowKit
open Go.RowKit
def va : Vtx := ⟨1, true, [], [farE 2]⟩
def vb : Vtx := ⟨2, true, [], []⟩
theorem rd_lit (w : World) (t : TypeId) (cs : Array Value) (n size n0 : Nat) (h0 : w.heap.size = n0) (hs : cs.size = n * size) (hn : n ≤ maxLen) (h1 : ∀ u ∈ cs.toList, u.oneCell' = true) : RdS (w.alloc (.cells cs t)) size (.slice (some ⟨n0, 0, none⟩) n n) n cs.toList := by
 subst h0
 exact (Seg.lit (e := t) (size := size) w cs n hs hn h1).rdS
end Go.Proofs.YtlpdifinkcjckaaGreatDoor
