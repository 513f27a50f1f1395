import Derived.Test.YtlpdifinkcjckaaGreatDoorMFw29
import Derived.Test.YtlpdifinkcjckaaGreatDoorMNFro01
import Derived.Test.YtlpdifinkcjckaaGreatDoorMNWan01
import Derived.Test.YtlpdifinkcjckaaGreatDoorMNRun02
import Derived.Test.YtlpdifinkcjckaaGreatDoorMNRun08
set_option linter.unusedVariables false
set_option linter.unusedSimpArgs false
namespace Go.Proofs.YtlpdifinkcjckaaGreatDoor
open Go.RowKit
structure BoAt (w : World) (o o' : Array Value) (wr : World) : Prop where
 mod : Mod (fun _ => False) w wr
 one : wr.heap[w.heap.size]? = some (.cells o 47 (0, 0))
 two : wr.heap[w.heap.size + 1]? = some (.cells o' 47 (0, 0))
theorem BoAt.more {w wx wy : World} {o o' : Array Value} (h : BoAt w o o' wx) (m : Mod (fun _ => False) wx wy) : BoAt w o o' wy := ⟨h.mod.trans m, m.heap h.one (fun f => f), m.heap h.two (fun f => f)⟩
theorem BoAt.begin (w : World) (o o' : Array Value) : BoAt w o o' ((w.alloc (.cells o 47)).alloc (.cells o' 47)) :=
 ⟨((Mod.refl _ w).alloc _).alloc _, heap_alloc_old (heap_alloc_new' w _), by have := heap_alloc_new' (w.alloc (.cells o 47)) (.cells o' 47); simpa using this⟩
set_option maxRecDepth 100000 in
set_option maxHeartbeats 2000000 in
theorem vsame_yes (x : Vtx) (vp vh vp' vh' : Value) (w : World) (h1 : VRd w vp vh x) (h2 : VRd w vp' vh' x) :
   Calls Tryz.prog 17 #[vtxV x vp vh, vtxV x vp' vh'] w fun e w' => e = .returned (.bool true) ∧ Mod (fun _ => False) w w' := by
 obtain ⟨id, there, ps, hs⟩ := x
 have HP := Lib.hid h1.props
 have HH := Lib.hid h1.halves
 have HP2 := Lib.hid h2.props
 have HH2 := Lib.hid h2.halves
 simp only at HP HH HP2 HH2
 obtain ⟨ap, cp, rfl, hcp, hcp2, -⟩ := h1.props.shape
 obtain ⟨ah, ch, rfl, hch, hch2, -⟩ := h1.halves.shape
 obtain ⟨ap', cp', rfl, hcp', hcp2', -⟩ := h2.props.shape
 obtain ⟨ah', ch', rfl, hch', hch2', -⟩ := h2.halves.shape
 clear h1 h2
 simp only [vtxV] at *
 obtain ⟨np, hnp⟩ : ∃ n, n = ps.length := ⟨_, rfl⟩
 have HNP := Lib.hid hnp
 rw [← hnp] at HP HP2 hcp hcp' ⊢
 obtain ⟨nh, hnh⟩ : ∃ n, n = hs.length := ⟨_, rfl⟩
 have HNH := Lib.hid hnh
 rw [← hnh] at HH HH2 hch hch' ⊢
 clear hnp hnh
 have HB := Lib.hid (BoAt.begin w #[.int .u32 (id : Int), .bool there, .slice ap np cp, .slice ah nh ch] #[.int .u32 (id : Int), .bool there, .slice ap' np cp', .slice ah' nh ch'])
 go_enter Tryz.func17, Tryz.ntmps17
 go_wp2
 go_loopw [40] (fun i wr => ∃ k : Nat, i = .int .i64 k ∧ k ≤ np ∧ BoAt w #[.int .u32 (id : Int), .bool there, .slice ap np cp, .slice ah nh ch] #[.int .u32 (id : Int), .bool there, .slice ap' np cp', .slice ah' nh ch'] wr) (fun i _ => np - (intOf i).toNat)
 case atStart => exact ⟨0, rfl, Nat.zero_le _, HB.out⟩
 case round =>
   obtain ⟨k, rfl, hk, hm⟩ := hrel
   have HM := Lib.hid hm
   clear hm HB
   by_cases hkn : k < np
   · obtain ⟨x, hx⟩ : ∃ x, ps[k]? = some x := ⟨_, List.getElem?_eq_getElem (by rw [← HNP.out]; exact hkn)⟩
     obtain ⟨b, off, e1, hb, p0, p1, p2, p3⟩ := HP.out.ent2 hx rfl
     obtain ⟨b', off', e2, hb', q0, q1, q2, q3⟩ := HP2.out.ent2 hx rfl
     have d0 := cell_of_row HM.out.one 2
     have d1 := cell_of_row HM.out.two 2
     simp at d0 d1
     subst e1 e2
     have p0 : ∀ x : MW wr, x.w.cell? _ = some _ := fun x => x.cell (HM.out.mod.cell p0)
     have p1 : ∀ x : MW wr, x.w.cell? _ = some _ := fun x => x.cell (HM.out.mod.cell p1)
     have p2 : ∀ x : MW wr, x.w.cell? _ = some _ := fun x => x.cell (HM.out.mod.cell p2)
     have p3 : ∀ x : MW wr, x.w.cell? _ = some _ := fun x => x.cell (HM.out.mod.cell p3)
     have q0 : ∀ x : MW wr, x.w.cell? _ = some _ := fun x => x.cell (HM.out.mod.cell q0)
     have q1 : ∀ x : MW wr, x.w.cell? _ = some _ := fun x => x.cell (HM.out.mod.cell q1)
     have q2 : ∀ x : MW wr, x.w.cell? _ = some _ := fun x => x.cell (HM.out.mod.cell q2)
     have q3 : ∀ x : MW wr, x.w.cell? _ = some _ := fun x => x.cell (HM.out.mod.cell q3)
     have d0 : ∀ x : MW wr, x.w.cell? _ = some _ := fun x => x.cell d0
     have d1 : ∀ x : MW wr, x.w.cell? _ = some _ := fun x => x.cell d1
     clear hx hb hb'
     obtain ⟨key, ⟨vk, vn, vs⟩⟩ := x
     simp only at p0 p1 p2 p3 q0 q1 q2 q3
     go_wp2_with fail
     refine wp_region_quietM (by kernel_rfl) (by kernel_rfl) ?_
     repeat (go_big_quiet_step (fail))
     refine wpQuiet_nil ?_
     intro w3 hm3
     have M3 := Lib.hid (HM.out.more (MW.mod_of hm3))
     clear hm3 p0 p1 p2 p3 q0 q1 q2 q3 d0 d1
     go_wp2
     go_roundw
     case rel => exact ⟨k + 1, by go_num, by omega, M3.out⟩
     case measure => simp [intOf]; omega
   · have HB := Lib.hid HM.out
     have g3 := cell_of_row HM.out.one 3
     have g4 := cell_of_row HM.out.two 3
     simp at g3 g4
     go_wp2
     go_loopw [58] (fun i wr => ∃ k : Nat, i = .int .i64 k ∧ k ≤ nh ∧ BoAt w #[.int .u32 (id : Int), .bool there, .slice ap np cp, .slice ah nh ch] #[.int .u32 (id : Int), .bool there, .slice ap' np cp', .slice ah' nh ch'] wr) (fun i _ => nh - (intOf i).toNat)
     case atStart => exact ⟨0, rfl, Nat.zero_le _, HB.out⟩
     case round =>
       obtain ⟨k, rfl, hk, hm⟩ := hrel
       have HM := Lib.hid hm
       clear hm HB
       by_cases hkn : k < nh
       · obtain ⟨x, hx⟩ : ∃ x, hs[k]? = some x := ⟨_, List.getElem?_eq_getElem (by rw [← HNH.out]; exact hkn)⟩
         obtain ⟨b, off, e1, hb, p0, p1, p2, p3⟩ := HH.out.ent2 hx rfl
         obtain ⟨b', off', e2, hb', q0, q1, q2, q3⟩ := HH2.out.ent2 hx rfl
         have d0 := cell_of_row HM.out.one 3
         have d1 := cell_of_row HM.out.two 3
         simp at d0 d1
         subst e1 e2
         have p0 : ∀ x : MW wr, x.w.cell? _ = some _ := fun x => x.cell (HM.out.mod.cell p0)
         have p1 : ∀ x : MW wr, x.w.cell? _ = some _ := fun x => x.cell (HM.out.mod.cell p1)
         have p2 : ∀ x : MW wr, x.w.cell? _ = some _ := fun x => x.cell (HM.out.mod.cell p2)
         have p3 : ∀ x : MW wr, x.w.cell? _ = some _ := fun x => x.cell (HM.out.mod.cell p3)
         have q0 : ∀ x : MW wr, x.w.cell? _ = some _ := fun x => x.cell (HM.out.mod.cell q0)
         have q1 : ∀ x : MW wr, x.w.cell? _ = some _ := fun x => x.cell (HM.out.mod.cell q1)
         have q2 : ∀ x : MW wr, x.w.cell? _ = some _ := fun x => x.cell (HM.out.mod.cell q2)
         have q3 : ∀ x : MW wr, x.w.cell? _ = some _ := fun x => x.cell (HM.out.mod.cell q3)
         have d0 : ∀ x : MW wr, x.w.cell? _ = some _ := fun x => x.cell d0
         have d1 : ∀ x : MW wr, x.w.cell? _ = some _ := fun x => x.cell d1
         clear hx hb hb'
         obtain ⟨key, ⟨vk, vn, vs⟩⟩ := x
         simp only at p0 p1 p2 p3 q0 q1 q2 q3
         go_wp2_with fail
         refine wp_region_quietM (by kernel_rfl) (by kernel_rfl) ?_
         repeat (go_big_quiet_step (fail))
         refine wpQuiet_nil ?_
         intro w3 hm3
         have M3 := Lib.hid (HM.out.more (MW.mod_of hm3))
         clear hm3 p0 p1 p2 p3 q0 q1 q2 q3 d0 d1
         go_wp2
         go_roundw
         case rel => exact ⟨k + 1, by go_num, by omega, M3.out⟩
         case measure => simp [intOf]; omega
       · have HB := Lib.hid HM.out
         have g3 := cell_of_row HM.out.one 3
         have g4 := cell_of_row HM.out.two 3
         simp at g3 g4
         go_wp2
         go_ret
         exact ⟨rfl, HM.out.mod⟩
open Go.RowKit Go.Maps
theorem formL_iff {l : List Vtx} : formL l = true ↔ (∀ x ∈ l, x.right = true) ∧ apartL l := by
 unfold formL
 rw [Bool.and_eq_true, List.all_eq_true, decide_eq_true_iff, (seenK_len l).2]
theorem formL_nil : formL [] = true := formL_iff.2 ⟨by simp, by simp [apartL]⟩
theorem formL_snoc {p : List Vtx} {x : Vtx} (h : formL p = true) (hr : x.right = true) (hd : ∀ y ∈ p, y.id ≠ x.id) : formL (p ++ [x]) = true := by
 obtain ⟨h1, h2⟩ := formL_iff.1 h
 refine formL_iff.2 ⟨fun y hy => ?_, ?_⟩
 · rcases List.mem_append.1 hy with hy | hy
   · exact h1 y hy
   · rw [List.mem_singleton] at hy; rw [hy]; exact hr
 · unfold apartL at h2 ⊢
   rw [List.map_append, List.nodup_append]
   refine ⟨h2, by simp, fun a ha b hb => ?_⟩
   obtain ⟨y, hy, rfl⟩ := List.mem_map.1 ha
   simp at hb
   rw [hb]
   exact hd y hy
theorem formL_wrong {l : List Vtx} {x : Vtx} (hx : x ∈ l) (hr : x.right = false) : formL l = false := by
 cases h : formL l with
 | false => rfl
 | true => rw [(formL_iff.1 h).1 x hx] at hr; cases hr
theorem formL_twice {l : List Vtx} {i j : Nat} {x y : Vtx} (hi : l[i]? = some x) (hj : l[j]? = some y) (hij : i < j) (e : x.id = y.id) : formL l = false := by
 cases h : formL l with
 | false => rfl
 | true =>
   have h2 := (formL_iff.1 h).2
   unfold apartL List.Nodup at h2
   rw [List.pairwise_iff_getElem] at h2
   obtain ⟨a1, a2⟩ := List.getElem?_eq_some_iff.1 hi
   obtain ⟨b1, b2⟩ := List.getElem?_eq_some_iff.1 hj
   have h3 := h2 i j (by simpa using a1) (by simpa using b1) hij
   rw [List.getElem_map, List.getElem_map, a2, b2] at h3
   exact absurd e h3
set_option maxRecDepth 100000 in
set_option maxHeartbeats 4000000 in
theorem form18_any (l : List Vs) (vl : Value) (w : World) (hl : LRd w vl l) (hz : ∀ s ∈ l, s.x.props.length + s.x.halves.length < 4611686018427387904) :
   Calls Tryz.prog 45 #[vl] w fun e w' => e = .returned (.bool (formL (l.map Vs.x))) ∧ Mod (fun _ => False) w w' := by
 have HL := Lib.hid hl
 have HZ := Lib.hid hz
 obtain ⟨a, c, rfl, hc1, hc2, -⟩ := hl.row.shape
 obtain ⟨n, hn⟩ : ∃ n, n = l.length := ⟨_, rfl⟩
 have HN := Lib.hid hn
 rw [← hn] at HL hc1 ⊢
 clear hl hz hn
 go_enter Tryz.func45, Tryz.ntmps45
 go_wp2
 go_loopw [9] (fun i wr => ∃ k : Nat, i = .int .i64 (k : Int) ∧ k ≤ n ∧ formL ((l.map Vs.x).take k) = true ∧ Mod (fun _ => False) w wr) (fun i _ => n - (intOf i).toNat)
 case atStart => exact ⟨0, rfl, Nat.zero_le _, formL_nil, Mod.refl _ _⟩
 case round =>
   obtain ⟨k, rfl, hk, hf, hm⟩ := hrel
   have HF := Lib.hid hf
   have HM := Lib.hid hm
   clear hf hm
   by_cases hkn : k < n
   · obtain ⟨s, hs⟩ : ∃ s, l[k]? = some s := ⟨_, List.getElem?_eq_getElem (by rw [← HN.out]; exact hkn)⟩
     obtain ⟨bl, offl, e0, hbl, r0, r1, r2, r3⟩ := HL.out.ent hs rfl
     replace r0 := HM.out.cell r0
     replace r1 := HM.out.cell r1
     replace r2 := HM.out.cell r2
     replace r3 := HM.out.cell r3
     have zbl : bl < wr.heap.size := Nat.lt_of_lt_of_le hbl HM.out.size
     have hvr := HL.out.at hs
     have hxm : (l.map Vs.x)[k]? = some s.x := by rw [List.getElem?_map, hs]; rfl
     have HXM := Lib.hid hxm
     have HRT : Hid (∀ w', Mod (fun _ => False) w w' → Calls Tryz.prog 73 #[vtxV s.x s.vp s.vh] w' fun e w'' => e = .returned (.bool s.x.right) ∧ Mod (fun _ => False) w' w'') := Lib.hid (fun w' m => dright_any s.x s.vp s.vh w' (hvr.keep m) (HZ.out s (List.mem_of_getElem? hs)))
     obtain ⟨ap, cp, ep, -⟩ := hvr.props.shape
     obtain ⟨ah, ch, eh, -⟩ := hvr.halves.shape
     subst e0
     clear hs hvr hxm
     obtain ⟨⟨id, th, ps, hs⟩, vp, vh⟩ := s
     simp only at r0 r1 r2 r3 ep eh HXM HRT
     subst ep eh
     simp only [vtxV] at HRT
     obtain ⟨np, hnp⟩ : ∃ n, n = ps.length := ⟨_, rfl⟩
     obtain ⟨nh, hnh⟩ : ∃ n, n = hs.length := ⟨_, rfl⟩
     rw [← hnp, ← hnh] at HRT
     rw [← hnp] at r2
     rw [← hnh] at r3
     obtain ⟨W2, hW2⟩ : ∃ W, W = wr.alloc (.cells #[.int .u32 (id : Int), .bool th, .slice ap np cp, .slice ah nh ch] 47) := ⟨_, rfl⟩
     have HM2 : Hid (Mod (fun _ => False) wr W2) := Lib.hid (by rw [hW2]; exact (Mod.refl _ _).alloc _)
     have HB2 : Hid (W2.heap[wr.heap.size]? = some (.cells #[.int .u32 (id : Int), .bool th, .slice ap np cp, .slice ah nh ch] 47 (0, 0))) := Lib.hid (by rw [hW2]; exact heap_alloc_new' _ _)
     obtain ⟨rt, hrt⟩ : ∃ b, b = Vtx.right ⟨id, th, ps, hs⟩ := ⟨_, rfl⟩
     rw [← hrt] at HRT
     have HRR := Lib.hid hrt
     clear hnp hnh hrt
     go_upto_region 4 with fail
     rw [← hW2]
     clear hW2 r0 r1 r2 r3 zbl
     have d0 := cell_of_row HB2.out 0
     have d1 := cell_of_row HB2.out 1
     have d2 := cell_of_row HB2.out 2
     have d3 := cell_of_row HB2.out 3
     have zd := lt_of_block HB2.out
     simp at d0 d1 d2 d3
     cases rt with
     | false =>
       go_wp2_with (go_at_call 73; go_loud (refine (HRT.out _ (HM.out.trans HM2.out)).mono ?_; (rintro e w3 ⟨rfl, hm3⟩); have HM3 := Lib.hid (HM2.out.trans hm3); clear hm3))
       have HFF := Lib.hid (formL_wrong (List.mem_of_getElem? HXM.out) HRR.out.symm)
       rw [HFF.out]
       go_ret
       exact ⟨rfl, HM.out.trans HM3.out⟩
     | true =>
       have hki : (k : Int) ≤ (c : Int) := by omega
       go_wp2_with (go_at_call 73; go_loud (refine (HRT.out _ (HM.out.trans HM2.out)).mono ?_; (rintro e w3 ⟨rfl, hm3⟩); have HM3 := Lib.hid (HM2.out.trans hm3); have HB3 := Lib.hid (hm3.heap HB2.out (fun f => f)); clear hm3 d0 d1 d2 d3 zd))
       go_loopw [21] (fun i wx => ∃ j : Nat, i = .int .i64 (j : Int) ∧ j ≤ k ∧ (∀ y ∈ (l.map Vs.x).take j, y.id ≠ id) ∧ Mod (fun _ => False) w3 wx) (fun i _ => k - (intOf i).toNat)
       case atStart => exact ⟨0, rfl, Nat.zero_le _, by simp, Mod.refl _ _⟩
       case round =>
         obtain ⟨j, rfl, hj, hne, hmj⟩ := hrel
         have HNE := Lib.hid hne
         have HMJ := Lib.hid hmj
         have HB4 := Lib.hid (hmj.heap HB3.out (fun f => f))
         have d0 := cell_of_row HB4.out 0
         have zd := lt_of_block HB4.out
         simp at d0
         clear hne hmj
         by_cases hjk : j < k
         · obtain ⟨t, ht⟩ : ∃ s, l[j]? = some s := ⟨_, List.getElem?_eq_getElem (by rw [← HN.out]; omega)⟩
           obtain ⟨bt, offt, e0, hbt, q0, q1, q2, q3⟩ := HL.out.ent ht rfl
           have HWX := Lib.hid ((HM.out.trans HM3.out).trans HMJ.out)
           replace q0 := HWX.out.cell q0
           replace q1 := HWX.out.cell q1
           replace q2 := HWX.out.cell q2
           replace q3 := HWX.out.cell q3
           have zbt := Nat.lt_of_lt_of_le hbt HWX.out.size
           have htm : (l.map Vs.x)[j]? = some t.x := by rw [List.getElem?_map, ht]; rfl
           have HTM := Lib.hid htm
           have HTK : Hid ((l.map Vs.x).take (j + 1) = (l.map Vs.x).take j ++ [t.x]) := Lib.hid (take_snoc htm)
           have hvt := HL.out.at ht
           obtain ⟨ap2, cp2, ep2, -⟩ := hvt.props.shape
           obtain ⟨ah2, ch2, eh2, -⟩ := hvt.halves.shape
           simp only [Option.some.injEq, Addr.mk.injEq, and_true, true_and] at e0
           obtain ⟨rfl, rfl⟩ := e0
           clear ht hvt htm hbt
           obtain ⟨⟨id2, th2, ps2, hs2⟩, vp2, vh2⟩ := t
           simp only at q0 q1 q2 q3 ep2 eh2 HTM HTK
           subst ep2 eh2
           by_cases hid : id2 = id
           · subst hid
             go_wp2
             have HFF := Lib.hid (formL_twice HTM.out HXM.out hjk rfl)
             rw [HFF.out]
             go_ret
             exact ⟨rfl, HWX.out.alloc _⟩
           · have hid1 : ((id2 : Int) == (id : Int)) = false := by simp; omega
             have hid2 : ¬ (id2 : Int) = (id : Int) := by omega
             go_wp2
             go_roundw
             case rel => exact ⟨j + 1, by go_num, by omega, fun y hy => by
               rw [HTK.out] at hy
               rcases List.mem_append.1 hy with hy | hy
               · exact HNE.out y hy
               · rw [List.mem_singleton] at hy; rw [hy]; exact hid, HMJ.out.alloc _⟩
             case measure => simp [intOf]; omega
         · have hjk2 : j = k := by omega
           subst hjk2
           have HFN : Hid (formL ((l.map Vs.x).take (j + 1)) = true) := Lib.hid (by rw [take_snoc HXM.out]; exact formL_snoc HF.out HRR.out.symm HNE.out)
           go_wp2
           go_roundw
           case rel => exact ⟨j + 1, by go_num, by omega, HFN.out, (HM.out.trans HM3.out).trans HMJ.out⟩
           case measure => simp [intOf]; omega
   · have HFF : Hid (formL (l.map Vs.x) = true) := Lib.hid (by have h := HF.out; rw [List.take_of_length_le (by rw [List.length_map, ← HN.out]; omega)] at h; exact h)
     go_wp2
     go_ret
     exact ⟨by rw [HFF.out]; rfl, HM.out⟩
open Go.RowKit
set_option maxRecDepth 100000 in
set_option maxHeartbeats 4000000 in
theorem vsame_any (x y : Vtx) (vp vh vp' vh' : Value) (w : World) (h1 : VRd w vp vh x) (h2 : VRd w vp' vh' y) :
   Calls Tryz.prog 17 #[vtxV x vp vh, vtxV y vp' vh'] w fun e w' => e = .returned (.bool (decide (x = y))) ∧ Mod (fun _ => False) w w' := by
 obtain ⟨id, th, ps, hs⟩ := x
 obtain ⟨id', th', ps', hs'⟩ := y
 have HP := Lib.hid h1.props
 have HH := Lib.hid h1.halves
 have HP2 := Lib.hid h2.props
 have HH2 := Lib.hid h2.halves
 simp only at HP HH HP2 HH2
 obtain ⟨ap, cp, rfl, hcp, hcp2, -⟩ := h1.props.shape
 obtain ⟨ah, ch, rfl, hch, hch2, -⟩ := h1.halves.shape
 obtain ⟨ap', cp', rfl, hcp', hcp2', -⟩ := h2.props.shape
 obtain ⟨ah', ch', rfl, hch', hch2', -⟩ := h2.halves.shape
 clear h1 h2
 simp only [vtxV] at *
 obtain ⟨np, hnp⟩ : ∃ n, n = ps.length := ⟨_, rfl⟩
 have HNP := Lib.hid hnp
 obtain ⟨np', hnp'⟩ : ∃ n, n = ps'.length := ⟨_, rfl⟩
 have HNP2 := Lib.hid hnp'
 rw [← hnp] at HP hcp ⊢
 rw [← hnp'] at HP2 hcp' ⊢
 obtain ⟨nh, hnh⟩ : ∃ n, n = hs.length := ⟨_, rfl⟩
 have HNH := Lib.hid hnh
 obtain ⟨nh', hnh'⟩ : ∃ n, n = hs'.length := ⟨_, rfl⟩
 have HNH2 := Lib.hid hnh'
 rw [← hnh] at HH hch ⊢
 rw [← hnh'] at HH2 hch' ⊢
 obtain ⟨bs, hbs⟩ : ∃ b, b = decide ((⟨id, th, ps, hs⟩ : Vtx) = ⟨id', th', ps', hs'⟩) := ⟨_, rfl⟩
 have HBS : Hid ((⟨id, th, ps, hs⟩ : Vtx) ≠ ⟨id', th', ps', hs'⟩ → bs = false) := Lib.hid (fun h => by rw [hbs]; exact decide_eq_false h)
 have HBT : Hid ((⟨id, th, ps, hs⟩ : Vtx) = ⟨id', th', ps', hs'⟩ → bs = true) := Lib.hid (fun h => by rw [hbs]; exact decide_eq_true h)
 rw [← hbs]
 clear hnp hnh hnp' hnh' hbs
 by_cases hid : id = id'
 rotate_left
 · have f1 : ((id : Int) == (id' : Int)) = false := by simp; omega
   have f2 : ¬ (id : Int) = (id' : Int) := by omega
   go_enter Tryz.func17, Tryz.ntmps17
   have HF : Hid (bs = false) := Lib.hid (HBS.out (by intro e; injection e; omega))
   rw [HF.out]
   go_wp2
   go_ret
   exact ⟨rfl, ((Mod.refl _ _).alloc _).alloc _⟩
 subst hid
 by_cases hth : th = th'
 rotate_left
 · have HTT := Lib.hid hth
   go_enter Tryz.func17, Tryz.ntmps17
   have HF : Hid (bs = false) := Lib.hid (HBS.out (by intro e; injection e; exact HTT.out ‹_›))
   rw [HF.out]
   cases th <;> cases th' <;> first | (exact absurd rfl hth) | skip
   all_goals
     clear hth
     go_wp2
     go_ret
     exact ⟨rfl, ((Mod.refl _ _).alloc _).alloc _⟩
 subst hth
 by_cases hnp : np = np'
 rotate_left
 · have f1 : ((np : Int) == (np' : Int)) = false := by simp; omega
   have f2 : ¬ (np : Int) = (np' : Int) := by omega
   go_enter Tryz.func17, Tryz.ntmps17
   have HF : Hid (bs = false) := Lib.hid (HBS.out (by intro e; injection e; rename_i e3 _; rw [HNP.out, HNP2.out, e3] at f2; exact f2 rfl))
   rw [HF.out]
   go_wp2
   go_ret
   exact ⟨rfl, ((Mod.refl _ _).alloc _).alloc _⟩
 subst hnp
 by_cases hnh : nh = nh'
 rotate_left
 · have f1 : ((nh : Int) == (nh' : Int)) = false := by simp; omega
   have f2 : ¬ (nh : Int) = (nh' : Int) := by omega
   go_enter Tryz.func17, Tryz.ntmps17
   have HF : Hid (bs = false) := Lib.hid (HBS.out (by intro e; injection e; rename_i _ e4; rw [HNH.out, HNH2.out, e4] at f2; exact f2 rfl))
   rw [HF.out]
   go_wp2
   go_ret
   exact ⟨rfl, ((Mod.refl _ _).alloc _).alloc _⟩
 subst hnh
 have HB := Lib.hid (BoAt.begin w #[.int .u32 (id : Int), .bool th, .slice ap np cp, .slice ah nh ch] #[.int .u32 (id : Int), .bool th, .slice ap' np cp', .slice ah' nh ch'])
 go_enter Tryz.func17, Tryz.ntmps17
 go_wp2
 go_loopw [40] (fun i wr => ∃ k : Nat, i = .int .i64 (k : Int) ∧ k ≤ np ∧ BoAt w #[.int .u32 (id : Int), .bool th, .slice ap np cp, .slice ah nh ch] #[.int .u32 (id : Int), .bool th, .slice ap' np cp', .slice ah' nh ch'] wr ∧ ps.take k = ps'.take k) (fun i _ => np - (intOf i).toNat)
 case atStart => exact ⟨0, rfl, Nat.zero_le _, HB.out, rfl⟩
 case round =>
   obtain ⟨k, rfl, hk, hm, htk⟩ := hrel
   have HM := Lib.hid hm
   have HTK := Lib.hid htk
   clear hm htk HB
   by_cases hkn : k < np
   · obtain ⟨x, hx⟩ : ∃ x, ps[k]? = some x := ⟨_, List.getElem?_eq_getElem (by rw [← HNP.out]; exact hkn)⟩
     obtain ⟨y, hy⟩ : ∃ y, ps'[k]? = some y := ⟨_, List.getElem?_eq_getElem (by rw [← HNP2.out]; exact hkn)⟩
     obtain ⟨b, off, e1, hb, p0, p1, p2, p3⟩ := HP.out.ent hx rfl
     obtain ⟨b', off', e2, hb', q0, q1, q2, q3⟩ := HP2.out.ent hy rfl
     have d0 := cell_of_row HM.out.one 2
     have d1 := cell_of_row HM.out.two 2
     simp at d0 d1
     subst e1 e2
     have p0 : ∀ x : MW wr, x.w.cell? _ = some _ := fun x => x.cell (HM.out.mod.cell p0)
     have p1 : ∀ x : MW wr, x.w.cell? _ = some _ := fun x => x.cell (HM.out.mod.cell p1)
     have p2 : ∀ x : MW wr, x.w.cell? _ = some _ := fun x => x.cell (HM.out.mod.cell p2)
     have p3 : ∀ x : MW wr, x.w.cell? _ = some _ := fun x => x.cell (HM.out.mod.cell p3)
     have q0 : ∀ x : MW wr, x.w.cell? _ = some _ := fun x => x.cell (HM.out.mod.cell q0)
     have q1 : ∀ x : MW wr, x.w.cell? _ = some _ := fun x => x.cell (HM.out.mod.cell q1)
     have q2 : ∀ x : MW wr, x.w.cell? _ = some _ := fun x => x.cell (HM.out.mod.cell q2)
     have q3 : ∀ x : MW wr, x.w.cell? _ = some _ := fun x => x.cell (HM.out.mod.cell q3)
     have d0 : ∀ x : MW wr, x.w.cell? _ = some _ := fun x => x.cell d0
     have d1 : ∀ x : MW wr, x.w.cell? _ = some _ := fun x => x.cell d1
     rcases ent_cases x y with hxy | ⟨hxy, hcs⟩
     · subst hxy
       have HTS := Lib.hid (takes_eq HTK.out hx hy)
       clear hx hy hb hb'
       obtain ⟨xe, ⟨xk, xn, xs⟩⟩ := x
       simp only at p0 p1 p2 p3 q0 q1 q2 q3
       go_wp2_with fail
       refine wp_region_quietM (by kernel_rfl) (by kernel_rfl) ?_
       repeat (go_big_quiet_step (fail))
       refine wpQuiet_nil ?_
       intro w3 hm3
       have M3 := Lib.hid (HM.out.more (MW.mod_of hm3))
       clear hm3 p0 p1 p2 p3 q0 q1 q2 q3 d0 d1
       go_wp2
       go_roundw
       case rel => exact ⟨k + 1, by go_num, by omega, M3.out, HTS.out⟩
       case measure => simp [intOf]; omega
     · have HNE := Lib.hid (at_ne hx hy hxy)
       clear hx hy hxy hb hb'
       obtain ⟨xe, ⟨xk, xn, xs⟩⟩ := x
       obtain ⟨ye, ⟨yk, yn, ys⟩⟩ := y
       simp only at p0 p1 p2 p3 q0 q1 q2 q3 hcs
       have HF : Hid (bs = false) := Lib.hid (HBS.out (by intro e; injection e with _ _ e _; exact HNE.out e))
       rcases hcs with ⟨f1, f2⟩ | ⟨rfl, f1, f2⟩ | ⟨rfl, rfl, f1, f2⟩ | ⟨rfl, rfl, rfl, f1⟩
       all_goals
         go_wp2_with fail
         refine wp_region_quietM (by kernel_rfl) (by kernel_rfl) ?_
         repeat (go_big_quiet_step (fail))
         refine wpQuiet_nil ?_
         intro w3 hm3
         have M3 := Lib.hid (HM.out.more (MW.mod_of hm3))
         clear hm3 p0 p1 p2 p3 q0 q1 q2 q3 d0 d1
         go_wp2
         go_ret
         exact ⟨by rw [HF.out]; rfl, M3.out.mod⟩
   · have HEQnp : Hid (ps = ps') := Lib.hid (by
       have h := HTK.out
       rwa [List.take_of_length_le (by have := HNP.out; omega), List.take_of_length_le (by have := HNP2.out; omega)] at h)
     have HB := Lib.hid HM.out
     have g3 := cell_of_row HM.out.one 3
     have g4 := cell_of_row HM.out.two 3
     simp at g3 g4
     go_wp2
     go_loopw [58] (fun i wr => ∃ k : Nat, i = .int .i64 (k : Int) ∧ k ≤ nh ∧ BoAt w #[.int .u32 (id : Int), .bool th, .slice ap np cp, .slice ah nh ch] #[.int .u32 (id : Int), .bool th, .slice ap' np cp', .slice ah' nh ch'] wr ∧ hs.take k = hs'.take k) (fun i _ => nh - (intOf i).toNat)
     case atStart => exact ⟨0, rfl, Nat.zero_le _, HB.out, rfl⟩
     case round =>
       obtain ⟨k, rfl, hk, hm, htk⟩ := hrel
       have HM := Lib.hid hm
       have HTK := Lib.hid htk
       clear hm htk HB
       by_cases hkn : k < nh
       · obtain ⟨x, hx⟩ : ∃ x, hs[k]? = some x := ⟨_, List.getElem?_eq_getElem (by rw [← HNH.out]; exact hkn)⟩
         obtain ⟨y, hy⟩ : ∃ y, hs'[k]? = some y := ⟨_, List.getElem?_eq_getElem (by rw [← HNH2.out]; exact hkn)⟩
         obtain ⟨b, off, e1, hb, p0, p1, p2, p3⟩ := HH.out.ent hx rfl
         obtain ⟨b', off', e2, hb', q0, q1, q2, q3⟩ := HH2.out.ent hy rfl
         have d0 := cell_of_row HM.out.one 3
         have d1 := cell_of_row HM.out.two 3
         simp at d0 d1
         subst e1 e2
         have p0 : ∀ x : MW wr, x.w.cell? _ = some _ := fun x => x.cell (HM.out.mod.cell p0)
         have p1 : ∀ x : MW wr, x.w.cell? _ = some _ := fun x => x.cell (HM.out.mod.cell p1)
         have p2 : ∀ x : MW wr, x.w.cell? _ = some _ := fun x => x.cell (HM.out.mod.cell p2)
         have p3 : ∀ x : MW wr, x.w.cell? _ = some _ := fun x => x.cell (HM.out.mod.cell p3)
         have q0 : ∀ x : MW wr, x.w.cell? _ = some _ := fun x => x.cell (HM.out.mod.cell q0)
         have q1 : ∀ x : MW wr, x.w.cell? _ = some _ := fun x => x.cell (HM.out.mod.cell q1)
         have q2 : ∀ x : MW wr, x.w.cell? _ = some _ := fun x => x.cell (HM.out.mod.cell q2)
         have q3 : ∀ x : MW wr, x.w.cell? _ = some _ := fun x => x.cell (HM.out.mod.cell q3)
         have d0 : ∀ x : MW wr, x.w.cell? _ = some _ := fun x => x.cell d0
         have d1 : ∀ x : MW wr, x.w.cell? _ = some _ := fun x => x.cell d1
         rcases ent_cases x y with hxy | ⟨hxy, hcs⟩
         · subst hxy
           have HTS := Lib.hid (takes_eq HTK.out hx hy)
           clear hx hy hb hb'
           obtain ⟨xe, ⟨xk, xn, xs⟩⟩ := x
           simp only at p0 p1 p2 p3 q0 q1 q2 q3
           go_wp2_with fail
           refine wp_region_quietM (by kernel_rfl) (by kernel_rfl) ?_
           repeat (go_big_quiet_step (fail))
           refine wpQuiet_nil ?_
           intro w3 hm3
           have M3 := Lib.hid (HM.out.more (MW.mod_of hm3))
           clear hm3 p0 p1 p2 p3 q0 q1 q2 q3 d0 d1
           go_wp2
           go_roundw
           case rel => exact ⟨k + 1, by go_num, by omega, M3.out, HTS.out⟩
           case measure => simp [intOf]; omega
         · have HNE := Lib.hid (at_ne hx hy hxy)
           clear hx hy hxy hb hb'
           obtain ⟨xe, ⟨xk, xn, xs⟩⟩ := x
           obtain ⟨ye, ⟨yk, yn, ys⟩⟩ := y
           simp only at p0 p1 p2 p3 q0 q1 q2 q3 hcs
           have HF : Hid (bs = false) := Lib.hid (HBS.out (by intro e; injection e with _ _ _ e; exact HNE.out e))
           rcases hcs with ⟨f1, f2⟩ | ⟨rfl, f1, f2⟩ | ⟨rfl, rfl, f1, f2⟩ | ⟨rfl, rfl, rfl, f1⟩
           all_goals
             go_wp2_with fail
             refine wp_region_quietM (by kernel_rfl) (by kernel_rfl) ?_
             repeat (go_big_quiet_step (fail))
             refine wpQuiet_nil ?_
             intro w3 hm3
             have M3 := Lib.hid (HM.out.more (MW.mod_of hm3))
             clear hm3 p0 p1 p2 p3 q0 q1 q2 q3 d0 d1
             go_wp2
             go_ret
             exact ⟨by rw [HF.out]; rfl, M3.out.mod⟩
       · have HEQnh : Hid (hs = hs') := Lib.hid (by
           have h := HTK.out
           rwa [List.take_of_length_le (by have := HNH.out; omega), List.take_of_length_le (by have := HNH2.out; omega)] at h)
         have HB := Lib.hid HM.out
         have HT : Hid (bs = true) := Lib.hid (HBT.out (by rw [HEQnp.out, HEQnh.out]))
         go_wp2
         go_ret
         exact ⟨by rw [HT.out]; rfl, HM.out.mod⟩
set_option maxRecDepth 100000 in
set_option maxHeartbeats 2000000 in
theorem dput_any (g : Nat) (gv : Value) (l : List Vs) (x : Vtx) (vp vh : Value) (w : World) (hg : GrAt w g gv l) (hx : VRd w vp vh x) (hr : x.right = true) (hs : Slim x) (hn : l.length ≤ 1000) :
   Calls Tryz.prog 46 #[.pointer (some ⟨g, 0, none⟩), vtxV x vp vh] w fun e w' => e = .returned (.int .i64 0) ∧ Mod (fun k => k = g) w w' ∧ ∃ v' l', GrAt w' g v' l' ∧ l'.map Vs.x = layV x (l.map Vs.x) := by
 have HR : Hid (∀ w', Mod (fun _ => False) w w' → Calls Tryz.prog 73 #[vtxV x vp vh] w' fun e w'' => e = .returned (.bool true) ∧ Mod (fun _ => False) w' w'') := Lib.hid (fun w' m => by
   have h := dright_any x vp vh w' (hx.keep m) (by have := hs.1; have := hs.2; omega)
   rw [hr] at h
   exact h)
 have HT : Hid (∀ w', Mod (fun _ => False) w w' → Calls Tryz.prog 26 #[vtxV x vp vh] w' fun e w'' => ∃ a n c a' n' c', e = .returned (vtxV x (.slice a n c) (.slice a' n' c')) ∧ Mod (fun _ => False) w' w'' ∧ VRd w'' (.slice a n c) (.slice a' n' c') x) := Lib.hid (fun w' m => (twinV_any x vp vh w' (hx.keep m) hs.1 hs.2).mono (by
   rintro e w'' ⟨up, uh, rfl, h1, h2⟩
   obtain ⟨a, c, rfl, -⟩ := h2.rd.props.shape
   obtain ⟨a', c', rfl, -⟩ := h2.rd.halves.shape
   exact ⟨a, _, c, a', _, c', rfl, h1, h2.rd⟩))
 have HL : Hid (∀ up uh w', Mod (fun _ => False) w w' → VRd w' up uh x → Calls Tryz.prog 74 #[.pointer (some ⟨g, 0, none⟩), vtxV x up uh] w' fun e w'' => e = .returned (.tuple #[]) ∧ Mod (fun k => k = g) w' w'' ∧ ∃ v' l', GrAt w'' g v' l' ∧ l'.map Vs.x = layV x (l.map Vs.x)) := Lib.hid (fun up uh w' m h => (lay_any g gv l ⟨x, up, uh⟩ w' (hg.keep m) h hn).mono (fun e w'' ⟨e1, h1, v', h2⟩ => ⟨e1, h1, v', _, h2, lay_map _ _ _⟩))
 obtain ⟨ap, cp, rfl, -⟩ := hx.props.shape
 obtain ⟨ah, ch, rfl, -⟩ := hx.halves.shape
 clear hg hx hr hs hn
 obtain ⟨id, th, ps, hs⟩ := x
 simp only [vtxV] at HR HT HL ⊢
 generalize ps.length = np at *
 generalize hs.length = nh at *
 go_enter Tryz.func46, Tryz.ntmps46
 have hq := heap_alloc_new' w (.cells #[.int .u32 (id : Int), .bool th, .slice ap np cp, .slice ah nh ch] 47)
 have HQ := Lib.hid hq
 go_wp2_with (first
   | (go_at_call 74; go_loud (refine (HL.out _ _ _ HM2.out HV2.out).mono ?_; (rintro e w3 ⟨rfl, hm3, hg3⟩); have HM3 : Hid (Mod (fun k => k = g) w w3) := Lib.hid ((HM2.out.mono (fun _ _ f => f.elim)).trans hm3); have HG3 := Lib.hid hg3; clear hm3 hg3))
   | (go_at_call 26; go_loud (refine (HT.out _ HM1.out).mono ?_; (rintro e w2 ⟨at_, nt, ct, at2, nt2, ct2, rfl, hm2, hv2⟩); have HM2 := Lib.hid (HM1.out.trans hm2); have HV2 := Lib.hid hv2; clear hm2 hv2))
   | (go_at_call 73; go_loud (refine (HR.out _ ((Mod.refl _ _).alloc _)).mono ?_; (rintro e w1 ⟨rfl, hm1⟩); have HM1 := Lib.hid (((Mod.refl _ w).alloc _).trans hm1); have hb1 := hm1.heap HQ.out (fun f => f); have c0 := cell_of_row hb1 0; have c1 := cell_of_row hb1 1; have c2 := cell_of_row hb1 2; have c3 := cell_of_row hb1 3; have zz := lt_of_block hb1; simp at c0 c1 c2 c3; clear hm1 hb1)))
 go_ret
 exact ⟨rfl, HM3.out, HG3.out⟩
end Go.Proofs.YtlpdifinkcjckaaGreatDoor
