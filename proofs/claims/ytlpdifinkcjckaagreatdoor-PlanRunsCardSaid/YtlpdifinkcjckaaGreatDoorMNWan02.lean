import Derived.Test.YtlpdifinkcjckaaGreatDoorMNWan01
set_option linter.unusedVariables false
set_option linter.unusedSimpArgs false
namespace Go.Proofs.YtlpdifinkcjckaaGreatDoor
open Go.RowKit Go.Maps
set_option maxRecDepth 100000 in
set_option maxHeartbeats 4000000 in
theorem mode_any (kind oa ob okey vk : Nat) (vn : Int) (vs : ByteArray) (v : Nat) (w : World) :
   Calls Tryz.prog 78 #[.agg #[.int .u8 (kind : Int), .int .u32 (oa : Int), .int .u32 (ob : Int), .int .u8 (okey : Int), .int .u8 (vk : Int), .int .i64 vn, .string vs], .int .u32 (v : Int)] w fun e w' => e = .returned (.int .u8 (modeO ⟨kind, oa, ob, okey, ⟨vk, vn, vs⟩⟩ v : Nat)) ∧ Mod (fun _ => False) w w' := by
 have HM : Hid (Mod (fun _ => False) w (w.alloc (.cells #[.int .u8 (kind : Int), .int .u32 (oa : Int), .int .u32 (ob : Int), .int .u8 (okey : Int), .int .u8 (vk : Int), .int .i64 vn, .string vs] 82))) := Lib.hid ((Mod.refl _ _).alloc _)
 have HMO : Hid (modeO ⟨kind, oa, ob, okey, ⟨vk, vn, vs⟩⟩ v = if v = oa ∧ (kind = 5 ∨ kind = 6 ∨ kind ≤ 3) then 2 else if v = ob ∧ (kind = 5 ∨ kind = 6) then 2 else if v = oa then 1 else 0) := Lib.hid rfl
 generalize modeO ⟨kind, oa, ob, okey, ⟨vk, vn, vs⟩⟩ v = mo at HMO ⊢
 go_enter Tryz.func78, Tryz.ntmps78
 have hmo := HMO.out
 by_cases h5 : kind = 5
 · subst h5
   by_cases ha : v = oa
   · have HV : Hid (mo = 2) := Lib.hid (by rw [hmo, if_pos ⟨ha, .inl rfl⟩])
     subst ha
     clear hmo HMO
     go_wp2
     go_ret
     exact ⟨by rw [HV.out]; rfl, HM.out⟩
   · have ha1 : ((v : Int) == (oa : Int)) = false := by simp; omega
     by_cases hb : v = ob
     · have HV : Hid (mo = 2) := Lib.hid (by rw [hmo, if_neg (fun e => ha e.1), if_pos ⟨hb, .inl rfl⟩])
       subst hb
       clear hmo HMO ha
       go_wp2
       go_ret
       exact ⟨by rw [HV.out]; rfl, HM.out⟩
     · have hb1 : ((v : Int) == (ob : Int)) = false := by simp; omega
       have HV : Hid (mo = 0) := Lib.hid (by rw [hmo, if_neg (fun e => ha e.1), if_neg (fun e => hb e.1), if_neg ha])
       clear hmo HMO ha hb
       go_wp2
       go_ret
       exact ⟨by rw [HV.out]; rfl, HM.out⟩
 have k5 : ((kind : Int) == 5) = false := by simp; omega
 by_cases h6 : kind = 6
 · subst h6
   by_cases ha : v = oa
   · have HV : Hid (mo = 2) := Lib.hid (by rw [hmo, if_pos ⟨ha, .inr (.inl rfl)⟩])
     subst ha
     clear hmo HMO k5 h5
     go_wp2
     go_ret
     exact ⟨by rw [HV.out]; rfl, HM.out⟩
   · have ha1 : ((v : Int) == (oa : Int)) = false := by simp; omega
     by_cases hb : v = ob
     · have HV : Hid (mo = 2) := Lib.hid (by rw [hmo, if_neg (fun e => ha e.1), if_pos ⟨hb, .inr rfl⟩])
       subst hb
       clear hmo HMO ha k5 h5
       go_wp2
       go_ret
       exact ⟨by rw [HV.out]; rfl, HM.out⟩
     · have hb1 : ((v : Int) == (ob : Int)) = false := by simp; omega
       have HV : Hid (mo = 0) := Lib.hid (by rw [hmo, if_neg (fun e => ha e.1), if_neg (fun e => hb e.1), if_neg ha])
       clear hmo HMO ha hb k5 h5
       go_wp2
       go_ret
       exact ⟨by rw [HV.out]; rfl, HM.out⟩
 have k6 : ((kind : Int) == 6) = false := by simp; omega
 by_cases ha : v = oa
 · by_cases h3 : kind ≤ 3
   · have k3 : (kind : Int) ≤ 3 := by omega
     have HV : Hid (mo = 2) := Lib.hid (by rw [hmo, if_pos ⟨ha, .inr (.inr h3)⟩])
     subst ha
     clear hmo HMO h5 h6 h3
     go_wp2
     go_ret
     exact ⟨by rw [HV.out]; rfl, HM.out⟩
   · have k3 : ¬ (kind : Int) ≤ 3 := by omega
     have HV : Hid (mo = 1) := Lib.hid (by rw [hmo, if_neg (fun e => by omega), if_neg (fun e => by omega), if_pos ha])
     subst ha
     clear hmo HMO h5 h6 h3
     by_cases hb : v = ob
     · subst hb
       go_wp2
       go_ret
       exact ⟨by rw [HV.out]; rfl, HM.out⟩
     · have hb1 : ((v : Int) == (ob : Int)) = false := by simp; omega
       clear hb
       go_wp2
       go_ret
       exact ⟨by rw [HV.out]; rfl, HM.out⟩
 · have ha1 : ((v : Int) == (oa : Int)) = false := by simp; omega
   have HV : Hid (mo = 0) := Lib.hid (by rw [hmo, if_neg (fun e => ha e.1), if_neg (fun e => by omega), if_neg ha])
   clear hmo HMO h5 h6 ha
   by_cases hb : v = ob
   · subst hb
     go_wp2
     go_ret
     exact ⟨by rw [HV.out]; rfl, HM.out⟩
   · have hb1 : ((v : Int) == (ob : Int)) = false := by simp; omega
     clear hb
     go_wp2
     go_ret
     exact ⟨by rw [HV.out]; rfl, HM.out⟩
def dst2 (ops : List Opr) (L : List Wt) (a b : Nat) (j : Nat) : List Wt := if j = 0 then L else if j = 1 then dstepV ops L a else dstepV ops (dstepV ops L a) b
theorem WSeg.row2 {w w' : World} {v : Value} {l : List Wt} (h : WSeg w w' v l) {n : Nat} (hn : n = l.length) : Seg w' 43 2 v n (l.flatMap wtC) := by subst hn; exact h.seg
set_option maxRecDepth 100000 in
set_option maxHeartbeats 16000000 in
theorem rwants_any (ops : List Opr) (vo : Value) (w : World) (ho : ORd w vo ops) (hlen : ops.length ≤ 100) :
   Calls Tryz.prog 49 #[vo] w fun e w' => ∃ v, e = .returned v ∧ WSeg w w' v (docW ops) := by
 have HO := Lib.hid ho
 obtain ⟨a, c, rfl, hc1, hc2, -⟩ := ho.row.shape
 obtain ⟨n, hnn⟩ : ∃ n, n = ops.length := ⟨_, rfl⟩
 have HN := Lib.hid hnn
 rw [← hnn] at HO hc1 hlen ⊢
 have HDL : Hid (∀ l : List Opr, (l.foldl (dstep ops) []).length ≤ 2 * l.length) := Lib.hid (docW_len ops)
 have HDW : Hid (docW ops = ops.foldl (dstep ops) []) := Lib.hid rfl
 obtain ⟨i0, hi, hz0, hz1, hz2⟩ := info_parts infoWant
 have HI : Hid (Tryz.prog.info? 43 = some i0 ∧ i0.zero = some (.agg #[.int .u32 0, .int .u8 0]) ∧ i0.size = 2 ∧ i0.bytes = 8) := ⟨hi, hz0, hz1, hz2⟩
 clear hi hz0 hz1 hz2 ho hnn
 go_enter Tryz.func49, Tryz.ntmps49
 go_wp2
 go_loopw [17, 3] (fun i u wr => ∃ k : Nat, i = .int .i64 (k : Int) ∧ k ≤ n ∧ WSeg w wr u ((ops.take k).foldl (dstep ops) [])) (fun i _ _ => n - (intOf i).toNat)
 case atStart => exact ⟨0, rfl, Nat.zero_le _, by rw [List.take_zero]; exact ⟨Seg.nil _ _ _, fun b hb => by simp [Value.ownBlock] at hb, Mod.refl _ _, by simp⟩⟩
 case round =>
   obtain ⟨k, rfl, hk, hws⟩ := hrel
   have HWS := Lib.hid hws
   obtain ⟨av, nv, cv, hvv⟩ : ∃ a n c, _ = Value.slice a n c := by obtain ⟨a, c, e, _⟩ := hws.seg.shape; exact ⟨_, _, _, e⟩
   subst hvv
   clear hws
   by_cases hkn : k < n
   · obtain ⟨x, hx⟩ : ∃ x, ops[k]? = some x := ⟨_, List.getElem?_eq_getElem (by rw [← HN.out]; exact hkn)⟩
     obtain ⟨bl, offl, e0, hbl, r0, r1, r2, r3, r4, r5, r6⟩ := HO.out.ent hx rfl
     have HTK : Hid ((ops.take (k + 1)).foldl (dstep ops) [] = dstepV ops (dstepV ops ((ops.take k).foldl (dstep ops) []) x.a) x.b) := Lib.hid (by
       obtain ⟨h1, h2⟩ := List.getElem?_eq_some_iff.1 hx
       rw [List.take_succ_eq_append_getElem h1, h2, List.foldl_append]; rfl)
     have hfx := HO.out.fits x (List.mem_of_getElem? hx)
     have HFA := Lib.hid hfx.a
     have HFB := Lib.hid hfx.b
     have HLK : Hid (((ops.take k).foldl (dstep ops) []).length ≤ 200) := Lib.hid (by have h := HDL.out (ops.take k); rw [List.length_take] at h; omega)
     replace r0 := HWS.out.mod.cell r0
     replace r1 := HWS.out.mod.cell r1
     replace r2 := HWS.out.mod.cell r2
     replace r3 := HWS.out.mod.cell r3
     replace r4 := HWS.out.mod.cell r4
     replace r5 := HWS.out.mod.cell r5
     replace r6 := HWS.out.mod.cell r6
     have zbl : bl < wr.heap.size := Nat.lt_of_lt_of_le hbl HWS.out.mod.size
     subst e0
     clear hx hbl hfx
     obtain ⟨kind, oa, ob, okey, ⟨vk, vn, vs⟩⟩ := x
     simp only at r0 r1 r2 r3 r4 r5 r6 HFA HFB HTK
     generalize (ops.take k).foldl (dstep ops) [] = L at HWS HTK HLK
     have HDT : Hid (∀ j, (dst2 ops L oa ob j).length ≤ 202 ∧ ∀ v, (dstepV ops (dst2 ops L oa ob j) v).length ≤ (dst2 ops L oa ob j).length + 1)   := Lib.hid (fun j => by
       have key : ∀ m v, (dstepV ops m v).length ≤ m.length + 1 := fun m v => by
         unfold dstepV; split
         · omega
         · exact dput_len _ _
       refine ⟨?_, fun v => key _ _⟩
       have h1 := key L oa
       have h2 := key (dstepV ops L oa) ob
       have h3 := HLK.out
       unfold dst2
       split
       · omega
       · split <;> omega)
     obtain ⟨W1, hW1⟩ : ∃ W, W = ((wr.alloc (.cells #[.int .u8 (kind : Int), .int .u32 (oa : Int), .int .u32 (ob : Int), .int .u8 (okey : Int), .int .u8 (vk : Int), .int .i64 vn, .string vs] 82)).alloc (.cells #[.int .u32 (oa : Int), .int .u32 (ob : Int)] 27)) := ⟨_, rfl⟩
     have HM1 : Hid (Mod (fun _ => False) wr W1) := Lib.hid (by rw [hW1]; exact ((Mod.refl _ _).alloc _).alloc _)
     have HB1 : Hid (W1.heap[wr.heap.size + 1]? = some (.cells #[.int .u32 (oa : Int), .int .u32 (ob : Int)] 27 (0, 0))) := Lib.hid (by
       rw [hW1]
       have h := heap_alloc_new' (wr.alloc (.cells #[.int .u8 (kind : Int), .int .u32 (oa : Int), .int .u32 (ob : Int), .int .u8 (okey : Int), .int .u8 (vk : Int), .int .i64 vn, .string vs] 82)) (.cells #[.int .u32 (oa : Int), .int .u32 (ob : Int)] 27)
       simpa using h)
     obtain ⟨bb, hbb⟩ : ∃ b, b = wr.heap.size + 1 := ⟨_, rfl⟩
     go_upto_region 6 with fail
     rw [← hW1]
     rw [← hbb] at HB1 ⊢
     clear hW1 hbb r0 r1 r2 r3 r4 r5 r6 zbl
     go_loopw [27, 3] (fun i u wr => ∃ j : Nat, i = .int .i64 (j : Int) ∧ j ≤ 2 ∧ WSeg w wr u (dst2 ops L oa ob j) ∧ Mod (fun _ => False) W1 wr) (fun i _ _ => 2 - (intOf i).toNat)
     case atStart => exact ⟨0, rfl, by omega, HWS.out.keep HM1.out, Mod.refl _ _⟩
     case round =>
       obtain ⟨j, rfl, hj, hws, hmj⟩ := hrel
       have HWJ := Lib.hid hws
       have HJ := Lib.hid hmj
       obtain ⟨aj, nj, cj, hvv⟩ : ∃ a n c, _ = Value.slice a n c := by obtain ⟨a, c, e, _⟩ := hws.seg.shape; exact ⟨_, _, _, e⟩
       subst hvv
       clear hws hmj
       by_cases hj2 : j < 2
       · have hj2i : (j : Int) < 2 := by omega
         obtain ⟨v, hv, hvf, HTJ⟩ : ∃ v : Nat, (#[Value.int .u32 (oa : Int), .int .u32 (ob : Int)])[j]? = some (.int .u32 (v : Int)) ∧ v < 4294967296 ∧ Hid (dst2 ops L oa ob (j + 1) = dstepV ops (dst2 ops L oa ob j) v) := by
           have hjj : j = 0 ∨ j = 1 := by omega
           rcases hjj with rfl | rfl
           · exact ⟨oa, rfl, HFA.out, Lib.hid rfl⟩
           · exact ⟨ob, rfl, HFB.out, Lib.hid rfl⟩
         have HVF := Lib.hid hvf
         have hb := HJ.out.heap HB1.out (fun f => f)
         have q0 := cell_of_row hb j
         rw [hv] at q0
         have zb := lt_of_block hb
         have HDJ := Lib.hid (HDT.out j)
         obtain ⟨D, hD⟩ : ∃ D, D = dst2 ops L oa ob j := ⟨_, rfl⟩
         rw [← hD] at HWJ HTJ HDJ
         have HDD : Hid (∀ m : Nat, m = modeL ops v → dstepV ops D v = if v = 0 ∨ m = 0 then D else dput (v, m) D) := Lib.hid (fun m h => by rw [h]; rfl)
         obtain ⟨nd, hnd⟩ : ∃ n, n = D.length := ⟨_, rfl⟩
         have HND := Lib.hid hnd
         obtain rfl : nj = nd := by obtain ⟨a9, c9, e9, -⟩ := HWJ.out.seg.shape; injection e9 with _ e9 _; rw [e9, hnd]
         have HLD : Hid (nj ≤ 202) := Lib.hid (by rw [hnd]; exact HDJ.out.1)
         obtain ⟨wo, rfl⟩ : ∃ wo : World, wo = wr := ⟨_, rfl⟩
         obtain ⟨W8, hW8⟩ : ∃ W, W = wo.alloc (.cells #[.int .u32 (v : Int), .int .u8 0] 43) := ⟨_, rfl⟩
         have HM8 : Hid (Mod (fun _ => False) wo W8) := Lib.hid (by rw [hW8]; exact (Mod.refl _ _).alloc _)
         have HB8 : Hid (W8.heap[wo.heap.size]? = some (.cells #[.int .u32 (v : Int), .int .u8 ((modeL (ops.take 0) v : Nat) : Int)] 43 (0, 0))) := Lib.hid (by rw [hW8]; exact heap_alloc_new' _ _)
         obtain ⟨b8, hb8⟩ : ∃ b, b = wo.heap.size := ⟨_, rfl⟩
         have HZ8 : Hid (wo.heap.size ≤ b8) := Lib.hid (by omega)
         clear hv hvf hb hD hnd
         go_upto_region 10 with fail
         rw [← hW8]
         rw [← hb8] at HB8 ⊢
         clear hW8 hb8 q0 zb
         go_loopw [35] (fun i wr => ∃ p : Nat, i = .int .i64 (p : Int) ∧ p ≤ n ∧ Mod (fun _ => False) wo wr ∧ wr.heap[b8]? = some (.cells #[.int .u32 (v : Int), .int .u8 ((modeL (ops.take p) v : Nat) : Int)] 43 (0, 0))) (fun i _ => n - (intOf i).toNat)
         case atStart => exact ⟨0, rfl, Nat.zero_le _, HM8.out, HB8.out⟩
         case round =>
           obtain ⟨p, rfl, hp, hmp, hbp⟩ := hrel
           have HP := Lib.hid hmp
           have HBP := Lib.hid hbp
           have HWP : Hid (Mod (fun _ => False) w wr) := Lib.hid ((HWS.out.mod.trans HM1.out).trans (HJ.out.trans hmp))
           clear hmp hbp HB8
           by_cases hpn : p < n
           · obtain ⟨y, hy⟩ : ∃ y, ops[p]? = some y := ⟨_, List.getElem?_eq_getElem (by rw [← HN.out]; exact hpn)⟩
             obtain ⟨bl, offl, e0, hbl, r0, r1, r2, r3, r4, r5, r6⟩ := HO.out.ent hy rfl
             replace r0 := HWP.out.cell r0
             replace r1 := HWP.out.cell r1
             replace r2 := HWP.out.cell r2
             replace r3 := HWP.out.cell r3
             replace r4 := HWP.out.cell r4
             replace r5 := HWP.out.cell r5
             replace r6 := HWP.out.cell r6
             have zbl : bl < wr.heap.size := Nat.lt_of_lt_of_le hbl HWP.out.size
             have HTP : Hid (modeL (ops.take (p + 1)) v = max (modeL (ops.take p) v) (modeO y v)) := Lib.hid (by
               obtain ⟨h1, h2⟩ := List.getElem?_eq_some_iff.1 hy
               rw [List.take_succ_eq_append_getElem h1, h2, modeL_snoc])
             have HMD : Hid (∀ w', Calls Tryz.prog 78 #[y.v, .int .u32 (v : Int)] w' fun e w'' => e = .returned (.int .u8 (modeO y v : Nat)) ∧ Mod (fun _ => False) w' w'') := Lib.hid (fun w' => mode_any y.kind y.a y.b y.key y.val.k y.val.n y.val.s v w')
             have HML : Hid (modeL (ops.take p) v ≤ 2 ∧ modeO y v ≤ 2) := Lib.hid ⟨modeL_le _ _, modeO_le _ _⟩
             injection e0 with e0
             injection e0 with e1 e2 _
             subst e1 e2
             clear hy hbl
             obtain ⟨pkind, pa, pb, pkey, ⟨pvk, pvn, pvs⟩⟩ := y
             simp only at r0 r1 r2 r3 r4 r5 r6
             simp only [Opr.v, Opr.cells] at HMD
             obtain ⟨m0, hm0⟩ : ∃ m, m = modeL (ops.take p) v := ⟨_, rfl⟩
             rw [← hm0] at HBP HTP HML
             generalize modeO ⟨pkind, pa, pb, pkey, ⟨pvk, pvn, pvs⟩⟩ v = m1 at HTP HMD HML
             have hml := HML.out
             obtain ⟨W3, hW3⟩ : ∃ W, W = wr.alloc (.cells #[.int .u8 (pkind : Int), .int .u32 (pa : Int), .int .u32 (pb : Int), .int .u8 (pkey : Int), .int .u8 (pvk : Int), .int .i64 pvn, .string pvs] 82) := ⟨_, rfl⟩
             have HM3 : Hid (Mod (fun _ => False) wr W3) := Lib.hid (by rw [hW3]; exact (Mod.refl _ _).alloc _)
             have HB3 : Hid (W3.heap[wr.heap.size]? = some (.cells #[.int .u8 (pkind : Int), .int .u32 (pa : Int), .int .u32 (pb : Int), .int .u8 (pkey : Int), .int .u8 (pvk : Int), .int .i64 pvn, .string pvs] 82 (0, 0))) := Lib.hid (by rw [hW3]; exact heap_alloc_new' _ _)
             have HC3 : Hid (W3.heap[b8]? = some (.cells #[.int .u32 (v : Int), .int .u8 (m0 : Int)] 43 (0, 0))) := Lib.hid (HM3.out.heap HBP.out (fun f => f))
             go_upto_region 12 with fail
             rw [← hW3]
             clear hW3 r0 r1 r2 r3 r4 r5 r6 zbl hm0
             have HKS : Hid (∀ w' : World, Mod (fun _ => False) W3 w' → (fun w' : World => w'.cell? ⟨b8, 1, none⟩ = some (.int .u8 (m0 : Int)) ∧ w'.cell? ⟨wr.heap.size, 0, none⟩ = some (.int .u8 (pkind : Int)) ∧ w'.cell? ⟨wr.heap.size, 1, none⟩ = some (.int .u32 (pa : Int)) ∧ w'.cell? ⟨wr.heap.size, 2, none⟩ = some (.int .u32 (pb : Int)) ∧ w'.cell? ⟨wr.heap.size, 3, none⟩ = some (.int .u8 (pkey : Int)) ∧ w'.cell? ⟨wr.heap.size, 4, none⟩ = some (.int .u8 (pvk : Int)) ∧ w'.cell? ⟨wr.heap.size, 5, none⟩ = some (.int .i64 pvn) ∧ w'.cell? ⟨wr.heap.size, 6, none⟩ = some (.string pvs)) w') := Lib.hid (fun w' mm => ⟨cell_of_row (mm.heap HC3.out (fun f => f)) 1, cell_of_row (mm.heap HB3.out (fun f => f)) 0, cell_of_row (mm.heap HB3.out (fun f => f)) 1, cell_of_row (mm.heap HB3.out (fun f => f)) 2, cell_of_row (mm.heap HB3.out (fun f => f)) 3, cell_of_row (mm.heap HB3.out (fun f => f)) 4, cell_of_row (mm.heap HB3.out (fun f => f)) 5, cell_of_row (mm.heap HB3.out (fun f => f)) 6⟩)
             obtain ⟨k0, k1, k2, k3, k4, k5, k6, k7⟩ := HKS.out W3.drew (Mod.refl _ _).drew
             have HWR : Hid (∀ w5, Mod (fun _ => False) W3 w5 → Mod (fun _ => False) wo (w5.setCell ⟨b8, 1, none⟩ (.int .u8 (max (m0 : Int) (m1 : Int)))) ∧ (w5.setCell ⟨b8, 1, none⟩ (.int .u8 (max (m0 : Int) (m1 : Int)))).heap[b8]? = some (.cells #[.int .u32 (v : Int), .int .u8 ((modeL (ops.take (p + 1)) v : Nat) : Int)] 43 (0, 0)) ∧ w5.cell? ⟨b8, 1, none⟩ = some (.int .u8 (m0 : Int)) ∧ w5.frozen? ⟨b8, 1, none⟩ = false ∧ b8 < w5.heap.size) := Lib.hid (fun w5 m5 => by
               have hb := m5.heap HC3.out (fun f => f)
               have hz := HZ8.out
               refine ⟨((HP.out.trans HM3.out).trans m5).setCell (p := ⟨b8, 1, none⟩) (fun e => by simp only at e; omega) _, ?_, cell_of_row hb 1, free_of_row hb 1, lt_of_block hb⟩
               have e : ((modeL (ops.take (p + 1)) v : Nat) : Int) = max (m0 : Int) (m1 : Int) := by rw [HTP.out]; omega
               rw [e]
               exact row_setCell hb 1 _)
             go_wp2_with fail
             go_region_law (first
               | (go_simp; go_at_call 78; go_loud (refine (HMD.out _).mono ?_; (rintro e w5 ⟨rfl, hm5⟩); have HM5 : Hid (Mod (fun _ => False) W3 w5) := Lib.hid ((Mod.refl (fun _ => False) W3).drew.trans hm5); (obtain ⟨hx1, hx2, hx3, hx4, hx5⟩ := HWR.out w5 HM5.out); have HX := Lib.hid (And.intro hx1 hx2); clear hm5 hx1 hx2)))
             all_goals
               go_wp2
               go_roundw
               case rel => exact ⟨p + 1, by go_num, by omega, HX.out.1, HX.out.2⟩
               case measure => simp [intOf]; omega
           · have HTA : Hid (ops.take p = ops) := Lib.hid (List.take_of_length_le (by have := HN.out; omega))
             rw [HTA.out] at HBP
             obtain ⟨m, hm⟩ : ∃ m, m = modeL ops v := ⟨_, rfl⟩
             have HDV := Lib.hid (HDD.out m hm)
             have HM2 : Hid (m ≤ 2) := Lib.hid (by rw [hm]; exact modeL_le _ _)
             have hm2 := HM2.out
             rw [← hm] at HBP
             clear hm
             obtain ⟨wq, rfl⟩ : ∃ wq : World, wq = wr := ⟨_, rfl⟩
             have b0 := cell_of_row HBP.out 0
             have b1 := cell_of_row HBP.out 1
             have zb8 := lt_of_block HBP.out
             simp at b0 b1
             by_cases hv0 : v = 0
             · subst hv0
               have HDE : Hid (dstepV ops D 0 = D) := Lib.hid (by rw [HDV.out, if_pos (.inl rfl)])
               go_wp2
               go_roundw
               case rel => exact ⟨j + 1, by go_num, by omega, by rw [HTJ.out, HDE.out]; exact HWJ.out.keep HP.out, HJ.out.trans HP.out⟩
               case measure => simp [intOf]; omega
             have hv1 : ((v : Int) == 0) = false := by simp; omega
             by_cases hm0 : m = 0
             · subst hm0
               have HDE : Hid (dstepV ops D v = D) := Lib.hid (by rw [HDV.out, if_pos (.inr rfl)])
               go_wp2
               go_roundw
               case rel => exact ⟨j + 1, by go_num, by omega, by rw [HTJ.out, HDE.out]; exact HWJ.out.keep HP.out, HJ.out.trans HP.out⟩
               case measure => simp [intOf]; omega
             have hm1 : ((m : Int) == 0) = false := by simp; omega
             have HDE : Hid (dstepV ops D v = dput (v, m) D) := Lib.hid (by rw [HDV.out, if_neg (by omega)])
             have HFW : Hid (v < 4294967296 ∧ m < 256) := Lib.hid ⟨HVF.out, by omega⟩
             clear HDV HDD hv0 hm0
             have HDQ := Lib.hid (HWJ.out.keep HP.out)
             have HWPQ : Mod (fun _ => False) w wq := (HWS.out.mod.trans HM1.out).trans (HJ.out.trans HP.out)
             replace HWPQ := Lib.hid HWPQ
             have hnj := HLD.out
             go_wp2_with fail
             clear b0 b1 zb8
             go_loopw [56, 11, 12] (fun i u d wr => ∃ (p : Nat) (out : List Wt) (db : Bool), i = .int .i64 (p : Int) ∧ p ≤ nj ∧ d = .bool db ∧ WSeg wq wr u out ∧ dputT (v, m) (D.take p) = (out, db) ∧ out.length + (if db = true then 0 else 1) ≤ p + 1) (fun i _ _ _ => nj - (intOf i).toNat)
             case atStart => exact ⟨0, [], false, rfl, Nat.zero_le _, rfl, ⟨Seg.nil _ _ _, fun b hb => by simp [Value.ownBlock] at hb, Mod.refl _ _, by simp⟩, by rw [List.take_zero]; rfl, by simp⟩
             case round =>
               obtain ⟨p, out, db, rfl, hp, rfl, hwo, hdt, hol⟩ := hrel
               have HWO := Lib.hid hwo
               have HDTT := Lib.hid hdt
               have HOL := Lib.hid hol
               obtain ⟨no, hno⟩ : ∃ n, n = out.length := ⟨_, rfl⟩
               have HNO := Lib.hid hno
               obtain ⟨ao, co, hvv, -⟩ := hwo.seg.shape
               rw [← hno] at hvv
               subst hvv
               have HLN : Hid (no ≤ 300 ∧ no + 2 ≤ 300) := Lib.hid (by have := HLD.out; have := HOL.out; split at this <;> omega)
               have hq8 := HWO.out.mod.heap HBP.out (fun f => f)
               have b0 := cell_of_row hq8 0
               have b1 := cell_of_row hq8 1
               have zb8 := lt_of_block hq8
               simp at b0 b1
               clear hwo hdt hol hno hq8
               by_cases hpj : p < nj
               · obtain ⟨y, hy⟩ : ∃ y, D[p]? = some y := ⟨_, List.getElem?_eq_getElem (by rw [← HND.out]; exact hpj)⟩
                 obtain ⟨bl, offl, e0, hbl, r0, r1⟩ := HDQ.out.rd.ent hy rfl
                 replace r0 := HWO.out.mod.cell r0
                 replace r1 := HWO.out.mod.cell r1
                 have zbl : bl < wr.heap.size := Nat.lt_of_lt_of_le hbl HWO.out.mod.size
                 have HFY := Lib.hid (HDQ.out.fits y (List.mem_of_getElem? hy))
                 have HTY : Hid (dputT (v, m) (D.take (p + 1)) = dputS (v, m) (out, db) y) := Lib.hid (by
                   obtain ⟨h1, h2⟩ := List.getElem?_eq_some_iff.1 hy
                   rw [List.take_succ_eq_append_getElem h1, h2, dputT_snoc, HDTT.out])
                 subst e0
                 clear hy hbl
                 obtain ⟨yv, ym⟩ := y
                 simp only at r0 r1 HFY
                 have HTY2 : Hid (dputT (v, m) (D.take (p + 1)) = if !(db || yv == v) && decide (v < yv) then (out ++ [(v, m)] ++ [(yv, ym)], true) else (out ++ [(yv, ym)], db || yv == v)) := Lib.hid HTY.out
                 have HMB : Hid (Mod (fun _ => False) wr (wr.alloc (.cells #[.int .u32 (yv : Int), .int .u8 (ym : Int)] 43))) := Lib.hid ((Mod.refl _ _).alloc _)
                 obtain ⟨w6, hw6⟩ : ∃ W, W = wr.alloc (.cells #[.int .u32 (yv : Int), .int .u8 (ym : Int)] 43) := ⟨_, rfl⟩
                 have HB6 : Hid (w6.heap[wr.heap.size]? = some (.cells #[.int .u32 (yv : Int), .int .u8 (ym : Int)] 43 (0, 0))) := Lib.hid (by rw [hw6]; exact heap_alloc_new' _ _)
                 have HW6 : Hid (WSeg wq w6 (.slice ao no co) out) := Lib.hid (by rw [hw6]; exact HWO.out.keep HMB.out)
                 have HQ6 : Hid (w6.heap[b8]? = some (.cells #[.int .u32 (v : Int), .int .u8 (m : Int)] 43 (0, 0))) := Lib.hid (by rw [hw6]; exact HMB.out.heap (HWO.out.mod.heap HBP.out (fun f => f)) (fun f => f))
                 have HZQ : Hid (wq.heap.size ≤ wr.heap.size ∧ b8 < wq.heap.size) := Lib.hid ⟨HWO.out.mod.size, lt_of_block HBP.out⟩
                 go_upto_region 20 with fail
                 rw [← hw6]
                 clear hw6 r0 r1 zbl b0 b1 zb8
                 have c0 := cell_of_row HB6.out 0
                 have c1 := cell_of_row HB6.out 1
                 have zc := lt_of_block HB6.out
                 have b0 := cell_of_row HQ6.out 0
                 have b1 := cell_of_row HQ6.out 1
                 have zb8 := lt_of_block HQ6.out
                 simp at c0 c1 b0 b1
                 by_cases hyv : yv = v
                 · subst hyv
                   have HTZ : Hid (dputT (yv, m) (D.take (p + 1)) = (out ++ [(yv, ym)], true)) := Lib.hid (by rw [HTY2.out]; simp)
                   have HM8 : Hid (Mod (fun _ => False) w6 (w6.alloc (.cells #[.int .u32 (yv : Int), .int .u8 (ym : Int)] 43))) := Lib.hid ((Mod.refl _ _).alloc _)
                   have HSG8 : Hid (Seg (w6.alloc (.cells #[.int .u32 (yv : Int), .int .u8 (ym : Int)] 43)) 43 2 (.slice ao no co) no (out.flatMap wtC)) := Lib.hid ((HW6.out.row2 HNO.out).mod HM8.out (fun _ _ f => f))
                   have HSR8 := Lib.hid (src_cells (w := w6) rfl (size := 2) 43 #[.int .u32 (yv : Int), .int .u8 (ym : Int)] rfl (by simp [Value.oneCell']))
                   cases db
                   all_goals
                     go_wp2_with (at_builtin; go_loud (refine wpList_append_seg rfl (.tmp 76) (.tmp 78) 37 rfl i0 _ 2 8 Tryz.underlying37 HI.out.1 HI.out.2.1 HI.out.2.2.1 HI.out.2.2.2 rfl (by decide) rfl HSG8.out _ 1 _ rfl HSR8.out (by have := HLN.out; unfold maxLen; omega) (by have := HLN.out; omega) ?_; intro v9 w9 hs9 hg9 ho9; have HW9 := Lib.hid (HW6.out.next (x := (yv, ym)) HM8.out HFY.out HNO.out hs9 hg9 ho9); (obtain ⟨a9, c9, rfl, -⟩ := hs9.shape); clear hs9 hg9 ho9))
                     go_roundw
                     case rel => exact ⟨p + 1, out ++ [(yv, ym)], true, by go_num, by omega, rfl, HW9.out, HTZ.out, by have := HOL.out; simp at this ⊢; omega⟩
                     case measure => simp [intOf]; omega
                 · have hyv1 : ((yv : Int) == (v : Int)) = false := by simp; omega
                   cases db with
                   | true =>
                     have HTZ : Hid (dputT (v, m) (D.take (p + 1)) = (out ++ [(yv, ym)], true)) := Lib.hid (by rw [HTY2.out]; simp)
                     have HM8 : Hid (Mod (fun _ => False) w6 (w6.alloc (.cells #[.int .u32 (yv : Int), .int .u8 (ym : Int)] 43))) := Lib.hid ((Mod.refl _ _).alloc _)
                     have HSG8 : Hid (Seg (w6.alloc (.cells #[.int .u32 (yv : Int), .int .u8 (ym : Int)] 43)) 43 2 (.slice ao no co) no (out.flatMap wtC)) := Lib.hid ((HW6.out.row2 HNO.out).mod HM8.out (fun _ _ f => f))
                     have HSR8 := Lib.hid (src_cells (w := w6) rfl (size := 2) 43 #[.int .u32 (yv : Int), .int .u8 (ym : Int)] rfl (by simp [Value.oneCell']))
                     go_wp2_with (at_builtin; go_loud (refine wpList_append_seg rfl (.tmp 76) (.tmp 78) 37 rfl i0 _ 2 8 Tryz.underlying37 HI.out.1 HI.out.2.1 HI.out.2.2.1 HI.out.2.2.2 rfl (by decide) rfl HSG8.out _ 1 _ rfl HSR8.out (by have := HLN.out; unfold maxLen; omega) (by have := HLN.out; omega) ?_; intro v9 w9 hs9 hg9 ho9; have HW9 := Lib.hid (HW6.out.next (x := (yv, ym)) HM8.out HFY.out HNO.out hs9 hg9 ho9); (obtain ⟨a9, c9, rfl, -⟩ := hs9.shape); clear hs9 hg9 ho9))
                     go_roundw
                     case rel => exact ⟨p + 1, out ++ [(yv, ym)], true, by go_num, by omega, rfl, HW9.out, HTZ.out, by have := HOL.out; simp at this ⊢; omega⟩
                     case measure => simp [intOf]; omega
                   | false =>
                     by_cases hlt : v < yv
                     · have hlt1 : (v : Int) < (yv : Int) := by omega
                       have HTZ : Hid (dputT (v, m) (D.take (p + 1)) = (out ++ [(v, m)] ++ [(yv, ym)], true)) := Lib.hid (by rw [HTY2.out]; simp [hyv, hlt])
                       have HMV : Hid (Mod (fun _ => False) w6 (w6.alloc (.cells #[.int .u32 (v : Int), .int .u8 (m : Int)] 43))) := Lib.hid ((Mod.refl _ _).alloc _)
                       have HSGV : Hid (Seg (w6.alloc (.cells #[.int .u32 (v : Int), .int .u8 (m : Int)] 43)) 43 2 (.slice ao no co) no (out.flatMap wtC)) := Lib.hid ((HW6.out.row2 HNO.out).mod HMV.out (fun _ _ f => f))
                       have HSRV := Lib.hid (src_cells (w := w6) rfl (size := 2) 43 #[.int .u32 (v : Int), .int .u8 (m : Int)] rfl (by simp [Value.oneCell']))
                       go_upto_region 25 with (at_builtin; go_loud (refine wpList_append_seg rfl (.tmp 72) (.tmp 74) 37 rfl i0 _ 2 8 Tryz.underlying37 HI.out.1 HI.out.2.1 HI.out.2.2.1 HI.out.2.2.2 rfl (by decide) rfl HSGV.out _ 1 _ rfl HSRV.out (by have := HLN.out; unfold maxLen; omega) (by have := HLN.out; omega) ?_; intro v7 w7 hs7 hg7 ho7; have HW7 := Lib.hid (HW6.out.next (x := (v, m)) HMV.out HFW.out HNO.out hs7 hg7 ho7); have HQ7 : Hid (w7.heap[wr.heap.size]? = some (.cells #[.int .u32 (yv : Int), .int .u8 (ym : Int)] 43 (0, 0))) := Lib.hid (((mod_grown (v := .slice ao no co) hg7).heap (HMV.out.heap HB6.out (fun f => f)) (fun e => by have := HWO.out.seg.lt _ e; omega))); (obtain ⟨a7, c7, rfl, -⟩ := hs7.shape); clear hs7 hg7 ho7))
                       have HNO2 : Hid (no + 1 = (out ++ [(v, m)]).length) := Lib.hid (by rw [List.length_append, List.length_singleton, ← HNO.out])
                       have hq7 := HQ7.out
                       have c0 := cell_of_row hq7 0
                       have c1 := cell_of_row hq7 1
                       have zc := lt_of_block hq7
                       simp at c0 c1
                       have HM8 : Hid (Mod (fun _ => False) w7 (w7.alloc (.cells #[.int .u32 (yv : Int), .int .u8 (ym : Int)] 43))) := Lib.hid ((Mod.refl _ _).alloc _)
                       have HSG8 : Hid (Seg (w7.alloc (.cells #[.int .u32 (yv : Int), .int .u8 (ym : Int)] 43)) 43 2 (.slice a7 (no + 1) c7) (no + 1) ((out ++ [(v, m)]).flatMap wtC)) := Lib.hid ((HW7.out.row2 HNO2.out).mod HM8.out (fun _ _ f => f))
                       have HSR8 := Lib.hid (src_cells (w := w7) rfl (size := 2) 43 #[.int .u32 (yv : Int), .int .u8 (ym : Int)] rfl (by simp [Value.oneCell']))
                       go_wp2_with (at_builtin; go_loud (refine wpList_append_seg rfl (.tmp 76) (.tmp 78) 37 rfl i0 _ 2 8 Tryz.underlying37 HI.out.1 HI.out.2.1 HI.out.2.2.1 HI.out.2.2.2 rfl (by decide) rfl HSG8.out _ 1 _ rfl HSR8.out (by have := HLN.out; unfold maxLen; omega) (by have := HLN.out; omega) ?_; intro v9 w9 hs9 hg9 ho9; have HW9 := Lib.hid (HW7.out.next (x := (yv, ym)) HM8.out HFY.out HNO2.out hs9 hg9 ho9); (obtain ⟨a9, c9, rfl, -⟩ := hs9.shape); clear hs9 hg9 ho9))
                       go_roundw
                       case rel => exact ⟨p + 1, out ++ [(v, m)] ++ [(yv, ym)], true, by go_num, by omega, rfl, HW9.out, HTZ.out, by have := HOL.out; simp at this ⊢; omega⟩
                       case measure => simp [intOf]; omega
                     · have hlt1 : ¬ (v : Int) < (yv : Int) := by omega
                       have HTZ : Hid (dputT (v, m) (D.take (p + 1)) = (out ++ [(yv, ym)], false)) := Lib.hid (by rw [HTY2.out]; simp [hyv, hlt])
                       have HM8 : Hid (Mod (fun _ => False) w6 (w6.alloc (.cells #[.int .u32 (yv : Int), .int .u8 (ym : Int)] 43))) := Lib.hid ((Mod.refl _ _).alloc _)
                       have HSG8 : Hid (Seg (w6.alloc (.cells #[.int .u32 (yv : Int), .int .u8 (ym : Int)] 43)) 43 2 (.slice ao no co) no (out.flatMap wtC)) := Lib.hid ((HW6.out.row2 HNO.out).mod HM8.out (fun _ _ f => f))
                       have HSR8 := Lib.hid (src_cells (w := w6) rfl (size := 2) 43 #[.int .u32 (yv : Int), .int .u8 (ym : Int)] rfl (by simp [Value.oneCell']))
                       go_wp2_with (at_builtin; go_loud (refine wpList_append_seg rfl (.tmp 76) (.tmp 78) 37 rfl i0 _ 2 8 Tryz.underlying37 HI.out.1 HI.out.2.1 HI.out.2.2.1 HI.out.2.2.2 rfl (by decide) rfl HSG8.out _ 1 _ rfl HSR8.out (by have := HLN.out; unfold maxLen; omega) (by have := HLN.out; omega) ?_; intro v9 w9 hs9 hg9 ho9; have HW9 := Lib.hid (HW6.out.next (x := (yv, ym)) HM8.out HFY.out HNO.out hs9 hg9 ho9); (obtain ⟨a9, c9, rfl, -⟩ := hs9.shape); clear hs9 hg9 ho9))
                       go_roundw
                       case rel => exact ⟨p + 1, out ++ [(yv, ym)], false, by go_num, by omega, rfl, HW9.out, HTZ.out, by have := HOL.out; simp at this ⊢; omega⟩
                       case measure => simp [intOf]; omega
               · have HTE : Hid (dputT (v, m) D = (out, db)) := Lib.hid (by
                   have h := HDTT.out
                   rwa [List.take_of_length_le (by have := HND.out; omega)] at h)
                 have HMR : Hid (Mod (fun _ => False) wr wr) := Lib.hid (Mod.refl _ _)
                 cases db with
                 | true =>
                   have HDP : Hid (dput (v, m) D = out) := Lib.hid (by unfold dput; rw [HTE.out]; rfl)
                   go_wp2
                   go_roundw
                   case rel => exact ⟨j + 1, by go_num, by omega, by rw [HTJ.out, HDE.out, HDP.out]; exact HWO.out.from HWPQ.out, (HJ.out.trans HP.out).trans HWO.out.mod⟩
                   case measure => simp [intOf]; omega
                 | false =>
                   have HDP : Hid (dput (v, m) D = out ++ [(v, m)]) := Lib.hid (by unfold dput; rw [HTE.out]; rfl)
                   have HM6 : Hid (Mod (fun _ => False) wr (wr.alloc (.cells #[.int .u32 (v : Int), .int .u8 (m : Int)] 43))) := Lib.hid ((Mod.refl _ _).alloc _)
                   have HSG6 : Hid (Seg (wr.alloc (.cells #[.int .u32 (v : Int), .int .u8 (m : Int)] 43)) 43 2 (.slice ao no co) no (out.flatMap wtC)) := Lib.hid ((HWO.out.row2 HNO.out).mod HM6.out (fun _ _ f => f))
                   have HSR := Lib.hid (src_cells (w := wr) rfl (size := 2) 43 #[.int .u32 (v : Int), .int .u8 (m : Int)] rfl (by simp [Value.oneCell']))
                   go_wp2_with (at_builtin; go_loud (refine wpList_append_seg rfl (.tmp 83) (.tmp 85) 37 rfl i0 _ 2 8 Tryz.underlying37 HI.out.1 HI.out.2.1 HI.out.2.2.1 HI.out.2.2.2 rfl (by decide) rfl HSG6.out _ 1 _ rfl HSR.out (by have := HLN.out; unfold maxLen; omega) (by have := HLN.out; omega) ?_; intro v7 w7 hs7 hg7 ho7; have HW7 := Lib.hid (HWO.out.next (x := (v, m)) HM6.out HFW.out HNO.out hs7 hg7 ho7); (obtain ⟨a7, c7, rfl, -⟩ := hs7.shape); clear hs7 hg7 ho7))
                   go_roundw
                   case rel => exact ⟨j + 1, by go_num, by omega, by rw [HTJ.out, HDE.out, HDP.out]; exact HW7.out.from HWPQ.out, (HJ.out.trans HP.out).trans HW7.out.mod⟩
                   case measure => simp [intOf]; omega
       · obtain rfl : j = 2 := by omega
         have HT2 : Hid (dst2 ops L oa ob 2 = dstepV ops (dstepV ops L oa) ob) := Lib.hid rfl
         rw [HT2.out] at HWJ
         go_wp2
         go_roundw
         case rel => exact ⟨k + 1, by go_num, by omega, by rw [HTK.out]; exact HWJ.out⟩
         case measure => simp [intOf]; omega
   · have HTA : Hid (ops.take k = ops) := Lib.hid (List.take_of_length_le (by have := HN.out; omega))
     rw [HTA.out, ← HDW.out] at HWS
     go_wp2
     go_ret
     exact ⟨_, rfl, HWS.out⟩
set_option maxRecDepth 100000 in
set_option maxHeartbeats 4000000 in
theorem docwants_any (ops : List Opr) (vo : Value) (w : World) (ho : ORd w vo ops) (hlen : ops.length ≤ 100) :
   Calls Tryz.prog 28 #[vo] w fun e w' => ∃ v, e = .returned (.tuple #[v, .int .i64 (checkR (txq ops) : Nat)]) ∧ WSeg w w' v (wantsR ops) := by
 have HO := Lib.hid ho
 obtain ⟨a, c, rfl, hc1, hc2, -⟩ := ho.row.shape
 have HCK : Hid (∀ w', Mod (fun _ => False) w w' → Calls Tryz.prog 44 #[.agg #[.int .u8 1, .slice a ops.length c, .int .u32 0, .int .i64 0, .int .i64 0]] w' fun e w'' => e = .returned (.int .i64 (checkR (txq ops) : Nat)) ∧ Mod (fun _ => False) w' w'') := Lib.hid (fun w' m => dcheck_any (txq ops) (.slice a ops.length c) w' (HO.out.keep m))
 have HRW : Hid (∀ w', Mod (fun _ => False) w w' → Calls Tryz.prog 49 #[.slice a ops.length c] w' fun e w'' => ∃ v, e = .returned v ∧ WSeg w' w'' v (docW ops)) := Lib.hid (fun w' m => rwants_any ops _ w' (HO.out.keep m) hlen)
 have HW0 : Hid (checkR (txq ops) = 0 → docW ops = wantsR ops) := Lib.hid (fun h => by unfold wantsR; rw [if_pos h]; exact docW_eq (checkR_tx h rfl).1)
 have HW1 : Hid (checkR (txq ops) ≠ 0 → wantsR ops = []) := Lib.hid (fun h => by unfold wantsR; rw [if_neg h])
 generalize checkR (txq ops) = ck at HCK HW0 HW1 ⊢
 generalize ops.length = n at *
 clear ho
 go_enter Tryz.func28, Tryz.ntmps28
 by_cases hck : ck = 0
 · subst hck
   have HWW := Lib.hid (HW0.out rfl)
   go_wp2_with (first
     | (go_at_call 49; go_loud (refine (HRW.out _ HM1.out).mono ?_; (rintro e w2 ⟨v2, rfl, hs2⟩); have HS2 := Lib.hid (hs2.from HM1.out); clear hs2))
     | (go_at_call 44; go_loud (refine (HCK.out _ (Mod.refl _ _)).mono ?_; (rintro e w1 ⟨rfl, hm1⟩); have HM1 := Lib.hid hm1; clear hm1)))
   go_ret2
   exact ⟨_, rfl, by rw [← HWW.out]; exact HS2.out⟩
 · have hck' : ¬ (ck : Int) = 0 := by omega
   have HWW := Lib.hid (HW1.out hck)
   clear hck
   go_wp2_with (go_at_call 44; go_loud (refine (HCK.out _ (Mod.refl _ _)).mono ?_; (rintro e w1 ⟨rfl, hm1⟩); have HM1 := Lib.hid hm1; clear hm1))
   go_ret2
   exact ⟨_, rfl, by rw [HWW.out]; exact ⟨Seg.nil _ _ _, fun b hb => by simp [Value.ownBlock] at hb, HM1.out, by simp⟩⟩
end Go.Proofs.YtlpdifinkcjckaaGreatDoor
