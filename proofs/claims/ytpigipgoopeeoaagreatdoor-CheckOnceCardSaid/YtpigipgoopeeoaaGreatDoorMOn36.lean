import Derived.Test.YtpigipgoopeeoaaGreatDoorMOn35
set_option linter.unusedVariables false
set_option linter.unusedSimpArgs false
namespace Go.Proofs.YtpigipgoopeeoaaGreatDoor
open Go.RowKit Go.Maps
set_option maxRecDepth 100000 in
set_option maxHeartbeats 16000000 in
theorem replies_any (v : Value) (l : List Cm) (w : World) (hv : CRd Cm.c13 13 w v l) (hs : ∀ c ∈ l, c.Small) (hl : l.length ≤ 4096) :
   Calls Tryz.prog 12 #[v] w fun e w' => ∃ u ms, e = .returned u ∧ CBf Cm.c13 13 74 w u ms w' ∧ ms.map Cm.x = l.map Cm.x := by
 have HV := Lib.hid hv
 have HSM := Lib.hid hs
 obtain ⟨a, c, rfl, hc1, hc2, -⟩ := hv.row.shape
 obtain ⟨m, hm⟩ : ∃ m, m = l.length := ⟨_, rfl⟩
 have HML := Lib.hid hm
 rw [← hm] at HV hc1 hl
 have HL := Lib.hid hl
 rw [← hm]
 obtain ⟨i0, hi, hz0, hz1, hz2⟩ := info_parts infoRpl
 have HI : Hid (Tryz.prog.info? 74 = some i0 ∧ i0.zero = some (.agg #[.int .u8 0, .int .u32 0, .int .u8 0, .slice none 0 0, .int .u32 0, .int .i64 0, .int .i64 0, .int .i64 0, .int .i64 0, .slice none 0 0, .slice none 0 0, .int .i64 0, .int .i64 0]) ∧ i0.size = 13 ∧ i0.bytes = 144) := ⟨hi, hz0, hz1, hz2⟩
 clear hi hz0 hz1 hz2
 obtain ⟨IV, hi, hz0, hz1, hz2⟩ := info_parts infoValue
 have HIV : Hid (Tryz.prog.info? 77 = some IV ∧ IV.zero = some (.agg #[.int .u8 0, .int .i64 0, zval]) ∧ IV.size = 3 ∧ IV.bytes = 32) := ⟨hi, hz0, hz1, hz2⟩
 clear hi hz0 hz1 hz2
 obtain ⟨IL, hi, hz0, hz1, hz2⟩ := info_parts infoU32
 have HIL : Hid (Tryz.prog.info? 32 = some IL ∧ IL.zero = some (.int .u32 0) ∧ IL.size = 1 ∧ IL.bytes = 4) := ⟨hi, hz0, hz1, hz2⟩
 clear hi hz0 hz1 hz2 hv hm hs hl
 go_enter Tryz.func12, Tryz.ntmps12
 go_wp2
 go_loopw [9, 3] (fun i u wr => ∃ (k : Nat) (ms : List Cm), i = .int .i64 (k : Int) ∧ k ≤ m ∧ CBf Cm.c13 13 74 w u ms wr ∧ ms.map Cm.x = (l.take k).map Cm.x) (fun i _ _ => m - (intOf i).toNat)
 case atStart => exact ⟨0, [], rfl, Nat.zero_le _, CBf.start w, by simp⟩
 case round =>
   obtain ⟨k, ms, rfl, hk, hbf, hms⟩ := hrel
   have HBF := Lib.hid hbf
   have HMS := Lib.hid hms
   have HK := Lib.hid hbf.mod
   have HLN : Hid (ms.length = k) := Lib.hid (by have := congrArg List.length hms; rw [List.length_map, List.length_map, List.length_take] at this; have := HML.out; omega)
   obtain ⟨au, cu, hcu, hcu2, hub⟩ : ∃ a c, k ≤ c ∧ c ≤ 9223372036854775807 ∧ _ = Value.slice a k c := by
     obtain ⟨a, c, e, h1, h2, _⟩ := hbf.row.rdS.shape
     rw [HLN.out] at e h1
     exact ⟨a, c, h1, h2, e⟩
   subst hub
   clear hbf hms
   by_cases hkm : k < m
   · skip
     obtain ⟨x, hx⟩ : ∃ x, l[k]? = some x := ⟨_, List.getElem?_eq_getElem (by rw [← HML.out]; exact hkm)⟩
     obtain ⟨b, off, e1, hb, hcs⟩ := CRd.ent (cells := Cm.c13) (size := 13) (fun _ => rfl) (by decide) HV.out hx rfl
     obtain rfl := e1
     have hxx : (l.map Cm.x)[k]? = some x.x := by rw [List.getElem?_map, hx]; rfl
     have HXX := Lib.hid hxx
     have HRX := Lib.hid ((HV.out.at hx).keep HK.out)
     have hcs : ∀ j, j < 13 → ∀ u, x.c13[j]? = some u → wr.cell? ⟨b, off + (k * 13 + j), none⟩ = some u := fun j hj u hu => HK.out.cell ((hcs j hj).trans hu)
     obtain ⟨ao, co, hvo⟩ := HRX.out.vo_eq
     obtain ⟨av, cv, hvv⟩ := HRX.out.vv_eq
     obtain ⟨al, cl, hvl⟩ := HRX.out.vl_eq
     have HSX := Lib.hid (HSM.out x (List.mem_of_getElem? hx))
     have HTK : Hid ((l.take (k + 1)).map Cm.x = (l.take k).map Cm.x ++ [Cm.x x]) := Lib.hid (by rw [take_snoc' hx, List.map_append]; rfl)
     have HTW : Hid (∀ w', Mod (fun _ => False) wr w' → Calls Tryz.prog 38 #[rqV x.x.r x.vo] w' fun e w'' => ∃ a7 c7, e = .returned (rqV x.x.r (.slice a7 x.x.r.ops.length c7)) ∧ Mod (fun _ => False) w' w'' ∧ Seg w'' 79 7 (.slice a7 x.x.r.ops.length c7) x.x.r.ops.length (ocells x.x.r.ops) ∧ ∀ b, Value.ownBlock (.slice a7 x.x.r.ops.length c7) = some b → w'.heap.size ≤ b) := Lib.hid (fun w' mm => (twinreq_new x.x.r x.vo w' (HRX.out.keep mm).ops HSX.out.ops).mono (by
       rintro e w'' ⟨vo', rfl, h1, h2, h3⟩
       obtain ⟨a7, c7, rfl, -⟩ := h2.shape
       exact ⟨a7, c7, rfl, h1, h2, h3⟩))
     clear hx hxx
     obtain ⟨⟨xc, xq, ⟨kind, ops, rv, rk, rd⟩, ae, ap, vals, list, fr, to_⟩, vo, vv, vl⟩ := x
     simp only at hvo hvv hvl
     subst hvo hvv hvl
     obtain ⟨no, hno⟩ : ∃ n, n = ops.length := ⟨_, rfl⟩
     obtain ⟨nv, hnv⟩ : ∃ n, n = vals.length := ⟨_, rfl⟩
     obtain ⟨nl, hnl⟩ : ∃ n, n = list.length := ⟨_, rfl⟩
     simp only [Cm.c13, ← hno, ← hnv, ← hnl] at hcs
     have p0 := hcs 0 (by omega) _ rfl
     have p1 := hcs 1 (by omega) _ rfl
     have p2 := hcs 2 (by omega) _ rfl
     have p3 := hcs 3 (by omega) _ rfl
     have p4 := hcs 4 (by omega) _ rfl
     have p5 := hcs 5 (by omega) _ rfl
     have p6 := hcs 6 (by omega) _ rfl
     have p7 := hcs 7 (by omega) _ rfl
     have p8 := hcs 8 (by omega) _ rfl
     have p9 := hcs 9 (by omega) _ rfl
     have p10 := hcs 10 (by omega) _ rfl
     have p11 := hcs 11 (by omega) _ rfl
     have p12 := hcs 12 (by omega) _ rfl
     simp only [← Nat.add_assoc, Nat.add_zero] at p0 p1 p2 p3 p4 p5 p6 p7 p8 p9 p10 p11 p12
     have zb := Nat.lt_of_lt_of_le hb HK.out.size
     clear hcs hb
     simp only [rqV, ← hno, ← hnv, ← hnl] at HTW
     have HVB : Hid (nv * 32 ≤ 140737488355328) := Lib.hid (by have := HSX.out.vals; rw [hnv]; exact this)
     have HLB : Hid (nl * 4 ≤ 140737488355328) := Lib.hid (by have := HSX.out.list; rw [hnl]; exact this)
     have HNN : Hid (no = ops.length ∧ nv = vals.length ∧ nl = list.length) := Lib.hid ⟨hno, hnv, hnl⟩
     obtain ⟨W2, hW2⟩ : ∃ W2, W2 = ((wr.alloc (.cells #[.int .u8 (xc : Int), .int .u32 (xq : Int), .int .u8 (kind : Int), .slice ao no co, .int .u32 (rv : Int), .int .i64 rk, .int .i64 rd, .int .i64 ae, .int .i64 ap, .slice av nv cv, .slice al nl cl, .int .i64 fr, .int .i64 to_] 44)).alloc (.cells #[.int .i64 ae, .int .i64 ap, .slice av nv cv, .slice al nl cl] 39)) := ⟨_, rfl⟩
     have HM2 : Hid (Mod (fun _ => False) wr W2) := Lib.hid (by rw [hW2]; exact ((Mod.refl _ _).alloc _).alloc _)
     have HB5 : Hid (W2.heap[wr.heap.size]? = some (.cells #[.int .u8 (xc : Int), .int .u32 (xq : Int), .int .u8 (kind : Int), .slice ao no co, .int .u32 (rv : Int), .int .i64 rk, .int .i64 rd, .int .i64 ae, .int .i64 ap, .slice av nv cv, .slice al nl cl, .int .i64 fr, .int .i64 to_] 44 (0, 0))) := Lib.hid (by rw [hW2]; exact heap_alloc_old (heap_alloc_new' _ _))
     have HB6 : Hid (W2.heap[wr.heap.size + 1]? = some (.cells #[.int .i64 ae, .int .i64 ap, .slice av nv cv, .slice al nl cl] 39 (0, 0))) := Lib.hid (by
       rw [hW2]
       have h := heap_alloc_new' (wr.alloc (.cells #[.int .u8 (xc : Int), .int .u32 (xq : Int), .int .u8 (kind : Int), .slice ao no co, .int .u32 (rv : Int), .int .i64 rk, .int .i64 rd, .int .i64 ae, .int .i64 ap, .slice av nv cv, .slice al nl cl, .int .i64 fr, .int .i64 to_] 44)) (.cells #[.int .i64 ae, .int .i64 ap, .slice av nv cv, .slice al nl cl] 39)
       simpa using h)
     have HVR : Hid (∀ w', Mod (fun _ => False) W2 w' → RdS w' 3 (.slice av nv cv) nv (vvcells vals)) := Lib.hid (fun w' mm => by
       have h := (HRX.out.keep (HM2.out.trans mm)).vals
       simp only [← HNN.out.2.1] at h
       exact h)
     have HLR : Hid (∀ w', Mod (fun _ => False) W2 w' → RdS w' 1 (.slice al nl cl) nl (list.map (keyV .u32))) := Lib.hid (fun w' mm => by
       have h := (HRX.out.keep (HM2.out.trans mm)).list
       simp only [← HNN.out.2.2] at h
       exact h)
     clear hno hnv hnl
     go_upto_region 6 with fail
     rw [← hW2]
     clear hW2 p0 p1 p2 p3 p4 p5 p6 p7 p8 p9 p10 p11 p12
     have HMC : Hid (Mod (fun _ => False) W2 W2.drew) := Lib.hid (Mod.refl _ _).drew
     have q2 := cell_of_row HB6.out 2
     have q3 := cell_of_row HB6.out 3
     have zq := lt_of_block HB6.out
     have zq2 := Nat.lt_of_succ_lt zq
     simp at q2 q3
     go_cut [24] (fun p wx => ∃ a8 c8 a9 c9, AnC W2 (wr.heap.size + 1) ae ap nv nl vals list a8 c8 a9 c9 wx)
     case first =>
       go_wp2_with fail
       go_region_law (first
         | (have hq := HOV.out; refine step_append_fresh rfl (.tmp 19) (.tmp 21) 37 rfl IL _ 1 4 Tryz.underlying37 HIL.out.1 HIL.out.2.1 HIL.out.2.2.1 HIL.out.2.2.2 rfl (by decide) _ rfl (by first | exact HEO.out | exact heap_alloc_new' _ _) _ _ _ rfl ((HLR.out _ (by repeat (with_reducible (first | exact HMC.out | exact Mod.refl _ _ | refine Mod.drew ?_ | refine Mod.alloc ?_ _)))).src (nums_ones _)) (by have := HLB.out; unfold maxLen; omega) (by have := HLB.out; omega) ?_; intro v3 w3 hs3 hm3 ho3; have HMF : Hid (Mod (fun _ => False) W2 w3) := Lib.hid (Mod.trans (by repeat (with_reducible (first | exact HMC.out | exact Mod.refl _ _ | refine Mod.drew ?_ | refine Mod.alloc ?_ _))) hm3); have HZ3 := Lib.hid HMC.out.size; replace HSV := Lib.hid (HSV.out.mod (Mod.trans (by repeat (with_reducible (first | exact Mod.refl _ _ | refine Mod.alloc ?_ _))) hm3) (fun _ _ f => f)); have HSL := Lib.hid hs3; have HOL : Hid (∀ b, v3.ownBlock = some b → W2.heap.size ≤ b) := Lib.hid (fun b hb => by have := HZ3.out; rcases ho3 with e | e <;> (rw [e] at hb; injection hb with hb; (try simp only [World.size_alloc, World.size_drew] at hb); omega)); (obtain ⟨alx, clx, rfl, -⟩ := hs3.shape); replace HMC := HMF; have hb6 := HMF.out.heap HB6.out (fun f => f); have y2 := cell_of_row hb6 2; have y3 := cell_of_row hb6 3; have zy := lt_of_block hb6; have zy2 := Nat.lt_of_succ_lt zy; simp at y2 y3; have HY6 := Lib.hid hb6; have f2 := free_of_row hb6 2; have f3 := free_of_row hb6 3; clear HMF hs3 hm3 ho3 hb6)
         | (have hq := HOL.out; refine step_append_fresh rfl (.tmp 15) (.tmp 17) 36 rfl IV _ 3 32 Tryz.underlying36 HIV.out.1 HIV.out.2.1 HIV.out.2.2.1 HIV.out.2.2.2 rfl (by decide) _ rfl (by first | exact HEO.out | exact heap_alloc_new' _ _) _ _ _ rfl ((HVR.out _ (by repeat (with_reducible (first | exact HMC.out | exact Mod.refl _ _ | refine Mod.drew ?_ | refine Mod.alloc ?_ _)))).src (vvcells_ones _)) (by have := HVB.out; unfold maxLen; omega) (by have := HVB.out; omega) ?_; intro v3 w3 hs3 hm3 ho3; have HMF : Hid (Mod (fun _ => False) W2 w3) := Lib.hid (Mod.trans (by repeat (with_reducible (first | exact HMC.out | exact Mod.refl _ _ | refine Mod.drew ?_ | refine Mod.alloc ?_ _))) hm3); have HZ3 := Lib.hid HMC.out.size; replace HSL := Lib.hid (HSL.out.mod (Mod.trans (by repeat (with_reducible (first | exact Mod.refl _ _ | refine Mod.alloc ?_ _))) hm3) (fun _ _ f => f)); have HSV := Lib.hid hs3; have HOV : Hid (∀ b, v3.ownBlock = some b → W2.heap.size ≤ b) := Lib.hid (fun b hb => by have := HZ3.out; rcases ho3 with e | e <;> (rw [e] at hb; injection hb with hb; (try simp only [World.size_alloc, World.size_drew] at hb); omega)); (obtain ⟨avx, cvx, rfl, -⟩ := hs3.shape); replace HMC := HMF; have hb6 := HMF.out.heap HB6.out (fun f => f); have y2 := cell_of_row hb6 2; have y3 := cell_of_row hb6 3; have zy := lt_of_block hb6; have zy2 := Nat.lt_of_succ_lt zy; simp at y2 y3; have HY6 := Lib.hid hb6; have f2 := free_of_row hb6 2; have f3 := free_of_row hb6 3; clear HMF hs3 hm3 ho3 hb6)
         | (refine step_append_fresh rfl (.tmp 15) (.tmp 17) 36 rfl IV _ 3 32 Tryz.underlying36 HIV.out.1 HIV.out.2.1 HIV.out.2.2.1 HIV.out.2.2.2 rfl (by decide) _ rfl (by first | exact em_one W2 (.cells #[] 77) | exact em_first W2 (.cells #[] 77) (.cells #[] 32) | exact em_second W2 (.cells #[] 32) (.cells #[] 77)) _ _ _ rfl ((HVR.out _ (by repeat (with_reducible (first | exact HMC.out | exact Mod.refl _ _ | refine Mod.drew ?_ | refine Mod.alloc ?_ _)))).src (vvcells_ones _)) (by have := HVB.out; unfold maxLen; omega) (by have := HVB.out; omega) ?_; intro v3 w3 hs3 hm3 ho3; have HMF : Hid (Mod (fun _ => False) W2 w3) := Lib.hid (Mod.trans (by repeat (with_reducible (first | exact HMC.out | exact Mod.refl _ _ | refine Mod.drew ?_ | refine Mod.alloc ?_ _))) hm3); (first | have HEO := Lib.hid (hm3.heap (em_second W2 (.cells #[] 77) (.cells #[] 32)) (fun f => f)) | have HEO := Lib.hid (hm3.heap (em_first W2 (.cells #[] 32) (.cells #[] 77)) (fun f => f)) | skip); have HSV := Lib.hid hs3; have HOV : Hid (∀ b, v3.ownBlock = some b → W2.heap.size ≤ b) := Lib.hid (fun b hb => by rcases ho3 with e | e <;> (rw [e] at hb; injection hb with hb; (try simp only [World.size_alloc, World.size_drew] at hb); omega)); (obtain ⟨avx, cvx, rfl, -⟩ := hs3.shape); replace HMC := HMF; have hb6 := HMF.out.heap HB6.out (fun f => f); have y2 := cell_of_row hb6 2; have y3 := cell_of_row hb6 3; have zy := lt_of_block hb6; have zy2 := Nat.lt_of_succ_lt zy; simp at y2 y3; clear HMF hs3 hm3 ho3 hb6)
         | (refine step_append_fresh rfl (.tmp 19) (.tmp 21) 37 rfl IL _ 1 4 Tryz.underlying37 HIL.out.1 HIL.out.2.1 HIL.out.2.2.1 HIL.out.2.2.2 rfl (by decide) _ rfl (by first | exact em_one W2 (.cells #[] 32) | exact em_first W2 (.cells #[] 32) (.cells #[] 77) | exact em_second W2 (.cells #[] 77) (.cells #[] 32)) _ _ _ rfl ((HLR.out _ (by repeat (with_reducible (first | exact HMC.out | exact Mod.refl _ _ | refine Mod.drew ?_ | refine Mod.alloc ?_ _)))).src (nums_ones _)) (by have := HLB.out; unfold maxLen; omega) (by have := HLB.out; omega) ?_; intro v3 w3 hs3 hm3 ho3; have HMF : Hid (Mod (fun _ => False) W2 w3) := Lib.hid (Mod.trans (by repeat (with_reducible (first | exact HMC.out | exact Mod.refl _ _ | refine Mod.drew ?_ | refine Mod.alloc ?_ _))) hm3); (first | have HEO := Lib.hid (hm3.heap (em_second W2 (.cells #[] 32) (.cells #[] 77)) (fun f => f)) | have HEO := Lib.hid (hm3.heap (em_first W2 (.cells #[] 77) (.cells #[] 32)) (fun f => f)) | skip); have HSL := Lib.hid hs3; have HOL : Hid (∀ b, v3.ownBlock = some b → W2.heap.size ≤ b) := Lib.hid (fun b hb => by rcases ho3 with e | e <;> (rw [e] at hb; injection hb with hb; (try simp only [World.size_alloc, World.size_drew] at hb); omega)); (obtain ⟨alx, clx, rfl, -⟩ := hs3.shape); replace HMC := HMF; have hb6 := HMF.out.heap HB6.out (fun f => f); have y2 := cell_of_row hb6 2; have y3 := cell_of_row hb6 3; have zy := lt_of_block hb6; have zy2 := Nat.lt_of_succ_lt zy; simp at y2 y3; clear HMF hs3 hm3 ho3 hb6))
       all_goals
         go_step
         go_step
         go_meet
         first
           | (with_reducible exact ⟨_, _, _, _, AnC.one zq HMC.out HSV.out HSL.out HOV.out HOL.out HY6.out⟩)
           | (with_reducible exact ⟨_, _, _, _, AnC.two zq HMC.out HSV.out HSL.out HOV.out HOL.out HY6.out⟩)
     case rest =>
       obtain ⟨a8, c8, a9, c9, hac⟩ := hcut
       have HAC := Lib.hid hac
       have HMRC : Hid (Mod (fun _ => False) wr wc) := Lib.hid (HM2.out.trans' hac.mod (fun i hi e => by omega))
       have HB5C : Hid (wc.heap[wr.heap.size]? = some (.cells #[.int .u8 (xc : Int), .int .u32 (xq : Int), .int .u8 (kind : Int), .slice ao no co, .int .u32 (rv : Int), .int .i64 rk, .int .i64 rd, .int .i64 ae, .int .i64 ap, .slice av nv cv, .slice al nl cl, .int .i64 fr, .int .i64 to_] 44 (0, 0))) := Lib.hid (hac.mod.heap HB5.out (fun e => by omega))
       have HOWN : Hid (∀ b, Value.ownBlock (.slice au k cu) = some b → b < wr.heap.size) := Lib.hid (fun b hb => HBF.out.row.lt b hb)
       have HZC : Hid (W2.heap.size ≤ wc.heap.size) := Lib.hid hac.mod.size
       clear hac q2 q3
       have HKEEP : Hid (∀ w', Mod (fun b => Value.ownBlock (.slice au k cu) = some b) wc w' → (fun w' : World => w'.cell? ⟨wr.heap.size, 0, none⟩ = some (.int .u8 (xc : Int)) ∧ w'.cell? ⟨wr.heap.size, 1, none⟩ = some (.int .u32 (xq : Int)) ∧ w'.cell? ⟨wr.heap.size, 2, none⟩ = some (.int .u8 (kind : Int)) ∧ w'.cell? ⟨wr.heap.size, 3, none⟩ = some (.slice ao no co) ∧ w'.cell? ⟨wr.heap.size, 4, none⟩ = some (.int .u32 (rv : Int)) ∧ w'.cell? ⟨wr.heap.size, 5, none⟩ = some (.int .i64 rk) ∧ w'.cell? ⟨wr.heap.size, 6, none⟩ = some (.int .i64 rd) ∧ w'.cell? ⟨wr.heap.size, 11, none⟩ = some (.int .i64 fr) ∧ w'.cell? ⟨wr.heap.size, 12, none⟩ = some (.int .i64 to_) ∧ w'.cell? ⟨wr.heap.size + 1, 0, none⟩ = some (.int .i64 ae) ∧ w'.cell? ⟨wr.heap.size + 1, 1, none⟩ = some (.int .i64 ap) ∧ w'.cell? ⟨wr.heap.size + 1, 2, none⟩ = some (.slice a8 nv c8) ∧ w'.cell? ⟨wr.heap.size + 1, 3, none⟩ = some (.slice a9 nl c9)) w') := Lib.hid (fun w' mm => by
         have h5 := mm.heap HB5C.out (fun e => by have := HOWN.out _ e; omega)
         have h6 := mm.heap HAC.out.box (fun e => by have := HOWN.out _ e; omega)
         exact ⟨cell_of_row h5 0, cell_of_row h5 1, cell_of_row h5 2, cell_of_row h5 3, cell_of_row h5 4, cell_of_row h5 5, cell_of_row h5 6, cell_of_row h5 11, cell_of_row h5 12, cell_of_row h6 0, cell_of_row h6 1, cell_of_row h6 2, cell_of_row h6 3⟩)
       obtain ⟨k0, k1, k2, k3, k4, k5, k6, k7, k8, k9, k10, k11, k12⟩ := HKEEP.out wc.drew (Mod.refl _ _).drew
       go_wp2_with fail
       go_region_held3 (fun w' => w'.cell? ⟨wr.heap.size, 0, none⟩ = some (.int .u8 (xc : Int)) ∧ w'.cell? ⟨wr.heap.size, 1, none⟩ = some (.int .u32 (xq : Int)) ∧ w'.cell? ⟨wr.heap.size, 2, none⟩ = some (.int .u8 (kind : Int)) ∧ w'.cell? ⟨wr.heap.size, 3, none⟩ = some (.slice ao no co) ∧ w'.cell? ⟨wr.heap.size, 4, none⟩ = some (.int .u32 (rv : Int)) ∧ w'.cell? ⟨wr.heap.size, 5, none⟩ = some (.int .i64 rk) ∧ w'.cell? ⟨wr.heap.size, 6, none⟩ = some (.int .i64 rd) ∧ w'.cell? ⟨wr.heap.size, 11, none⟩ = some (.int .i64 fr) ∧ w'.cell? ⟨wr.heap.size, 12, none⟩ = some (.int .i64 to_) ∧ w'.cell? ⟨wr.heap.size + 1, 0, none⟩ = some (.int .i64 ae) ∧ w'.cell? ⟨wr.heap.size + 1, 1, none⟩ = some (.int .i64 ap) ∧ w'.cell? ⟨wr.heap.size + 1, 2, none⟩ = some (.slice a8 nv c8) ∧ w'.cell? ⟨wr.heap.size + 1, 3, none⟩ = some (.slice a9 nl c9))
         (first
           | go_keep
           | exact HKEEP.out _ HM9.out
           | exact HKEEP.out _ (HM4.out.mono (fun _ _ f => f.elim))
           | exact HKEEP.out _ ((HM4.out.alloc _).mono (fun _ _ f => f.elim)))
         ((first
           | (have hq := HROW.out; refine step_append_seg rfl (.tmp 25) (.tmp 39) 51 rfl i0 _ 13 144 Tryz.underlying51 HI.out.1 HI.out.2.1 HI.out.2.2.1 HI.out.2.2.2 rfl (by decide) rfl HROW.out _ 1 _ rfl HSR.out (by have := HL.out; unfold maxLen; omega) (by have := HL.out; omega) ?_; intro v3 w3 hs3 hg3 ho3; have H3 := Lib.hid (HBF6.out.next (c := ⟨⟨xc, xq, ⟨kind, ops, rv, rk, rd⟩, ae, ap, vals, list, fr, to_⟩, .slice a7 no c7, .slice a8 nv c8, .slice a9 nl c9⟩) HST6.out (by rw [HLN.out]; exact hs3) hg3 ho3); have HM9 : Hid (Mod (fun b => Value.ownBlock (.slice au k cu) = some b) wc w3) := Lib.hid (((HM4.out.alloc _).mono (fun _ _ f => f.elim)).trans ((Mod.refl _ _).grown hg3 (fun b hb _ => hb))); (obtain ⟨a3, c3, rfl, -⟩ := hs3.shape); clear hs3 hg3 ho3 hq)
           | (go_at_call 38; go_loud (refine (HTW.out _ (HMRC.out.drew)).mono ?_; (rintro e w4 ⟨a7, c7, rfl, hm4, hs4, ho4⟩); have HM4 : Hid (Mod (fun _ => False) wc w4) := Lib.hid ((Mod.refl (fun _ => False) wc).drew.trans hm4); have hmA : Mod (fun _ => False) wc (w4.alloc (.cells #[.int .u8 (xc : Int), .int .u32 (xq : Int), .int .u8 (kind : Int), .slice a7 no c7, .int .u32 (rv : Int), .int .i64 rk, .int .i64 rd, .int .i64 ae, .int .i64 ap, .slice a8 nv c8, .slice a9 nl c9, .int .i64 fr, .int .i64 to_] 74)) := HM4.out.alloc _; have HBF6 := Lib.hid (HBF.out.keep (HMRC.out.trans hmA)); have HROW : Hid (Seg (w4.alloc (.cells #[.int .u8 (xc : Int), .int .u32 (xq : Int), .int .u8 (kind : Int), .slice a7 no c7, .int .u32 (rv : Int), .int .i64 rk, .int .i64 rd, .int .i64 ae, .int .i64 ap, .slice a8 nv c8, .slice a9 nl c9, .int .i64 fr, .int .i64 to_] 74)) 74 13 (.slice au k cu) k (ms.flatMap Cm.c13)) := Lib.hid (by have h := HBF6.out.row; rwa [HLN.out] at h); have HSR := Lib.hid (src_cells (w := w4) rfl (size := 13) 74 #[.int .u8 (xc : Int), .int .u32 (xq : Int), .int .u8 (kind : Int), .slice a7 no c7, .int .u32 (rv : Int), .int .i64 rk, .int .i64 rd, .int .i64 ae, .int .i64 ap, .slice a8 nv c8, .slice a9 nl c9, .int .i64 fr, .int .i64 to_] rfl (by simp [Value.oneCell'])); have HST6 : Hid (Cm.St (fun b => Value.ownBlock (.slice au k cu) = some b) (w4.alloc (.cells #[.int .u8 (xc : Int), .int .u32 (xq : Int), .int .u8 (kind : Int), .slice a7 no c7, .int .u32 (rv : Int), .int .i64 rk, .int .i64 rd, .int .i64 ae, .int .i64 ap, .slice a8 nv c8, .slice a9 nl c9, .int .i64 fr, .int .i64 to_] 74)) ⟨⟨xc, xq, ⟨kind, ops, rv, rk, rd⟩, ae, ap, vals, list, fr, to_⟩, .slice a7 no c7, .slice a8 nv c8, .slice a9 nl c9⟩) := Lib.hid (Cm.st_new HRX.out.nm HRX.out.v HRX.out.ops.fits (by have h := hs4.alloc (.cells #[.int .u8 (xc : Int), .int .u32 (xq : Int), .int .u8 (kind : Int), .slice a7 no c7, .int .u32 (rv : Int), .int .i64 rk, .int .i64 rd, .int .i64 ae, .int .i64 ap, .slice a8 nv c8, .slice a9 nl c9, .int .i64 fr, .int .i64 to_] 74); rw [HNN.out.1] at h; rw [HNN.out.1]; exact h) (by have h := HAC.out.sv.mod hmA (fun _ _ f => f); rw [HNN.out.2.1] at h; rw [HNN.out.2.1]; exact h) (by have h := HAC.out.sl.mod hmA (fun _ _ f => f); rw [HNN.out.2.2] at h; rw [HNN.out.2.2]; exact h) (fun b hb e => by have h1 := ho4 b hb; have h2 := HOWN.out b e; have h3 := HMRC.out.size; simp only [World.size_drew] at h1; omega) (fun b hb e => by have h1 := HAC.out.ov b hb; have h2 := HOWN.out b e; omega) (fun b hb e => by have h1 := HAC.out.ol b hb; have h2 := HOWN.out b e; omega)); clear hm4 hs4 ho4 hmA))))
       all_goals
         go_wp2
         go_roundw
         case rel => exact ⟨k + 1, ms ++ [⟨⟨xc, xq, ⟨kind, ops, rv, rk, rd⟩, ae, ap, vals, list, fr, to_⟩, .slice a7 no c7, .slice a8 nv c8, .slice a9 nl c9⟩], by go_num, by omega, H3.out, by rw [List.map_append, HMS.out, HTK.out]; rfl⟩
         case measure => simp [intOf]; omega
   · have HALL : Hid (ms.map Cm.x = l.map Cm.x) := Lib.hid (by rw [HMS.out, List.take_of_length_le (by have := HML.out; omega)])
     go_wp2
     go_ret
     exact ⟨_, ms, rfl, HBF.out, HALL.out⟩
end Go.Proofs.YtpigipgoopeeoaaGreatDoor
