import Derived.Test.YtpigipgoopeeoaaGreatDoorMOn11
set_option linter.unusedVariables false
set_option linter.unusedSimpArgs false
namespace Go.Proofs.YtpigipgoopeeoaaGreatDoor
open Go.RowKit
theorem noVal_fitsB : noVal.Fits := by
 unfold noVal
 refine ⟨?_, ?_, ?_⟩ <;> decide
set_option maxRecDepth 100000 in
set_option maxHeartbeats 4000000 in
theorem one_6b (g : Nat) (v : Value) (l : List Vs) (a b key vk : Nat) (vn : Int) (vs : ByteArray) (w : World) (hg : GrAt w g v l) (ht : Tame l) (hf : Opr.Fits ⟨6, a, b, key, ⟨vk, vn, vs⟩⟩) (x : Vtx) (hfa : findV (l.map Vs.x) a = some x) (u : Vtx) (hfb : findV (l.map Vs.x) b = some u) (hab : Hid (a ≠ b)) :
   Calls Tryz.prog 26 #[.pointer (some ⟨g, 0, none⟩), .agg #[.int .u8 6, .int .u32 (a : Int), .int .u32 (b : Int), .int .u8 (key : Int), .int .u8 (vk : Int), .int .i64 vn, .string vs]] w (OneP g l ⟨6, a, b, key, ⟨vk, vn, vs⟩⟩ w) := by
 have HG := Lib.hid hg
 have HT := Lib.hid ht
 have HF := Lib.hid hf
 obtain ⟨W, hW⟩ : ∃ W, W = w.alloc (.cells #[.int .u8 6, .int .u32 (a : Int), .int .u32 (b : Int), .int .u8 (key : Int), .int .u8 (vk : Int), .int .i64 vn, .string vs] 79) := ⟨_, rfl⟩
 have HW := Lib.hid hW
 have hb : W.heap[w.heap.size]? = some (.cells #[.int .u8 6, .int .u32 (a : Int), .int .u32 (b : Int), .int .u8 (key : Int), .int .u8 (vk : Int), .int .i64 vn, .string vs] 79 (0, 0)) := by rw [hW]; exact heap_alloc_new' w _
 have HB := Lib.hid hb
 have c1 := cell_of_row hb 1
 have c2 := cell_of_row hb 2
 simp at c1 c2
 have c1 : ∀ x : MW W, x.w.cell? _ = some _ := fun x => x.cell c1
 have c2 : ∀ x : MW W, x.w.cell? _ = some _ := fun x => x.cell c2
 have HGW : Hid (GrAt W g v l) := Lib.hid (hg.keep (by rw [hW]; exact (Mod.refl _ _).alloc _))
 have HAT : Hid (∀ (x : MW W) (f : Nat), Calls Tryz.prog 23 #[.pointer (some ⟨g, 0, none⟩), .int .u32 (f : Int)] x.w fun e w' => e = .returned (.int .i64 (atI l f)) ∧ ∃ x' : MW W, w' = x'.w) := Lib.hid (fun x f => Calls.quietM (at_any g v l f x.w (HGW.out.keep x.mod)))
 clear hb hg ht hf
 go_enter Tryz.func26, Tryz.ntmps26
 go_wp2_with fail
 rw [← HW.out]
 clear hW
 refine wp_region_quietM (by kernel_rfl) (by kernel_rfl) ?_
 repeat (go_big_quiet_step ((go_at_call 23; exact HAT.out _ _)))
 refine wpQuiet_nil ?_
 intro w3 hm3
 have M3 := Lib.hid (MW.mod_of hm3)
 have M3' : Hid (Mod (fun _ => False) w w3) := Lib.hid (by have h : Mod (fun _ => False) w W := by { rw [HW.out]; exact (Mod.refl _ _).alloc _ }; exact h.trans M3.out)
 have hb3 := M3.out.heap HB.out (fun f => f)
 have HB3 := Lib.hid hb3
 have d0 := cell_of_row hb3 0
 have d1 := cell_of_row hb3 1
 have d2 := cell_of_row hb3 2
 have d3 := cell_of_row hb3 3
 have d4 := cell_of_row hb3 4
 have d5 := cell_of_row hb3 5
 have d6 := cell_of_row hb3 6
 have zo := lt_of_block hb3
 simp at d0 d1 d2 d3 d4 d5 d6
 clear hm3 c1 c2 HAT hb3
 obtain ⟨j, su, hj, hsu, hsux, hidu⟩ := find_some hfb
 rw [hj]
 have HSU := Lib.hid hsu
 have HIDU := Lib.hid hidu
 have HFB := Lib.hid hfb
 have HVU0 := Lib.hid ((HG.out.lst.at hsu).keep M3'.out)
 have HTU := Lib.hid (HT.out.each su (List.mem_of_getElem? hsu))
 have HJL := Lib.hid (List.getElem?_eq_some_iff.1 hsu).1
 clear hsu hidu hfb hj
 obtain ⟨i, s, hi, hs, hsx, hid⟩ := find_some hfa
 rw [hi]
 have g0 := cell_of_row (HG.out.keep M3'.out).box 0
 simp at g0
 have zg := lt_of_block (HG.out.keep M3'.out).box
 obtain ⟨ag, cg, hve, hcg1, hcg2, -⟩ := HG.out.lst.row.shape
 subst hve
 obtain ⟨n, hn⟩ : ∃ n, n = l.length := ⟨_, rfl⟩
 have hin : i < n := by rw [hn]; exact (List.getElem?_eq_some_iff.1 hs).1
 have hin' : (i : Int) < (n : Int) := by omega
 have HN := Lib.hid hn
 rw [← hn] at g0 hcg1 HG
 clear hn
 obtain ⟨bl, offl, e0, hbl, r0, r1, r2, r3⟩ := HG.out.lst.ent hs rfl
 replace r0 := M3'.out.cell r0
 replace r1 := M3'.out.cell r1
 replace r2 := M3'.out.cell r2
 replace r3 := M3'.out.cell r3
 have zbl : bl < w3.heap.size := Nat.lt_of_lt_of_le hbl M3'.out.size
 subst e0
 have HS := Lib.hid hs
 have HVX := Lib.hid ((HG.out.lst.at hs).keep M3'.out)
 have HTH := Lib.hid (HT.out.each s (List.mem_of_getElem? hs))
 have HID := Lib.hid hid
 have HFA := Lib.hid hfa
 have hi0 := hi
 clear hs hbl hi hid hfa
 obtain ⟨⟨id, thr, xs, ys⟩, vp, vh⟩ := s
 simp only at hsx
 subst hsx
 obtain rfl : thr = true := HTH.out.1
 obtain rfl : id = a := HID.out
 obtain ⟨ap, cp, hvp, -⟩ := HVX.out.props.shape
 obtain ⟨ah, ch, hvh, -⟩ := HVX.out.halves.shape
 simp only at hvp hvh r0 r1 r2 r3 HVX HTH
 subst hvp hvh
 obtain ⟨np, hnp⟩ : ∃ np, np = xs.length := ⟨_, rfl⟩
 obtain ⟨nh, hnh⟩ : ∃ nh, nh = ys.length := ⟨_, rfl⟩
 rw [← hnp] at r2
 rw [← hnh] at r3
 have HNP := Lib.hid hnp
 have HNH := Lib.hid hnh
 obtain ⟨eb, heb⟩ : ∃ eb, eb = entX ys b := ⟨_, rfl⟩
 have HEB := Lib.hid heb
 have HHF : Hid (∀ w', Mod (fun _ => False) w3 w' → Calls Tryz.prog 51 #[.agg #[.int .u32 (id : Int), .bool true, .slice ap np cp, .slice ah nh ch], .int .u32 (b : Int)] w' fun e w'' => e = .returned (.tuple #[.agg #[.int .u8 ((eb.getD noVal).k : Int), .int .i64 (eb.getD noVal).n, .string (eb.getD noVal).s], .bool eb.isSome]) ∧ Mod (fun _ => False) w' w'') := Lib.hid (fun w' m => by
   have h := dhalf_any ⟨id, true, xs, ys⟩ (.slice ap np cp) (.slice ah nh ch) b w' (by rw [HNP.out, HNH.out]; exact HVX.out.keep m)
   simp only [vtxV, Val.v, ← HEB.out] at h
   exact h)
 rw [← hnp, ← hnh] at HVX
 rw [← hnp, ← hnh] at HS
 clear heb hnp hnh
 have hjn : j < n := by rw [HN.out]; exact HJL.out
 have hjn' : (j : Int) < (n : Int) := by omega
 obtain ⟨bl2, offl2, e02, hbl2, s0, s1, s2, s3⟩ := HG.out.lst.ent HSU.out rfl
 obtain ⟨eb1, eb2⟩ : bl2 = bl ∧ offl2 = offl := by simp at e02; exact ⟨e02.1.symm, e02.2.symm⟩
 rw [eb1, eb2] at s0 s1 s2 s3
 clear e02 hbl2 eb1 eb2
 replace s0 := M3'.out.cell s0
 replace s1 := M3'.out.cell s1
 replace s2 := M3'.out.cell s2
 replace s3 := M3'.out.cell s3
 obtain ⟨⟨idu, thu, xu, yu⟩, vpu, vhu⟩ := su
 simp only at hsux
 subst hsux
 obtain rfl : thu = true := HTU.out.1
 have hbu : b = idu := HIDU.out.symm
 subst hbu
 obtain ⟨apu, cpu, hvpu, -⟩ := HVU0.out.props.shape
 obtain ⟨ahu, chu, hvhu, -⟩ := HVU0.out.halves.shape
 simp only at hvpu hvhu s0 s1 s2 s3 HVU0 HTU
 subst hvpu hvhu
 obtain ⟨npu, hnpu⟩ : ∃ np, np = xu.length := ⟨_, rfl⟩
 obtain ⟨nhu, hnhu⟩ : ∃ nh, nh = yu.length := ⟨_, rfl⟩
 rw [← hnpu] at s2
 rw [← hnhu] at s3
 have HNPU := Lib.hid hnpu
 have HNHU := Lib.hid hnhu
 rw [← hnpu, ← hnhu] at HVU0
 rw [← hnpu, ← hnhu] at HSU
 clear hnpu hnhu
 have HE : Hid (oneG (l.map Vs.x) ⟨6, id, b, key, ⟨vk, vn, vs⟩⟩ = match eb with | none => ⟨6, l.map Vs.x, []⟩ | some _ => ⟨0, layV (setH ⟨b, true, xu, yu⟩ id noVal false) (layV (setH ⟨id, true, xs, ys⟩ b noVal false) (l.map Vs.x)), []⟩) := Lib.hid (by unfold oneG; simp only; rw [HFA.out]; simp only [← HEB.out, HFB.out]; cases eb <;> simp)
 clear s0 s1 s2 s3
 obtain ⟨bv, hbv⟩ : ∃ bv, bv = eb.getD noVal := ⟨_, rfl⟩
 rw [← hbv] at HHF
 clear hbv
 obtain ⟨bk, bn, bs⟩ := bv
 simp only at HHF
 go_upto_region 11 with (go_at_call 51; refine (HHF.out _ ((Mod.refl (fun _ => False) w3).alloc _)).mono ?_; (rintro e w5 ⟨rfl, hm5⟩); have M5 := Lib.hid (((Mod.refl (fun _ => False) w3).alloc _).trans hm5); have hb5 := hm5.heap (heap_alloc_new' w3 _) (fun f => f); have HB5 := Lib.hid hb5; have e0 := cell_of_row hb5 0; have e1 := cell_of_row hb5 1; have e2 := cell_of_row hb5 2; have e3 := cell_of_row hb5 3; have z5 := lt_of_block hb5; simp at e0 e1 e2 e3; clear hm5 hb5; have d0 := M5.out.cell d0; have d1 := M5.out.cell d1; have d2 := M5.out.cell d2; have d3 := M5.out.cell d3; have d4 := M5.out.cell d4; have d5 := M5.out.cell d5; have d6 := M5.out.cell d6; have zo5 : w.heap.size < w5.heap.size := Nat.lt_of_lt_of_le zo M5.out.size; have zbl5 : bl < w5.heap.size := Nat.lt_of_lt_of_le zbl M5.out.size; have zg5 : g < w5.heap.size := Nat.lt_of_lt_of_le zg M5.out.size; have g0 := M5.out.cell g0)
 cases eb with
 | none =>
   have HE2 : Hid (oneG (l.map Vs.x) ⟨6, id, b, key, ⟨vk, vn, vs⟩⟩ = ⟨6, l.map Vs.x, []⟩) := Lib.hid (by rw [HE.out])
   go_wp2
   refine bodyPost_ret (v := .tuple #[.int .i64 6, .slice none 0 0]) (by simp [results, Tryz.results26, go_sem]) rfl ?_
   exact OneP.stay HG.out ((M3'.out.trans M5.out).alloc _) HE2.out (RdS.none _ _)
 | some val =>
   have HE2 : Hid (oneG (l.map Vs.x) ⟨6, id, b, key, ⟨vk, vn, vs⟩⟩ = ⟨0, layV (setH ⟨b, true, xu, yu⟩ id noVal false) (layV (setH ⟨id, true, xs, ys⟩ b noVal false) (l.map Vs.x)), []⟩) := Lib.hid (by rw [HE.out])
   have M9 := Lib.hid ((M3'.out.trans M5.out).alloc (.cells #[.int .u8 (bk : Int), .int .i64 bn, .string bs] 77))
   have HZG : Hid (g < w.heap.size) := Lib.hid (lt_of_block HG.out.box)
   have HVU := Lib.hid (HVU0.out.keep (M5.out.alloc (.cells #[.int .u8 (bk : Int), .int .i64 bn, .string bs] 77)))
   have HSH : Hid (∀ w', Mod (fun _ => False) (w5.alloc (.cells #[.int .u8 (bk : Int), .int .i64 bn, .string bs] 77)) w' → Calls Tryz.prog 54 #[.agg #[.int .u32 (id : Int), .bool true, .slice ap np cp, .slice ah nh ch], .int .u32 (b : Int), .agg #[.int .u8 0, .int .i64 0, .string ⟨#[]⟩], .bool false] w' fun e w'' => Mod (fun _ => False) w' w'' ∧ ∃ vo, e = .returned (vtxV (setH ⟨id, true, xs, ys⟩ b noVal false) (.slice ap np cp) vo) ∧ VRd w'' (.slice ap np cp) vo (setH ⟨id, true, xs, ys⟩ b noVal false)) := Lib.hid (fun w' m => sethalf_any ⟨id, true, xs, ys⟩ (.slice ap np cp) (.slice ah nh ch) b noVal false w' (HVX.out.keep ((M5.out.alloc _).trans m)) HF.out.b noVal_fitsB (by have := HTH.out.2.2; simp only at this ⊢; omega))
   have HLAY : Hid (∀ w' vo, Mod (fun _ => False) (w5.alloc (.cells #[.int .u8 (bk : Int), .int .i64 bn, .string bs] 77)) w' → VRd w' (.slice ap np cp) vo (setH ⟨id, true, xs, ys⟩ b noVal false) → Calls Tryz.prog 50 #[.pointer (some ⟨g, 0, none⟩), .agg #[.int .u32 (id : Int), .bool true, .slice ap np cp, vo]] w' (fun e w'' => e = .returned (.tuple #[]) ∧ Mod (fun k => k = g) w' w'' ∧ ∃ v', GrAt w'' g v' (layG keyS ⟨setH ⟨id, true, xs, ys⟩ b noVal false, .slice ap np cp, vo⟩ false (l)))) := Lib.hid (fun w' vo m hv => lay_any g (.slice (some ⟨bl, offl, none⟩) n cg) (l) ⟨setH ⟨id, true, xs, ys⟩ b noVal false, .slice ap np cp, vo⟩ w' (HG.out.keep (M9.out.trans m)) hv (by have := HT.out.len; omega))
   go_upto_region 35 with (first
     | (go_at_call 54; refine (HSH.out _ (Mod.refl _ _)).mono ?_; (rintro e w6 ⟨hm6, vo, rfl, hv6⟩); have M6 := Lib.hid hm6; have HV6 := Lib.hid hv6; clear hm6 hv6; simp only [vtxV, setH]; have HL6 := Lib.hid (HLAY.out w6 vo M6.out HV6.out))
     | (go_at_call 50; refine HL6.out.mono ?_; (rintro e w7 ⟨rfl, hm7, v7, hg7⟩); have N7 := Lib.hid hm7; have M7 := Lib.hid ((M9.out.trans M6.out).mono (fun _ _ f => f.elim) |>.trans hm7); have HG7 := Lib.hid hg7; clear hm7 hg7))
   have HRS : Hid (Rising keyS l) := Lib.hid HT.out.rise
   obtain ⟨s7, hs7⟩ : ∃ s7 : Vs, s7 = ⟨setH ⟨id, true, xs, ys⟩ b noVal false, .slice ap np cp, vo⟩ := ⟨_, rfl⟩
   have HS7 := Lib.hid hs7
   rw [← hs7] at HG7
   clear hs7
   have HL7 : Hid (layG keyS s7 false l = l.set i s7) := Lib.hid (layG_set HRS.out HS.out (by rw [HS7.out]; rfl))
   obtain ⟨l7, hl7⟩ : ∃ l7, l7 = layG keyS s7 false l := ⟨_, rfl⟩
   rw [← hl7] at HG7
   have HLL := Lib.hid hl7
   have HJ7 : Hid (l7[j]? = some ⟨⟨b, true, xu, yu⟩, .slice apu npu cpu, .slice ahu nhu chu⟩) := Lib.hid (by
     rw [hl7, HL7.out, List.getElem?_set_ne (by
       intro e
       subst e
       have h := HS.out.symm.trans HSU.out
       simp at h
       exact hab.out h.1.1)]
     exact HSU.out)
   have HN7 : Hid (l7.length = n) := Lib.hid (by rw [hl7, HL7.out, List.length_set]; exact HN.out.symm)
   clear hl7
   have g7 := cell_of_row HG7.out.box 0
   simp at g7
   have zg7 := lt_of_block HG7.out.box
   obtain ⟨a7, c7, hv7, hc71, hc72, -⟩ := HG7.out.lst.row.shape
   subst hv7
   rw [HN7.out] at g7 hc71 HG7
   obtain ⟨b7, off7, e7, hb7, q0, q1, q2, q3⟩ := HG7.out.lst.ent HJ7.out rfl
   subst e7
   simp only at q0 q1 q2 q3
   have d1 := N7.out.cellS (M6.out.cell (((Mod.refl (fun _ => False) w5).alloc (.cells #[.int .u8 (bk : Int), .int .i64 bn, .string bs] 77)).cell d1)) (fun e => by have := HZG.out; simp at e; omega)
   have zo7 : w.heap.size < w7.heap.size := Nat.lt_of_lt_of_le zo5 (Nat.le_trans (by simp) (Nat.le_trans M6.out.size N7.out.size))
   have zb7 : b7 < w7.heap.size := hb7
   have HVU7 : Hid (VRd w7 (.slice apu npu cpu) (.slice ahu nhu chu) ⟨b, true, xu, yu⟩) := Lib.hid (VRd.box1 (M6.out.heap (HG.out.keep M9.out).box (fun f => f)) (HVU.out.keep M6.out) N7.out)
   have HSU2 : Hid (∀ w', Mod (fun _ => False) w7 w' → Calls Tryz.prog 54 #[.agg #[.int .u32 (b : Int), .bool true, .slice apu npu cpu, .slice ahu nhu chu], .int .u32 (id : Int), .agg #[.int .u8 0, .int .i64 0, .string ⟨#[]⟩], .bool false] w' fun e w'' => Mod (fun _ => False) w' w'' ∧ ∃ vo, e = .returned (vtxV (setH ⟨b, true, xu, yu⟩ id noVal false) (.slice apu npu cpu) vo) ∧ VRd w'' (.slice apu npu cpu) vo (setH ⟨b, true, xu, yu⟩ id noVal false)) := Lib.hid (fun w' m => sethalf_any ⟨b, true, xu, yu⟩ (.slice apu npu cpu) (.slice ahu nhu chu) id noVal false w' (HVU7.out.keep m) HF.out.a noVal_fitsB (by have := HTU.out.2.2; simp only at this ⊢; omega))
   have HLU2 : Hid (∀ w' vo, Mod (fun _ => False) w7 w' → VRd w' (.slice apu npu cpu) vo (setH ⟨b, true, xu, yu⟩ id noVal false) → Calls Tryz.prog 50 #[.pointer (some ⟨g, 0, none⟩), .agg #[.int .u32 (b : Int), .bool true, .slice apu npu cpu, vo]] w' (fun e w'' => e = .returned (.tuple #[]) ∧ Mod (fun k => k = g) w' w'' ∧ ∃ v', GrAt w'' g v' (layG keyS ⟨setH ⟨b, true, xu, yu⟩ id noVal false, .slice apu npu cpu, vo⟩ false l7))) := Lib.hid (fun w' vo m hv => lay_any g _ l7 ⟨setH ⟨b, true, xu, yu⟩ id noVal false, .slice apu npu cpu, vo⟩ w' (HG7.out.keep m) hv (by have := HN7.out; have := HN.out; have := HT.out.len; omega))
   clear hb7 HHF HSH HLAY HL6 d0 d2 d3 d4 d5 d6 e0 e1 e2 e3 g0 r0 r1 r2 r3
   go_wp2_with fail
   go_region_law (first
     | (go_simp; go_at_call 54; refine (HSU2.out _ (by first | exact Mod.refl _ _ | exact (Mod.refl _ _).drew)).mono ?_; (rintro e w8 ⟨hm8, vo8, rfl, hv8⟩); have M8 : Hid (Mod (fun _ => False) w7 w8) := Lib.hid (by first | exact hm8 | exact (Mod.refl _ _).drew.trans hm8); have HV8 := Lib.hid hv8; clear hm8 hv8; simp only [vtxV, setH]; have HL8 := Lib.hid (HLU2.out w8 vo8 M8.out HV8.out))
     | (go_simp; go_at_call 50; refine HL8.out.mono ?_; (rintro e w9 ⟨rfl, hm9, v9, hg9⟩); have MZ := Lib.hid ((M7.out.trans (M8.out.mono (fun _ _ f => f.elim))).trans hm9); have HG9 := Lib.hid hg9; clear hm9 hg9))
   all_goals
     go_wp2
     refine bodyPost_ret (v := .tuple #[.int .i64 0, .slice none 0 0]) (by simp [results, Tryz.results26, go_sem]) rfl ?_
     exact OneP.laid HG9.out MZ.out HE2.out (by rw [lay_map, HLL.out, lay_map, HS7.out]; rfl)
open Go.RowKit
set_option maxRecDepth 100000 in
set_option maxHeartbeats 4000000 in
theorem one_7 (g : Nat) (v : Value) (l : List Vs) (a b key vk : Nat) (vn : Int) (vs : ByteArray) (w : World) (hg : GrAt w g v l) (ht : Tame l) (hf : Opr.Fits ⟨7, a, b, key, ⟨vk, vn, vs⟩⟩) (x : Vtx) (hfa : findV (l.map Vs.x) a = some x) :
   Calls Tryz.prog 26 #[.pointer (some ⟨g, 0, none⟩), .agg #[.int .u8 7, .int .u32 (a : Int), .int .u32 (b : Int), .int .u8 (key : Int), .int .u8 (vk : Int), .int .i64 vn, .string vs]] w (OneP g l ⟨7, a, b, key, ⟨vk, vn, vs⟩⟩ w) := by
 have HG := Lib.hid hg
 have HT := Lib.hid ht
 have HF := Lib.hid hf
 obtain ⟨W, hW⟩ : ∃ W, W = w.alloc (.cells #[.int .u8 7, .int .u32 (a : Int), .int .u32 (b : Int), .int .u8 (key : Int), .int .u8 (vk : Int), .int .i64 vn, .string vs] 79) := ⟨_, rfl⟩
 have HW := Lib.hid hW
 have hb : W.heap[w.heap.size]? = some (.cells #[.int .u8 7, .int .u32 (a : Int), .int .u32 (b : Int), .int .u8 (key : Int), .int .u8 (vk : Int), .int .i64 vn, .string vs] 79 (0, 0)) := by rw [hW]; exact heap_alloc_new' w _
 have HB := Lib.hid hb
 have c1 := cell_of_row hb 1
 have c2 := cell_of_row hb 2
 simp at c1 c2
 have c1 : ∀ x : MW W, x.w.cell? _ = some _ := fun x => x.cell c1
 have c2 : ∀ x : MW W, x.w.cell? _ = some _ := fun x => x.cell c2
 have HGW : Hid (GrAt W g v l) := Lib.hid (hg.keep (by rw [hW]; exact (Mod.refl _ _).alloc _))
 have HAT : Hid (∀ (x : MW W) (f : Nat), Calls Tryz.prog 23 #[.pointer (some ⟨g, 0, none⟩), .int .u32 (f : Int)] x.w fun e w' => e = .returned (.int .i64 (atI l f)) ∧ ∃ x' : MW W, w' = x'.w) := Lib.hid (fun x f => Calls.quietM (at_any g v l f x.w (HGW.out.keep x.mod)))
 clear hb hg ht hf
 go_enter Tryz.func26, Tryz.ntmps26
 go_wp2_with fail
 rw [← HW.out]
 clear hW
 refine wp_region_quietM (by kernel_rfl) (by kernel_rfl) ?_
 repeat (go_big_quiet_step ((go_at_call 23; exact HAT.out _ _)))
 refine wpQuiet_nil ?_
 intro w3 hm3
 have M3 := Lib.hid (MW.mod_of hm3)
 have M3' : Hid (Mod (fun _ => False) w w3) := Lib.hid (by have h : Mod (fun _ => False) w W := by { rw [HW.out]; exact (Mod.refl _ _).alloc _ }; exact h.trans M3.out)
 have hb3 := M3.out.heap HB.out (fun f => f)
 have HB3 := Lib.hid hb3
 have d0 := cell_of_row hb3 0
 have d1 := cell_of_row hb3 1
 have d2 := cell_of_row hb3 2
 have d3 := cell_of_row hb3 3
 have d4 := cell_of_row hb3 4
 have d5 := cell_of_row hb3 5
 have d6 := cell_of_row hb3 6
 have zo := lt_of_block hb3
 simp at d0 d1 d2 d3 d4 d5 d6
 clear hm3 c1 c2 HAT hb3
 generalize atI l b = ib
 obtain ⟨i, s, hi, hs, hsx, hid⟩ := find_some hfa
 rw [hi]
 have g0 := cell_of_row (HG.out.keep M3'.out).box 0
 simp at g0
 have zg := lt_of_block (HG.out.keep M3'.out).box
 obtain ⟨ag, cg, hve, hcg1, hcg2, -⟩ := HG.out.lst.row.shape
 subst hve
 obtain ⟨n, hn⟩ : ∃ n, n = l.length := ⟨_, rfl⟩
 have hin : i < n := by rw [hn]; exact (List.getElem?_eq_some_iff.1 hs).1
 have hin' : (i : Int) < (n : Int) := by omega
 have HN := Lib.hid hn
 rw [← hn] at g0 hcg1 HG
 clear hn
 obtain ⟨bl, offl, e0, hbl, r0, r1, r2, r3⟩ := HG.out.lst.ent hs rfl
 replace r0 := M3'.out.cell r0
 replace r1 := M3'.out.cell r1
 replace r2 := M3'.out.cell r2
 replace r3 := M3'.out.cell r3
 have zbl : bl < w3.heap.size := Nat.lt_of_lt_of_le hbl M3'.out.size
 subst e0
 have HS := Lib.hid hs
 have HVX := Lib.hid ((HG.out.lst.at hs).keep M3'.out)
 have HTH := Lib.hid (HT.out.each s (List.mem_of_getElem? hs))
 have HID := Lib.hid hid
 have HFA := Lib.hid hfa
 have hi0 := hi
 clear hs hbl hi hid hfa
 obtain ⟨⟨id, thr, xs, ys⟩, vp, vh⟩ := s
 simp only at hsx
 subst hsx
 obtain rfl : thr = true := HTH.out.1
 obtain rfl : id = a := HID.out
 obtain ⟨ap, cp, hvp, -⟩ := HVX.out.props.shape
 obtain ⟨ah, ch, hvh, -⟩ := HVX.out.halves.shape
 simp only at hvp hvh r0 r1 r2 r3 HVX HTH
 subst hvp hvh
 obtain ⟨np, hnp⟩ : ∃ np, np = xs.length := ⟨_, rfl⟩
 obtain ⟨nh, hnh⟩ : ∃ nh, nh = ys.length := ⟨_, rfl⟩
 rw [← hnp] at r2
 rw [← hnh] at r3
 have HNP := Lib.hid hnp
 have HNH := Lib.hid hnh
 obtain ⟨eb, heb⟩ : ∃ eb, eb = entX ys b := ⟨_, rfl⟩
 have HEB := Lib.hid heb
 have HHF : Hid (∀ w', Mod (fun _ => False) w3 w' → Calls Tryz.prog 51 #[.agg #[.int .u32 (id : Int), .bool true, .slice ap np cp, .slice ah nh ch], .int .u32 (b : Int)] w' fun e w'' => e = .returned (.tuple #[.agg #[.int .u8 ((eb.getD noVal).k : Int), .int .i64 (eb.getD noVal).n, .string (eb.getD noVal).s], .bool eb.isSome]) ∧ Mod (fun _ => False) w' w'') := Lib.hid (fun w' m => by
   have h := dhalf_any ⟨id, true, xs, ys⟩ (.slice ap np cp) (.slice ah nh ch) b w' (by rw [HNP.out, HNH.out]; exact HVX.out.keep m)
   simp only [vtxV, Val.v, ← HEB.out] at h
   exact h)
 rw [← hnp, ← hnh] at HVX
 rw [← hnp, ← hnh] at HS
 clear heb hnp hnh
 have HE : Hid (oneG (l.map Vs.x) ⟨7, id, b, key, ⟨vk, vn, vs⟩⟩ = match eb with | none => ⟨6, l.map Vs.x, []⟩ | some val => ⟨0, l.map Vs.x, [val]⟩) := Lib.hid (by unfold oneG; simp only; rw [HFA.out]; simp only [← HEB.out]; cases eb <;> simp)
 go_upto_region 11 with (go_at_call 51; refine (HHF.out _ ((Mod.refl (fun _ => False) w3).alloc _)).mono ?_; (rintro e w5 ⟨rfl, hm5⟩); have M5 := Lib.hid (((Mod.refl (fun _ => False) w3).alloc _).trans hm5); have hb5 := hm5.heap (heap_alloc_new' w3 _) (fun f => f); have HB5 := Lib.hid hb5; have e0 := cell_of_row hb5 0; have e1 := cell_of_row hb5 1; have e2 := cell_of_row hb5 2; have e3 := cell_of_row hb5 3; have z5 := lt_of_block hb5; simp at e0 e1 e2 e3; clear hm5 hb5; have d0 := M5.out.cell d0; have d1 := M5.out.cell d1; have d2 := M5.out.cell d2; have d3 := M5.out.cell d3; have d4 := M5.out.cell d4; have d5 := M5.out.cell d5; have d6 := M5.out.cell d6; have zo5 : w.heap.size < w5.heap.size := Nat.lt_of_lt_of_le zo M5.out.size; have zbl5 : bl < w5.heap.size := Nat.lt_of_lt_of_le zbl M5.out.size; have zg5 : g < w5.heap.size := Nat.lt_of_lt_of_le zg M5.out.size; have g0 := M5.out.cell g0)
 cases eb with
 | none =>
   have HE2 : Hid (oneG (l.map Vs.x) ⟨7, id, b, key, ⟨vk, vn, vs⟩⟩ = ⟨6, l.map Vs.x, []⟩) := Lib.hid (by rw [HE.out])
   go_wp2
   refine bodyPost_ret (v := .tuple #[.int .i64 6, .slice none 0 0]) (by simp [results, Tryz.results26, go_sem]) rfl ?_
   exact OneP.stay HG.out ((M3'.out.trans M5.out).alloc _) HE2.out (RdS.none _ _)
 | some val =>
   obtain ⟨pk, pn, ps⟩ := val
   have HE2 : Hid (oneG (l.map Vs.x) ⟨7, id, b, key, ⟨vk, vn, vs⟩⟩ = ⟨0, l.map Vs.x, [⟨pk, pn, ps⟩]⟩) := Lib.hid (by rw [HE.out])
   have M9 := Lib.hid ((M3'.out.trans M5.out).alloc (.cells #[.int .u8 (pk : Int), .int .i64 pn, .string ps] 77))
   obtain ⟨w9, hw9⟩ : ∃ w9, w9 = w5.alloc (.cells #[.int .u8 (pk : Int), .int .i64 pn, .string ps] 77) := ⟨_, rfl⟩
   have HW9 := Lib.hid hw9
   clear hw9
   go_wp2_with fail
   go_region
   all_goals
     go_wp2
     rw [← HW9.out]
     rw [← HW9.out] at M9
     first
       | refine bodyPost_ret (v := .tuple #[.int .i64 0, .slice (some ⟨w5.heap.size + 1, 0, none⟩) 1 1]) (by simp [results, Tryz.results26, go_sem]) rfl ?_
       | refine bodyPost_ret (v := .tuple #[.int .i64 0, .slice (some ⟨w9.heap.size, 0, none⟩) 1 1]) (by simp [results, Tryz.results26, go_sem]) rfl ?_
     have e9 : w5.heap.size + 1 = w9.heap.size := by rw [HW9.out]; simp
     rw [e9]
     exact OneP.stay HG.out (by repeat (first | exact M9.out | apply Mod.alloc | apply Mod.drewN | apply Mod.drew)) HE2.out (by first | exact (Seg.lit (size := 3) w9 #[.int .u8 (pk : Int), .int .i64 pn, .string ps] 1 rfl (by unfold maxLen; omega) (by simp [Value.oneCell'])).rdS | exact (Seg.lit (size := 3) w9 #[.int .u8 (pk : Int), .int .i64 pn, .string ps] 1 rfl (by unfold maxLen; omega) (by simp [Value.oneCell'])).rdS.keep ((Mod.refl (fun _ => False) _).drew) | exact (Seg.lit (size := 3) w9.drew #[.int .u8 (pk : Int), .int .i64 pn, .string ps] 1 rfl (by unfold maxLen; omega) (by simp [Value.oneCell'])).rdS)
open Go.RowKit
set_option maxRecDepth 100000 in
set_option maxHeartbeats 4000000 in
theorem one_8 (g : Nat) (v : Value) (l : List Vs) (a b key vk : Nat) (vn : Int) (vs : ByteArray) (w : World) (hg : GrAt w g v l) (ht : Tame l) (hf : Opr.Fits ⟨8, a, b, key, ⟨vk, vn, vs⟩⟩) (x : Vtx) (hfa : findV (l.map Vs.x) a = some x) :
   Calls Tryz.prog 26 #[.pointer (some ⟨g, 0, none⟩), .agg #[.int .u8 8, .int .u32 (a : Int), .int .u32 (b : Int), .int .u8 (key : Int), .int .u8 (vk : Int), .int .i64 vn, .string vs]] w (OneP g l ⟨8, a, b, key, ⟨vk, vn, vs⟩⟩ w) := by
 have HG := Lib.hid hg
 have HT := Lib.hid ht
 have HF := Lib.hid hf
 obtain ⟨W, hW⟩ : ∃ W, W = w.alloc (.cells #[.int .u8 8, .int .u32 (a : Int), .int .u32 (b : Int), .int .u8 (key : Int), .int .u8 (vk : Int), .int .i64 vn, .string vs] 79) := ⟨_, rfl⟩
 have HW := Lib.hid hW
 have hb : W.heap[w.heap.size]? = some (.cells #[.int .u8 8, .int .u32 (a : Int), .int .u32 (b : Int), .int .u8 (key : Int), .int .u8 (vk : Int), .int .i64 vn, .string vs] 79 (0, 0)) := by rw [hW]; exact heap_alloc_new' w _
 have HB := Lib.hid hb
 have c1 := cell_of_row hb 1
 have c2 := cell_of_row hb 2
 simp at c1 c2
 have c1 : ∀ x : MW W, x.w.cell? _ = some _ := fun x => x.cell c1
 have c2 : ∀ x : MW W, x.w.cell? _ = some _ := fun x => x.cell c2
 have HGW : Hid (GrAt W g v l) := Lib.hid (hg.keep (by rw [hW]; exact (Mod.refl _ _).alloc _))
 have HAT : Hid (∀ (x : MW W) (f : Nat), Calls Tryz.prog 23 #[.pointer (some ⟨g, 0, none⟩), .int .u32 (f : Int)] x.w fun e w' => e = .returned (.int .i64 (atI l f)) ∧ ∃ x' : MW W, w' = x'.w) := Lib.hid (fun x f => Calls.quietM (at_any g v l f x.w (HGW.out.keep x.mod)))
 clear hb hg ht hf
 go_enter Tryz.func26, Tryz.ntmps26
 go_wp2_with fail
 rw [← HW.out]
 clear hW
 refine wp_region_quietM (by kernel_rfl) (by kernel_rfl) ?_
 repeat (go_big_quiet_step ((go_at_call 23; exact HAT.out _ _)))
 refine wpQuiet_nil ?_
 intro w3 hm3
 have M3 := Lib.hid (MW.mod_of hm3)
 have M3' : Hid (Mod (fun _ => False) w w3) := Lib.hid (by have h : Mod (fun _ => False) w W := by { rw [HW.out]; exact (Mod.refl _ _).alloc _ }; exact h.trans M3.out)
 have hb3 := M3.out.heap HB.out (fun f => f)
 have HB3 := Lib.hid hb3
 have d0 := cell_of_row hb3 0
 have d1 := cell_of_row hb3 1
 have d2 := cell_of_row hb3 2
 have d3 := cell_of_row hb3 3
 have d4 := cell_of_row hb3 4
 have d5 := cell_of_row hb3 5
 have d6 := cell_of_row hb3 6
 have zo := lt_of_block hb3
 simp at d0 d1 d2 d3 d4 d5 d6
 clear hm3 c1 c2 HAT hb3
 generalize atI l b = ib
 obtain ⟨i, s, hi, hs, hsx, hid⟩ := find_some hfa
 rw [hi]
 have g0 := cell_of_row (HG.out.keep M3'.out).box 0
 simp at g0
 have zg := lt_of_block (HG.out.keep M3'.out).box
 obtain ⟨ag, cg, hve, hcg1, hcg2, -⟩ := HG.out.lst.row.shape
 subst hve
 obtain ⟨n, hn⟩ : ∃ n, n = l.length := ⟨_, rfl⟩
 have hin : i < n := by rw [hn]; exact (List.getElem?_eq_some_iff.1 hs).1
 have hin' : (i : Int) < (n : Int) := by omega
 have HN := Lib.hid hn
 rw [← hn] at g0 hcg1 HG
 clear hn
 obtain ⟨bl, offl, e0, hbl, r0, r1, r2, r3⟩ := HG.out.lst.ent hs rfl
 replace r0 := M3'.out.cell r0
 replace r1 := M3'.out.cell r1
 replace r2 := M3'.out.cell r2
 replace r3 := M3'.out.cell r3
 have zbl : bl < w3.heap.size := Nat.lt_of_lt_of_le hbl M3'.out.size
 subst e0
 have HS := Lib.hid hs
 have HVX := Lib.hid ((HG.out.lst.at hs).keep M3'.out)
 have HTH := Lib.hid (HT.out.each s (List.mem_of_getElem? hs))
 have HID := Lib.hid hid
 have HFA := Lib.hid hfa
 have hi0 := hi
 clear hs hbl hi hid hfa
 obtain ⟨⟨id, thr, xs, ys⟩, vp, vh⟩ := s
 simp only at hsx
 subst hsx
 obtain rfl : thr = true := HTH.out.1
 obtain rfl : id = a := HID.out
 obtain ⟨ap, cp, hvp, -⟩ := HVX.out.props.shape
 obtain ⟨ah, ch, hvh, -⟩ := HVX.out.halves.shape
 simp only at hvp hvh r0 r1 r2 r3 HVX HTH
 subst hvp hvh
 obtain ⟨np, hnp⟩ : ∃ np, np = xs.length := ⟨_, rfl⟩
 obtain ⟨nh, hnh⟩ : ∃ nh, nh = ys.length := ⟨_, rfl⟩
 rw [← hnp] at r2
 rw [← hnh] at r3
 have HNP := Lib.hid hnp
 have HNH := Lib.hid hnh
 obtain ⟨eb, heb⟩ : ∃ eb, eb = entX ys b := ⟨_, rfl⟩
 have HEB := Lib.hid heb
 have HHF : Hid (∀ w', Mod (fun _ => False) w3 w' → Calls Tryz.prog 51 #[.agg #[.int .u32 (id : Int), .bool true, .slice ap np cp, .slice ah nh ch], .int .u32 (b : Int)] w' fun e w'' => e = .returned (.tuple #[.agg #[.int .u8 ((eb.getD noVal).k : Int), .int .i64 (eb.getD noVal).n, .string (eb.getD noVal).s], .bool eb.isSome]) ∧ Mod (fun _ => False) w' w'') := Lib.hid (fun w' m => by
   have h := dhalf_any ⟨id, true, xs, ys⟩ (.slice ap np cp) (.slice ah nh ch) b w' (by rw [HNP.out, HNH.out]; exact HVX.out.keep m)
   simp only [vtxV, Val.v, ← HEB.out] at h
   exact h)
 rw [← hnp, ← hnh] at HVX
 rw [← hnp, ← hnh] at HS
 clear heb hnp hnh
 have HE : Hid (oneG (l.map Vs.x) ⟨8, id, b, key, ⟨vk, vn, vs⟩⟩ = ⟨0, l.map Vs.x, [⟨1, (nh : Int), ⟨#[]⟩⟩]⟩) := Lib.hid (by unfold oneG; simp only; rw [HFA.out, HNH.out]; simp)
 go_upto_region 11 with (go_at_call 51; refine (HHF.out _ ((Mod.refl (fun _ => False) w3).alloc _)).mono ?_; (rintro e w5 ⟨rfl, hm5⟩); have M5 := Lib.hid (((Mod.refl (fun _ => False) w3).alloc _).trans hm5); have hb5 := hm5.heap (heap_alloc_new' w3 _) (fun f => f); have HB5 := Lib.hid hb5; have e0 := cell_of_row hb5 0; have e1 := cell_of_row hb5 1; have e2 := cell_of_row hb5 2; have e3 := cell_of_row hb5 3; have z5 := lt_of_block hb5; simp at e0 e1 e2 e3; clear hm5 hb5; have d0 := M5.out.cell d0; have d1 := M5.out.cell d1; have d2 := M5.out.cell d2; have d3 := M5.out.cell d3; have d4 := M5.out.cell d4; have d5 := M5.out.cell d5; have d6 := M5.out.cell d6; have zo5 : w.heap.size < w5.heap.size := Nat.lt_of_lt_of_le zo M5.out.size; have zbl5 : bl < w5.heap.size := Nat.lt_of_lt_of_le zbl M5.out.size; have zg5 : g < w5.heap.size := Nat.lt_of_lt_of_le zg M5.out.size; have g0 := M5.out.cell g0)
 have M9 := Lib.hid ((M3'.out.trans M5.out).alloc (.cells #[.int .u8 ((eb.getD noVal).k : Int), .int .i64 (eb.getD noVal).n, .string (eb.getD noVal).s] 77))
 obtain ⟨w9, hw9⟩ : ∃ w9, w9 = w5.alloc (.cells #[.int .u8 ((eb.getD noVal).k : Int), .int .i64 (eb.getD noVal).n, .string (eb.getD noVal).s] 77) := ⟨_, rfl⟩
 have HW9 := Lib.hid hw9
 clear hw9
 go_wp2_with fail
 go_region
 all_goals
   go_wp2
   rw [← HW9.out]
   rw [← HW9.out] at M9
   first
     | refine bodyPost_ret (v := .tuple #[.int .i64 0, .slice (some ⟨w5.heap.size + 1, 0, none⟩) 1 1]) (by simp [results, Tryz.results26, go_sem]) rfl ?_
     | refine bodyPost_ret (v := .tuple #[.int .i64 0, .slice (some ⟨w9.heap.size, 0, none⟩) 1 1]) (by simp [results, Tryz.results26, go_sem]) rfl ?_
   have e9 : w5.heap.size + 1 = w9.heap.size := by rw [HW9.out]; simp
   rw [e9]
   exact OneP.stay HG.out (by repeat (first | exact M9.out | apply Mod.alloc | apply Mod.drewN | apply Mod.drew)) HE.out (by first | exact (Seg.lit (size := 3) w9 #[.int .u8 1, .int .i64 (nh : Int), .string ⟨#[]⟩] 1 rfl (by unfold maxLen; omega) (by simp [Value.oneCell'])).rdS | exact (Seg.lit (size := 3) w9 #[.int .u8 1, .int .i64 (nh : Int), .string ⟨#[]⟩] 1 rfl (by unfold maxLen; omega) (by simp [Value.oneCell'])).rdS.keep ((Mod.refl (fun _ => False) _).drew) | exact (Seg.lit (size := 3) w9.drew #[.int .u8 1, .int .i64 (nh : Int), .string ⟨#[]⟩] 1 rfl (by unfold maxLen; omega) (by simp [Value.oneCell'])).rdS)
open Go.RowKit
theorem toList_inj {a b : ByteArray} (h : a.toList = b.toList) : a = b := by
 rw [ByteArray.toList_eq, ByteArray.toList_eq] at h
 obtain ⟨⟨a⟩⟩ := a
 obtain ⟨⟨b⟩⟩ := b
 simp at h
 rw [h]
set_option maxRecDepth 100000 in
set_option maxHeartbeats 4000000 in
theorem one_9 (g : Nat) (v : Value) (l : List Vs) (a b key vk : Nat) (vn : Int) (vs : ByteArray) (w : World) (hg : GrAt w g v l) (ht : Tame l) (hf : Opr.Fits ⟨9, a, b, key, ⟨vk, vn, vs⟩⟩) (x : Vtx) (hfa : findV (l.map Vs.x) a = some x) :
   Calls Tryz.prog 26 #[.pointer (some ⟨g, 0, none⟩), .agg #[.int .u8 9, .int .u32 (a : Int), .int .u32 (b : Int), .int .u8 (key : Int), .int .u8 (vk : Int), .int .i64 vn, .string vs]] w (OneP g l ⟨9, a, b, key, ⟨vk, vn, vs⟩⟩ w) := by
 have HG := Lib.hid hg
 have HT := Lib.hid ht
 have HF := Lib.hid hf
 obtain ⟨W, hW⟩ : ∃ W, W = w.alloc (.cells #[.int .u8 9, .int .u32 (a : Int), .int .u32 (b : Int), .int .u8 (key : Int), .int .u8 (vk : Int), .int .i64 vn, .string vs] 79) := ⟨_, rfl⟩
 have HW := Lib.hid hW
 have hb : W.heap[w.heap.size]? = some (.cells #[.int .u8 9, .int .u32 (a : Int), .int .u32 (b : Int), .int .u8 (key : Int), .int .u8 (vk : Int), .int .i64 vn, .string vs] 79 (0, 0)) := by rw [hW]; exact heap_alloc_new' w _
 have HB := Lib.hid hb
 have c1 := cell_of_row hb 1
 have c2 := cell_of_row hb 2
 simp at c1 c2
 have c1 : ∀ x : MW W, x.w.cell? _ = some _ := fun x => x.cell c1
 have c2 : ∀ x : MW W, x.w.cell? _ = some _ := fun x => x.cell c2
 have HGW : Hid (GrAt W g v l) := Lib.hid (hg.keep (by rw [hW]; exact (Mod.refl _ _).alloc _))
 have HAT : Hid (∀ (x : MW W) (f : Nat), Calls Tryz.prog 23 #[.pointer (some ⟨g, 0, none⟩), .int .u32 (f : Int)] x.w fun e w' => e = .returned (.int .i64 (atI l f)) ∧ ∃ x' : MW W, w' = x'.w) := Lib.hid (fun x f => Calls.quietM (at_any g v l f x.w (HGW.out.keep x.mod)))
 clear hb hg ht hf
 go_enter Tryz.func26, Tryz.ntmps26
 go_wp2_with fail
 rw [← HW.out]
 clear hW
 refine wp_region_quietM (by kernel_rfl) (by kernel_rfl) ?_
 repeat (go_big_quiet_step ((go_at_call 23; exact HAT.out _ _)))
 refine wpQuiet_nil ?_
 intro w3 hm3
 have M3 := Lib.hid (MW.mod_of hm3)
 have M3' : Hid (Mod (fun _ => False) w w3) := Lib.hid (by have h : Mod (fun _ => False) w W := by { rw [HW.out]; exact (Mod.refl _ _).alloc _ }; exact h.trans M3.out)
 have hb3 := M3.out.heap HB.out (fun f => f)
 have HB3 := Lib.hid hb3
 have d0 := cell_of_row hb3 0
 have d1 := cell_of_row hb3 1
 have d2 := cell_of_row hb3 2
 have d3 := cell_of_row hb3 3
 have d4 := cell_of_row hb3 4
 have d5 := cell_of_row hb3 5
 have d6 := cell_of_row hb3 6
 have zo := lt_of_block hb3
 simp at d0 d1 d2 d3 d4 d5 d6
 clear hm3 c1 c2 HAT hb3
 generalize atI l b = ib
 obtain ⟨i, s, hi, hs, hsx, hid⟩ := find_some hfa
 rw [hi]
 have g0 := cell_of_row (HG.out.keep M3'.out).box 0
 simp at g0
 have zg := lt_of_block (HG.out.keep M3'.out).box
 obtain ⟨ag, cg, hve, hcg1, hcg2, -⟩ := HG.out.lst.row.shape
 subst hve
 obtain ⟨n, hn⟩ : ∃ n, n = l.length := ⟨_, rfl⟩
 have hin : i < n := by rw [hn]; exact (List.getElem?_eq_some_iff.1 hs).1
 have hin' : (i : Int) < (n : Int) := by omega
 have HN := Lib.hid hn
 rw [← hn] at g0 hcg1 HG
 clear hn
 obtain ⟨bl, offl, e0, hbl, r0, r1, r2, r3⟩ := HG.out.lst.ent hs rfl
 replace r0 := M3'.out.cell r0
 replace r1 := M3'.out.cell r1
 replace r2 := M3'.out.cell r2
 replace r3 := M3'.out.cell r3
 have zbl : bl < w3.heap.size := Nat.lt_of_lt_of_le hbl M3'.out.size
 subst e0
 have HS := Lib.hid hs
 have HVX := Lib.hid ((HG.out.lst.at hs).keep M3'.out)
 have HTH := Lib.hid (HT.out.each s (List.mem_of_getElem? hs))
 have HID := Lib.hid hid
 have HFA := Lib.hid hfa
 have hi0 := hi
 clear hs hbl hi hid hfa
 obtain ⟨⟨id, thr, xs, ys⟩, vp, vh⟩ := s
 simp only at hsx
 subst hsx
 obtain rfl : thr = true := HTH.out.1
 obtain rfl : id = a := HID.out
 obtain ⟨ap, cp, hvp, -⟩ := HVX.out.props.shape
 obtain ⟨ah, ch, hvh, -⟩ := HVX.out.halves.shape
 simp only at hvp hvh r0 r1 r2 r3 HVX HTH
 subst hvp hvh
 obtain ⟨np, hnp⟩ : ∃ np, np = xs.length := ⟨_, rfl⟩
 obtain ⟨nh, hnh⟩ : ∃ nh, nh = ys.length := ⟨_, rfl⟩
 rw [← hnp] at r2
 rw [← hnh] at r3
 have HNP := Lib.hid hnp
 have HNH := Lib.hid hnh
 obtain ⟨eb, heb⟩ : ∃ eb, eb = entX ys b := ⟨_, rfl⟩
 have HEB := Lib.hid heb
 have HHF : Hid (∀ w', Mod (fun _ => False) w3 w' → Calls Tryz.prog 51 #[.agg #[.int .u32 (id : Int), .bool true, .slice ap np cp, .slice ah nh ch], .int .u32 (b : Int)] w' fun e w'' => e = .returned (.tuple #[.agg #[.int .u8 ((eb.getD noVal).k : Int), .int .i64 (eb.getD noVal).n, .string (eb.getD noVal).s], .bool eb.isSome]) ∧ Mod (fun _ => False) w' w'') := Lib.hid (fun w' m => by
   have h := dhalf_any ⟨id, true, xs, ys⟩ (.slice ap np cp) (.slice ah nh ch) b w' (by rw [HNP.out, HNH.out]; exact HVX.out.keep m)
   simp only [vtxV, Val.v, ← HEB.out] at h
   exact h)
 rw [← hnp, ← hnh] at HVX
 rw [← hnp, ← hnh] at HS
 clear heb hnp hnh
 have HE : Hid (oneG (l.map Vs.x) ⟨9, id, b, key, ⟨vk, vn, vs⟩⟩ = if propV ⟨id, true, xs, ys⟩ key = ⟨vk, vn, vs⟩ then ⟨0, l.map Vs.x, []⟩ else ⟨9, l.map Vs.x, []⟩) := Lib.hid (by unfold oneG; simp only; rw [HFA.out]; simp)
 go_upto_region 11 with (go_at_call 51; refine (HHF.out _ ((Mod.refl (fun _ => False) w3).alloc _)).mono ?_; (rintro e w5 ⟨rfl, hm5⟩); have M5 := Lib.hid (((Mod.refl (fun _ => False) w3).alloc _).trans hm5); have hb5 := hm5.heap (heap_alloc_new' w3 _) (fun f => f); have HB5 := Lib.hid hb5; have e0 := cell_of_row hb5 0; have e1 := cell_of_row hb5 1; have e2 := cell_of_row hb5 2; have e3 := cell_of_row hb5 3; have z5 := lt_of_block hb5; simp at e0 e1 e2 e3; clear hm5 hb5; have d0 := M5.out.cell d0; have d1 := M5.out.cell d1; have d2 := M5.out.cell d2; have d3 := M5.out.cell d3; have d4 := M5.out.cell d4; have d5 := M5.out.cell d5; have d6 := M5.out.cell d6; have zo5 : w.heap.size < w5.heap.size := Nat.lt_of_lt_of_le zo M5.out.size; have zbl5 : bl < w5.heap.size := Nat.lt_of_lt_of_le zbl M5.out.size; have zg5 : g < w5.heap.size := Nat.lt_of_lt_of_le zg M5.out.size; have g0 := M5.out.cell g0)
 have M9 := Lib.hid ((M3'.out.trans M5.out).alloc (.cells #[.int .u8 ((eb.getD noVal).k : Int), .int .i64 (eb.getD noVal).n, .string (eb.getD noVal).s] 77))
 obtain ⟨w9, hw9⟩ : ∃ w9, w9 = w5.alloc (.cells #[.int .u8 ((eb.getD noVal).k : Int), .int .i64 (eb.getD noVal).n, .string (eb.getD noVal).s] 77) := ⟨_, rfl⟩
 have HW9 := Lib.hid hw9
 have HB9 : Hid (w9.heap[w.heap.size]? = some (.cells #[.int .u8 9, .int .u32 (id : Int), .int .u32 (b : Int), .int .u8 (key : Int), .int .u8 (vk : Int), .int .i64 vn, .string vs] 79 (0, 0))) := Lib.hid (by rw [hw9]; exact ((Mod.refl (fun _ => False) w5).alloc _).heap (M5.out.heap HB3.out (fun f => f)) (fun f => f))
 rw [← hw9] at M9
 have E9 : Hid (w9.heap[w5.heap.size - 1]? = w9.heap[w5.heap.size - 1]?) := Lib.hid rfl
 obtain ⟨pv, hpv⟩ : ∃ pv, pv = propV ⟨id, true, xs, ys⟩ key := ⟨_, rfl⟩
 rw [← hpv] at HE
 have HSP : Hid (∀ (x : MW w9), Calls Tryz.prog 53 #[.agg #[.int .u32 (id : Int), .bool true, .slice ap np cp, .slice ah nh ch], .int .u8 (key : Int)] x.w fun e w' => e = .returned (.agg #[.int .u8 (pv.k : Int), .int .i64 pv.n, .string pv.s]) ∧ ∃ x' : MW w9, w' = x'.w) := Lib.hid (fun x => by
   have h := dprop_any ⟨id, true, xs, ys⟩ (.slice ap np cp) (.slice ah nh ch) key x.w (by rw [HNP.out, HNH.out]; rw [HNP.out, HNH.out] at HVX; exact ((HVX.out.keep M5.out).keep ((Mod.refl _ _).alloc (.cells #[.int .u8 ((eb.getD noVal).k : Int), .int .i64 (eb.getD noVal).n, .string (eb.getD noVal).s] 77))).keep (by rw [← hw9]; exact x.mod))
   simp only [vtxV, Val.v] at h
   have e : (entX xs key).getD noVal = pv := by rw [hpv]; rfl
   rw [e] at h
   exact Calls.quietM h)
 have BX9 : Hid (w9.heap[w3.heap.size]? = some (.cells #[.int .u32 (id : Int), .bool true, .slice ap np cp, .slice ah nh ch] 104 (0, 0))) := Lib.hid (by rw [hw9]; exact ((Mod.refl (fun _ => False) w5).alloc _).heap HB5.out (fun f => f))
 have c3 := cell_of_row HB9.out 3
 have c4 := cell_of_row HB9.out 4
 have c5 := cell_of_row HB9.out 5
 have c6 := cell_of_row HB9.out 6
 have b0 := cell_of_row BX9.out 0
 have b1 := cell_of_row BX9.out 1
 have b2 := cell_of_row BX9.out 2
 have b3 := cell_of_row BX9.out 3
 simp at c3 c4 c5 c6 b0 b1 b2 b3
 have c3 : ∀ x : MW w9, x.w.cell? _ = some _ := fun x => x.cell c3
 have c4 : ∀ x : MW w9, x.w.cell? _ = some _ := fun x => x.cell c4
 have c5 : ∀ x : MW w9, x.w.cell? _ = some _ := fun x => x.cell c5
 have c6 : ∀ x : MW w9, x.w.cell? _ = some _ := fun x => x.cell c6
 have b0 : ∀ x : MW w9, x.w.cell? _ = some _ := fun x => x.cell b0
 have b1 : ∀ x : MW w9, x.w.cell? _ = some _ := fun x => x.cell b1
 have b2 : ∀ x : MW w9, x.w.cell? _ = some _ := fun x => x.cell b2
 have b3 : ∀ x : MW w9, x.w.cell? _ = some _ := fun x => x.cell b3
 clear hw9 hpv d1 d2 d3 d4 d5 d6 e0 e1 e2 e3 HHF
 go_wp2_with fail
 rw [← HW9.out]
 obtain ⟨pk, pn, ps⟩ := pv
 simp only at HSP
 by_cases h1 : pk = vk
 · subst h1
   by_cases h2 : pn = vn
   · subst h2
     by_cases h3 : ps = vs
     · subst h3
       have HE2 := Lib.hid (HE.out.trans (if_pos rfl))
       refine wp_region_quietM (by kernel_rfl) (by kernel_rfl) ?_
       repeat (go_big_quiet_step ((go_at_call 53; exact HSP.out _)))
       refine wpQuiet_nil ?_
       intro w6 hm6
       have M6 := Lib.hid (M9.out.trans (MW.mod_of hm6))
       clear hm6 c3 c4 c5 c6 b0 b1 b2 b3
       go_wp2
       refine bodyPost_ret (v := .tuple #[.int .i64 0, .slice none 0 0]) (by simp [results, Tryz.results26, go_sem]) rfl ?_
       exact OneP.stay HG.out M6.out HE2.out (RdS.none _ _)
     · have HE2 := Lib.hid (HE.out.trans (if_neg (by rw [Val.mk.injEq]; exact fun h => h3 h.2.2)))
       have f2 : ¬ ps.toList = vs.toList := fun e => h3 (toList_inj e)
       refine wp_region_quietM (by kernel_rfl) (by kernel_rfl) ?_
       repeat (go_big_quiet_step ((go_at_call 53; exact HSP.out _)))
       refine wpQuiet_nil ?_
       intro w6 hm6
       have M6 := Lib.hid (M9.out.trans (MW.mod_of hm6))
       clear hm6 c3 c4 c5 c6 b0 b1 b2 b3
       go_wp2
       refine bodyPost_ret (v := .tuple #[.int .i64 9, .slice none 0 0]) (by simp [results, Tryz.results26, go_sem]) rfl ?_
       exact OneP.stay HG.out M6.out HE2.out (RdS.none _ _)
   · have HE2 := Lib.hid (HE.out.trans (if_neg (by rw [Val.mk.injEq]; exact fun h => h2 h.2.1)))
     have f1 : (pn == vn) = false := by simpa using h2
     refine wp_region_quietM (by kernel_rfl) (by kernel_rfl) ?_
     repeat (go_big_quiet_step ((go_at_call 53; exact HSP.out _)))
     refine wpQuiet_nil ?_
     intro w6 hm6
     have M6 := Lib.hid (M9.out.trans (MW.mod_of hm6))
     clear hm6 c3 c4 c5 c6 b0 b1 b2 b3
     go_wp2
     refine bodyPost_ret (v := .tuple #[.int .i64 9, .slice none 0 0]) (by simp [results, Tryz.results26, go_sem]) rfl ?_
     exact OneP.stay HG.out M6.out HE2.out (RdS.none _ _)
 · have HE2 := Lib.hid (HE.out.trans (if_neg (by rw [Val.mk.injEq]; exact fun h => h1 h.1)))
   have f1 : ((pk : Int) == (vk : Int)) = false := by simp; omega
   have f2 : ¬ (pk : Int) = (vk : Int) := by omega
   refine wp_region_quietM (by kernel_rfl) (by kernel_rfl) ?_
   repeat (go_big_quiet_step ((go_at_call 53; exact HSP.out _)))
   refine wpQuiet_nil ?_
   intro w6 hm6
   have M6 := Lib.hid (M9.out.trans (MW.mod_of hm6))
   clear hm6 c3 c4 c5 c6 b0 b1 b2 b3
   go_wp2
   refine bodyPost_ret (v := .tuple #[.int .i64 9, .slice none 0 0]) (by simp [results, Tryz.results26, go_sem]) rfl ?_
   exact OneP.stay HG.out M6.out HE2.out (RdS.none _ _)
end Go.Proofs.YtpigipgoopeeoaaGreatDoor
