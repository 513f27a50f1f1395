import Derived.Test.YtpigipgoopeeoaaGreatDoorMOn11
set_option linter.unusedVariables false
set_option linter.unusedSimpArgs false
namespace Go.Proofs.YtpigipgoopeeoaaGreatDoor
open Go.RowKit
theorem RdS.off4 {w w' : World} {kk : IntKind} {g : Nat} {c0 c1 c2 u : Value} {t : TypeId} {v : Value} {l : List Ent} (hg : w.heap[g]? = some (.cells #[c0, c1, c2, u] t (0, 0))) (hu : ∀ s, u ≠ .string s) (h : RdS w 4 v l.length (cellsOf kk l)) (m : Mod (fun k => k = g) w w') : RdS w' 4 v l.length (cellsOf kk l) := by
 refine ⟨h.len, h.shape, fun a c e j u' hu' => ?_⟩
 obtain ⟨b, off, ea, hb, hc⟩ := h.cell a c e j u' hu'
 refine ⟨b, off, ea, Nat.lt_of_lt_of_le hb m.size, m.cellS hc (fun hbg => ?_)⟩
 have hbg : b = g := hbg
 have hj : 0 < l.length := by
   rcases Nat.eq_zero_or_pos l.length with h0 | h0
   · have := List.length_eq_zero_iff.1 h0
     subst this
     simp [cellsOf] at hu'
   · exact h0
 obtain ⟨x, hx⟩ : ∃ x, l[0]? = some x := ⟨_, List.getElem?_eq_getElem hj⟩
 obtain ⟨b1, off1, ea1, _, _, _, _, h3⟩ := h.ent hx (a := a) (c := c) e
 rw [ea] at ea1
 injection ea1 with e1
 injection e1 with e1 e2
 subst e1 e2 hbg
 rw [cell_of_row hg] at h3
 rcases Nat.eq_zero_or_pos off with h0 | h0
 · subst h0
   simp at h3
   exact hu _ h3
 · rw [Array.getElem?_eq_none (by simp; omega)] at h3
   cases h3
theorem VRd.off4 {w w' : World} {g : Nat} {c0 c1 c2 u : Value} {t : TypeId} {vp vh : Value} {x : Vtx} (h : VRd w vp vh x) (hg : w.heap[g]? = some (.cells #[c0, c1, c2, u] t (0, 0))) (hu : ∀ s, u ≠ .string s) (m : Mod (fun k => k = g) w w') : VRd w' vp vh x :=
 ⟨h.fits, h.props.off4 hg hu m, h.halves.off4 hg hu m⟩
set_option maxRecDepth 100000 in
set_option maxHeartbeats 4000000 in
theorem one_5 (g : Nat) (v : Value) (l : List Vs) (a b key vk : Nat) (vn : Int) (vs : ByteArray) (w : World) (hg : GrAt w g v l) (ht : Tame l) (hf : Opr.Fits ⟨5, a, b, key, ⟨vk, vn, vs⟩⟩) (x : Vtx) (hfa : findV (l.map Vs.x) a = some x) (u : Vtx) (hfb : findV (l.map Vs.x) b = some u) :
   Calls Tryz.prog 26 #[.pointer (some ⟨g, 0, none⟩), .agg #[.int .u8 5, .int .u32 (a : Int), .int .u32 (b : Int), .int .u8 (key : Int), .int .u8 (vk : Int), .int .i64 vn, .string vs]] w (OneP g l ⟨5, a, b, key, ⟨vk, vn, vs⟩⟩ w) := by
 have HG := Lib.hid hg
 have HT := Lib.hid ht
 have HF := Lib.hid hf
 obtain ⟨W, hW⟩ : ∃ W, W = w.alloc (.cells #[.int .u8 5, .int .u32 (a : Int), .int .u32 (b : Int), .int .u8 (key : Int), .int .u8 (vk : Int), .int .i64 vn, .string vs] 79) := ⟨_, rfl⟩
 have HW := Lib.hid hW
 have hb : W.heap[w.heap.size]? = some (.cells #[.int .u8 5, .int .u32 (a : Int), .int .u32 (b : Int), .int .u8 (key : Int), .int .u8 (vk : Int), .int .i64 vn, .string vs] 79 (0, 0)) := by rw [hW]; exact heap_alloc_new' w _
 have HB := Lib.hid hb
 have c1 := cell_of_row hb 1
 have c2 := cell_of_row hb 2
 simp at c1 c2
 have c1 : ∀ x : MW W, x.w.cell? _ = some _ := fun x => x.cell c1
 have c2 : ∀ x : MW W, x.w.cell? _ = some _ := fun x => x.cell c2
 have HGW : Hid (GrAt W g v l) := Lib.hid (hg.keep (by rw [hW]; exact (Mod.refl _ _).alloc _))
 have HAT : Hid (∀ (x : MW W) (f : Nat), Calls Tryz.prog 23 #[.pointer (some ⟨g, 0, none⟩), .int .u32 (f : Int)] x.w fun e w' => e = .returned (.int .i64 (atI l f)) ∧ ∃ x' : MW W, w' = x'.w) := Lib.hid (fun x f => Calls.quietM (at_any g v l f x.w (HGW.out.keep x.mod)))
 clear hb hg ht hf
 go_enter Tryz.func26, Tryz.ntmps26
 go_wp2_with fail
 rw [← HW.out]
 clear hW
 refine wp_region_quietM (by kernel_rfl) (by kernel_rfl) ?_
 repeat (go_big_quiet_step ((go_at_call 23; exact HAT.out _ _)))
 refine wpQuiet_nil ?_
 intro w3 hm3
 have M3 := Lib.hid (MW.mod_of hm3)
 have M3' : Hid (Mod (fun _ => False) w w3) := Lib.hid (by have h : Mod (fun _ => False) w W := by { rw [HW.out]; exact (Mod.refl _ _).alloc _ }; exact h.trans M3.out)
 have hb3 := M3.out.heap HB.out (fun f => f)
 have HB3 := Lib.hid hb3
 have d0 := cell_of_row hb3 0
 have d1 := cell_of_row hb3 1
 have d2 := cell_of_row hb3 2
 have d3 := cell_of_row hb3 3
 have d4 := cell_of_row hb3 4
 have d5 := cell_of_row hb3 5
 have d6 := cell_of_row hb3 6
 have zo := lt_of_block hb3
 simp at d0 d1 d2 d3 d4 d5 d6
 clear hm3 c1 c2 HAT hb3
 obtain ⟨j, su, hj, hsu, hsux, hidu⟩ := find_some hfb
 rw [hj]
 have HSU := Lib.hid hsu
 have HIDU := Lib.hid hidu
 have HFB := Lib.hid hfb
 have HVU0 := Lib.hid ((HG.out.lst.at hsu).keep M3'.out)
 have HTU := Lib.hid (HT.out.each su (List.mem_of_getElem? hsu))
 have HJL := Lib.hid (List.getElem?_eq_some_iff.1 hsu).1
 clear hsu hidu hfb hj
 obtain ⟨i, s, hi, hs, hsx, hid⟩ := find_some hfa
 rw [hi]
 have g0 := cell_of_row (HG.out.keep M3'.out).box 0
 simp at g0
 have zg := lt_of_block (HG.out.keep M3'.out).box
 obtain ⟨ag, cg, hve, hcg1, hcg2, -⟩ := HG.out.lst.row.shape
 subst hve
 obtain ⟨n, hn⟩ : ∃ n, n = l.length := ⟨_, rfl⟩
 have hin : i < n := by rw [hn]; exact (List.getElem?_eq_some_iff.1 hs).1
 have hin' : (i : Int) < (n : Int) := by omega
 have HN := Lib.hid hn
 rw [← hn] at g0 hcg1 HG
 clear hn
 obtain ⟨bl, offl, e0, hbl, r0, r1, r2, r3⟩ := HG.out.lst.ent hs rfl
 replace r0 := M3'.out.cell r0
 replace r1 := M3'.out.cell r1
 replace r2 := M3'.out.cell r2
 replace r3 := M3'.out.cell r3
 have zbl : bl < w3.heap.size := Nat.lt_of_lt_of_le hbl M3'.out.size
 subst e0
 have HS := Lib.hid hs
 have HVX := Lib.hid ((HG.out.lst.at hs).keep M3'.out)
 have HTH := Lib.hid (HT.out.each s (List.mem_of_getElem? hs))
 have HID := Lib.hid hid
 have HFA := Lib.hid hfa
 have hi0 := hi
 clear hs hbl hi hid hfa
 obtain ⟨⟨id, thr, xs, ys⟩, vp, vh⟩ := s
 simp only at hsx
 subst hsx
 obtain rfl : thr = true := HTH.out.1
 obtain rfl : id = a := HID.out
 obtain ⟨ap, cp, hvp, -⟩ := HVX.out.props.shape
 obtain ⟨ah, ch, hvh, -⟩ := HVX.out.halves.shape
 simp only at hvp hvh r0 r1 r2 r3 HVX HTH
 subst hvp hvh
 obtain ⟨np, hnp⟩ : ∃ np, np = xs.length := ⟨_, rfl⟩
 obtain ⟨nh, hnh⟩ : ∃ nh, nh = ys.length := ⟨_, rfl⟩
 rw [← hnp] at r2
 rw [← hnh] at r3
 have HNP := Lib.hid hnp
 have HNH := Lib.hid hnh
 obtain ⟨eb, heb⟩ : ∃ eb, eb = entX ys b := ⟨_, rfl⟩
 have HEB := Lib.hid heb
 have HHF : Hid (∀ w', Mod (fun _ => False) w3 w' → Calls Tryz.prog 51 #[.agg #[.int .u32 (id : Int), .bool true, .slice ap np cp, .slice ah nh ch], .int .u32 (b : Int)] w' fun e w'' => e = .returned (.tuple #[.agg #[.int .u8 ((eb.getD noVal).k : Int), .int .i64 (eb.getD noVal).n, .string (eb.getD noVal).s], .bool eb.isSome]) ∧ Mod (fun _ => False) w' w'') := Lib.hid (fun w' m => by
   have h := dhalf_any ⟨id, true, xs, ys⟩ (.slice ap np cp) (.slice ah nh ch) b w' (by rw [HNP.out, HNH.out]; exact HVX.out.keep m)
   simp only [vtxV, Val.v, ← HEB.out] at h
   exact h)
 rw [← hnp, ← hnh] at HVX
 rw [← hnp, ← hnh] at HS
 clear heb hnp hnh
 have hjn : j < n := by rw [HN.out]; exact HJL.out
 have hjn' : (j : Int) < (n : Int) := by omega
 obtain ⟨bl2, offl2, e02, hbl2, s0, s1, s2, s3⟩ := HG.out.lst.ent HSU.out rfl
 obtain ⟨eb1, eb2⟩ : bl2 = bl ∧ offl2 = offl := by simp at e02; exact ⟨e02.1.symm, e02.2.symm⟩
 rw [eb1, eb2] at s0 s1 s2 s3
 clear e02 hbl2 eb1 eb2
 replace s0 := M3'.out.cell s0
 replace s1 := M3'.out.cell s1
 replace s2 := M3'.out.cell s2
 replace s3 := M3'.out.cell s3
 obtain ⟨⟨idu, thu, xu, yu⟩, vpu, vhu⟩ := su
 simp only at hsux
 subst hsux
 obtain rfl : thu = true := HTU.out.1
 have hbu : b = idu := HIDU.out.symm
 subst hbu
 obtain ⟨apu, cpu, hvpu, -⟩ := HVU0.out.props.shape
 obtain ⟨ahu, chu, hvhu, -⟩ := HVU0.out.halves.shape
 simp only at hvpu hvhu s0 s1 s2 s3 HVU0 HTU
 subst hvpu hvhu
 obtain ⟨npu, hnpu⟩ : ∃ np, np = xu.length := ⟨_, rfl⟩
 obtain ⟨nhu, hnhu⟩ : ∃ nh, nh = yu.length := ⟨_, rfl⟩
 rw [← hnpu] at s2
 rw [← hnhu] at s3
 have HNPU := Lib.hid hnpu
 have HNHU := Lib.hid hnhu
 rw [← hnpu, ← hnhu] at HVU0
 rw [← hnpu, ← hnhu] at HSU
 clear hnpu hnhu
 have HE : Hid (oneG (l.map Vs.x) ⟨5, id, b, key, ⟨vk, vn, vs⟩⟩ = if eb.isSome then ⟨7, l.map Vs.x, []⟩ else if 16 ≤ nh ∨ 16 ≤ nhu then ⟨10, l.map Vs.x, []⟩ else ⟨0, layV (setH ⟨b, true, xu, yu⟩ id ⟨vk, vn, vs⟩ true) (layV (setH ⟨id, true, xs, ys⟩ b ⟨vk, vn, vs⟩ true) (l.map Vs.x)), []⟩) := Lib.hid (by unfold oneG; simp only; rw [HFA.out, HNH.out, HNHU.out]; simp [HEB.out, HFB.out])
 obtain ⟨bv, hbv⟩ : ∃ bv, bv = eb.getD noVal := ⟨_, rfl⟩
 rw [← hbv] at HHF
 clear hbv
 obtain ⟨bk, bn, bs⟩ := bv
 simp only at HHF
 go_upto_region 11 with (go_at_call 51; refine (HHF.out _ ((Mod.refl (fun _ => False) w3).alloc _)).mono ?_; (rintro e w5 ⟨rfl, hm5⟩); have M5 := Lib.hid (((Mod.refl (fun _ => False) w3).alloc _).trans hm5); have hb5 := hm5.heap (heap_alloc_new' w3 _) (fun f => f); have HB5 := Lib.hid hb5; have e0 := cell_of_row hb5 0; have e1 := cell_of_row hb5 1; have e2 := cell_of_row hb5 2; have e3 := cell_of_row hb5 3; have z5 := lt_of_block hb5; simp at e0 e1 e2 e3; clear hm5 hb5; have d0 := M5.out.cell d0; have d1 := M5.out.cell d1; have d2 := M5.out.cell d2; have d3 := M5.out.cell d3; have d4 := M5.out.cell d4; have d5 := M5.out.cell d5; have d6 := M5.out.cell d6; have zo5 : w.heap.size < w5.heap.size := Nat.lt_of_lt_of_le zo M5.out.size; have zbl5 : bl < w5.heap.size := Nat.lt_of_lt_of_le zbl M5.out.size; have zg5 : g < w5.heap.size := Nat.lt_of_lt_of_le zg M5.out.size; have g0 := M5.out.cell g0)
 replace s0 := M5.out.cell s0
 replace s1 := M5.out.cell s1
 replace s2 := M5.out.cell s2
 replace s3 := M5.out.cell s3
 cases eb with
 | some val =>
   have HE2 : Hid (oneG (l.map Vs.x) ⟨5, id, b, key, ⟨vk, vn, vs⟩⟩ = ⟨7, l.map Vs.x, []⟩) := Lib.hid (by rw [HE.out]; simp)
   go_wp2
   refine bodyPost_ret (v := .tuple #[.int .i64 7, .slice none 0 0]) (by simp [results, Tryz.results26, go_sem]) rfl ?_
   exact OneP.stay HG.out ((M3'.out.trans M5.out).alloc _) HE2.out (RdS.none _ _)
 | none =>
   have HEN : Hid (oneG (l.map Vs.x) ⟨5, id, b, key, ⟨vk, vn, vs⟩⟩ = if 16 ≤ nh ∨ 16 ≤ nhu then ⟨10, l.map Vs.x, []⟩ else ⟨0, layV (setH ⟨b, true, xu, yu⟩ id ⟨vk, vn, vs⟩ true) (layV (setH ⟨id, true, xs, ys⟩ b ⟨vk, vn, vs⟩ true) (l.map Vs.x)), []⟩) := Lib.hid (by rw [HE.out]; simp)
   by_cases h16 : 16 ≤ nh
   · have h16' : (16 : Int) ≤ (nh : Int) := by omega
     have HE2 := Lib.hid (HEN.out.trans (if_pos (.inl h16)))
     clear h16
     go_wp2
     refine bodyPost_ret (v := .tuple #[.int .i64 10, .slice none 0 0]) (by simp [results, Tryz.results26, go_sem]) rfl ?_
     exact OneP.stay HG.out ((M3'.out.trans M5.out).alloc _) HE2.out (RdS.none _ _)
   · have h16' : ¬ (16 : Int) ≤ (nh : Int) := by omega
     by_cases hu16 : 16 ≤ nhu
     · have hu16' : (16 : Int) ≤ (nhu : Int) := by omega
       have HE2 := Lib.hid (HEN.out.trans (if_pos (.inr hu16)))
       clear h16 hu16
       go_wp2
       refine bodyPost_ret (v := .tuple #[.int .i64 10, .slice none 0 0]) (by simp [results, Tryz.results26, go_sem]) rfl ?_
       exact OneP.stay HG.out ((M3'.out.trans M5.out).alloc _) HE2.out (RdS.none _ _)
     · have hu16' : ¬ (16 : Int) ≤ (nhu : Int) := by omega
       have HE2 := Lib.hid (HEN.out.trans (if_neg (fun h => h.elim h16 hu16)))
       clear h16 hu16
       go_upto_region 25 with fail
       have M9 := Lib.hid ((M3'.out.trans M5.out).alloc (.cells #[.int .u8 (bk : Int), .int .i64 bn, .string bs] 77))
       have HZG : Hid (g < w.heap.size) := Lib.hid (lt_of_block HG.out.box)
       obtain ⟨w9, hw9⟩ : ∃ w9, w9 = w5.alloc (.cells #[.int .u8 (bk : Int), .int .i64 bn, .string bs] 77) := ⟨_, rfl⟩
       have M59 : Hid (Mod (fun _ => False) w5 w9) := Lib.hid (by rw [hw9]; exact (Mod.refl _ _).alloc _)
       rw [← hw9] at M9 ⊢
       have z59 : w9.heap.size = w5.heap.size + 1 := by rw [hw9]; simp
       clear hw9
       replace d0 := M59.out.cell d0
       replace d1 := M59.out.cell d1
       replace d2 := M59.out.cell d2
       replace d4 := M59.out.cell d4
       replace d5 := M59.out.cell d5
       replace d6 := M59.out.cell d6
       replace e0 := M59.out.cell e0
       replace e1 := M59.out.cell e1
       replace e2 := M59.out.cell e2
       replace e3 := M59.out.cell e3
       replace s0 := M59.out.cell s0
       replace s1 := M59.out.cell s1
       replace s2 := M59.out.cell s2
       replace s3 := M59.out.cell s3
       replace g0 := M59.out.cell g0
       have zo9 : w.heap.size < w9.heap.size := by omega
       have zg9 : g < w9.heap.size := by omega
       have zbl9 : bl < w9.heap.size := by omega
       have z39 : w3.heap.size < w9.heap.size := by omega
       clear z59 d3 zo5 zbl5 zg5 z5 HHF r0 r1 r2 r3
       have HVU9 := Lib.hid (HVU0.out.keep (M5.out.trans M59.out))
       have HVX9 := Lib.hid (HVX.out.keep (M5.out.trans M59.out))
       have HSU : Hid (∀ w', Mod (fun _ => False) w9 w' → Calls Tryz.prog 54 #[.agg #[.int .u32 (b : Int), .bool true, .slice apu npu cpu, .slice ahu nhu chu], .int .u32 (id : Int), .agg #[.int .u8 (vk : Int), .int .i64 vn, .string vs], .bool true] w' fun e w'' => Mod (fun _ => False) w' w'' ∧ ∃ vo, e = .returned (vtxV (setH ⟨b, true, xu, yu⟩ id ⟨vk, vn, vs⟩ true) (.slice apu npu cpu) vo) ∧ VRd w'' (.slice apu npu cpu) vo (setH ⟨b, true, xu, yu⟩ id ⟨vk, vn, vs⟩ true)) := Lib.hid (fun w' m => sethalf_any ⟨b, true, xu, yu⟩ (.slice apu npu cpu) (.slice ahu nhu chu) id ⟨vk, vn, vs⟩ true w' (HVU9.out.keep m) HF.out.a HF.out.val (by have := HTU.out.2.2; simp only at this ⊢; omega))
       have HSV : Hid (∀ w', Mod (fun _ => False) w9 w' → Calls Tryz.prog 54 #[.agg #[.int .u32 (id : Int), .bool true, .slice ap np cp, .slice ah nh ch], .int .u32 (b : Int), .agg #[.int .u8 (vk : Int), .int .i64 vn, .string vs], .bool true] w' fun e w'' => Mod (fun _ => False) w' w'' ∧ ∃ vo, e = .returned (vtxV (setH ⟨id, true, xs, ys⟩ b ⟨vk, vn, vs⟩ true) (.slice ap np cp) vo) ∧ VRd w'' (.slice ap np cp) vo (setH ⟨id, true, xs, ys⟩ b ⟨vk, vn, vs⟩ true)) := Lib.hid (fun w' m => sethalf_any ⟨id, true, xs, ys⟩ (.slice ap np cp) (.slice ah nh ch) b ⟨vk, vn, vs⟩ true w' (HVX9.out.keep m) HF.out.b HF.out.val (by have := HTH.out.2.2; simp only at this ⊢; omega))
       have HLV : Hid (∀ w' vo, Mod (fun _ => False) w9 w' → VRd w' (.slice ap np cp) vo (setH ⟨id, true, xs, ys⟩ b ⟨vk, vn, vs⟩ true) → Calls Tryz.prog 50 #[.pointer (some ⟨g, 0, none⟩), .agg #[.int .u32 (id : Int), .bool true, .slice ap np cp, vo]] w' (fun e w'' => e = .returned (.tuple #[]) ∧ Mod (fun k => k = g) w' w'' ∧ ∃ v', GrAt w'' g v' (layG keyS ⟨setH ⟨id, true, xs, ys⟩ b ⟨vk, vn, vs⟩ true, .slice ap np cp, vo⟩ false l))) := Lib.hid (fun w' vo m hv => lay_any g _ l ⟨setH ⟨id, true, xs, ys⟩ b ⟨vk, vn, vs⟩ true, .slice ap np cp, vo⟩ w' (HG.out.keep (M9.out.trans m)) hv (by have := HT.out.len; omega))
       have HLU : Hid (∀ w' v' l' vo, GrAt w' g v' l' → l'.length ≤ 1000 → VRd w' (.slice apu npu cpu) vo (setH ⟨b, true, xu, yu⟩ id ⟨vk, vn, vs⟩ true) → Calls Tryz.prog 50 #[.pointer (some ⟨g, 0, none⟩), .agg #[.int .u32 (b : Int), .bool true, .slice apu npu cpu, vo]] w' (fun e w'' => e = .returned (.tuple #[]) ∧ Mod (fun k => k = g) w' w'' ∧ ∃ v', GrAt w'' g v' (layG keyS ⟨setH ⟨b, true, xu, yu⟩ id ⟨vk, vn, vs⟩ true, .slice apu npu cpu, vo⟩ false l'))) := Lib.hid (fun w' v' l' vo hg' hl hv => lay_any g v' l' ⟨setH ⟨b, true, xu, yu⟩ id ⟨vk, vn, vs⟩ true, .slice apu npu cpu, vo⟩ w' hg' hv hl)
       go_cut [11] (fun p wx => ∃ (bf : Nat) (vo : Value), p = .pointer (some ⟨bf, 0, none⟩) ∧ w9.heap.size ≤ bf ∧ Mod (fun _ => False) w9 wx ∧ wx.heap[bf]? = some (.cells #[.int .u32 (b : Int), .bool true, .slice apu npu cpu, vo] 104 (0, 0)) ∧ VRd wx (.slice apu npu cpu) vo (setH ⟨b, true, xu, yu⟩ id ⟨vk, vn, vs⟩ true) ∧ vo.oneCell' = true)
       case first =>
         go_wp2_with fail
         have HKEEP : Hid (∀ w', Mod (fun _ => False) w9 w' → (fun w' => w'.cell? ⟨g, 0, none⟩ = some (.slice (some ⟨bl, offl, none⟩) n cg) ∧ w'.cell? ⟨bl, offl + j * 4, none⟩ = some (.int .u32 (b : Int)) ∧ w'.cell? ⟨bl, offl + j * 4 + 1, none⟩ = some (.bool true) ∧ w'.cell? ⟨bl, offl + j * 4 + 2, none⟩ = some (.slice apu npu cpu) ∧ w'.cell? ⟨bl, offl + j * 4 + 3, none⟩ = some (.slice ahu nhu chu) ∧ w'.cell? ⟨w.heap.size, 1, none⟩ = some (.int .u32 (id : Int)) ∧ w'.cell? ⟨w.heap.size, 4, none⟩ = some (.int .u8 (vk : Int)) ∧ w'.cell? ⟨w.heap.size, 5, none⟩ = some (.int .i64 vn) ∧ w'.cell? ⟨w.heap.size, 6, none⟩ = some (.string vs)) w') := Lib.hid (fun w' m => ⟨m.cell g0, m.cell s0, m.cell s1, m.cell s2, m.cell s3, m.cell d1, m.cell d4, m.cell d5, m.cell d6⟩)
         go_region_held3 (fun w' => w'.cell? ⟨g, 0, none⟩ = some (.slice (some ⟨bl, offl, none⟩) n cg) ∧ w'.cell? ⟨bl, offl + j * 4, none⟩ = some (.int .u32 (b : Int)) ∧ w'.cell? ⟨bl, offl + j * 4 + 1, none⟩ = some (.bool true) ∧ w'.cell? ⟨bl, offl + j * 4 + 2, none⟩ = some (.slice apu npu cpu) ∧ w'.cell? ⟨bl, offl + j * 4 + 3, none⟩ = some (.slice ahu nhu chu) ∧ w'.cell? ⟨w.heap.size, 1, none⟩ = some (.int .u32 (id : Int)) ∧ w'.cell? ⟨w.heap.size, 4, none⟩ = some (.int .u8 (vk : Int)) ∧ w'.cell? ⟨w.heap.size, 5, none⟩ = some (.int .i64 vn) ∧ w'.cell? ⟨w.heap.size, 6, none⟩ = some (.string vs))
           (first
             | go_keep
             | exact HKEEP.out _ N6.out
             | exact HKEEP.out _ (N6.out.alloc _)
             | exact HKEEP.out _ ((((N6.out.setCell (fun h => absurd h (Nat.lt_irrefl _)) _).setCell (fun h => absurd h (Nat.lt_irrefl _)) _).setCell (fun h => absurd h (Nat.lt_irrefl _)) _).setCell (fun h => absurd h (Nat.lt_irrefl _)) _))
           ((go_at_call 54; refine (HSU.out _ (by repeat (first | exact Mod.refl _ _ | apply Mod.drew | apply Mod.alloc))).mono ?_; (rintro e w6 ⟨hm6, vo6, rfl, hv6⟩); have N6 : Hid (Mod (fun _ => False) w9 w6) := Lib.hid ((by repeat (first | exact Mod.refl _ _ | apply Mod.drew | apply Mod.alloc) : Mod (fun _ => False) w9 _).trans hm6); have HV6 := Lib.hid hv6; (obtain ⟨a6, c6, n6, rfl⟩ : ∃ a c n, vo6 = .slice a n c := (by obtain ⟨a, c, e, _⟩ := hv6.halves.shape; exact ⟨_, _, _, e⟩)); (try (have hb6 := hm6.heap (heap_alloc_new' _ _) (fun f => f); have y0 := cell_of_row hb6 0; have y1 := cell_of_row hb6 1; have y2 := cell_of_row hb6 2; have y3 := cell_of_row hb6 3; have yf0 := free_of_row hb6 0; have yf1 := free_of_row hb6 1; have yf2 := free_of_row hb6 2; have yf3 := free_of_row hb6 3; have zy := lt_of_block hb6; simp at y0 y1 y2 y3 yf0 yf1 yf2 yf3; have HB6 := Lib.hid hb6; clear hb6)); clear hm6 hv6; simp only [vtxV, setH]))
         all_goals
           go_wp2_with fail
           go_meet
           first
             | exact ⟨w6.heap.size, _, rfl, N6.out.size, N6.out.alloc _, heap_alloc_new' _ _, HV6.out.keep ((Mod.refl _ _).alloc _), rfl⟩
             | exact ⟨w9.heap.size, _, rfl, Nat.le_refl _, (((N6.out.setCell (fun h => absurd h (Nat.lt_irrefl _)) _).setCell (fun h => absurd h (Nat.lt_irrefl _)) _).setCell (fun h => absurd h (Nat.lt_irrefl _)) _).setCell (fun h => absurd h (Nat.lt_irrefl _)) _, row_setCell (row_setCell (row_setCell (row_setCell HB6.out 0 _) 1 _) 2 _) 3 _, HV6.out.off4 HB6.out (by simp) (((((Mod.refl (fun k => k = w9.heap.size) w6).setCell (fun _ => rfl) _).setCell (fun _ => rfl) _).setCell (fun _ => rfl) _).setCell (fun _ => rfl) _), rfl⟩
       case rest =>
         obtain ⟨bf, vo, rfl, hbf, hmx, hbx, hvx, -⟩ := hcut
         have MX := Lib.hid hmx
         have HBX := Lib.hid hbx
         have HVF := Lib.hid hvx
         have HBF := Lib.hid hbf
         replace d1 := MX.out.cell d1
         replace d2 := MX.out.cell d2
         replace d4 := MX.out.cell d4
         replace d5 := MX.out.cell d5
         replace d6 := MX.out.cell d6
         replace e0 := MX.out.cell e0
         replace e1 := MX.out.cell e1
         replace e2 := MX.out.cell e2
         replace e3 := MX.out.cell e3
         clear hmx hbx hvx hbf d0 s0 s1 s2 s3 g0
         have HLE : Hid (l.length ≤ 900) := Lib.hid HT.out.len
         go_wp2_with (first
           | (go_at_call 54; refine (HSV.out _ MX.out).mono ?_; (rintro e w6 ⟨hm6, vo6, rfl, hv6⟩); have M6 := Lib.hid (MX.out.trans hm6); have N6 := Lib.hid hm6; have HV6 := Lib.hid hv6; clear hm6 hv6; simp only [vtxV, setH]; have HL6 := Lib.hid (HLV.out w6 vo6 M6.out HV6.out))
           | (go_at_call 50; refine HL6.out.mono ?_; (rintro e w7 ⟨rfl, hm7, v7, hg7⟩); have N7 := Lib.hid hm7; have M7 := Lib.hid ((M9.out.trans M6.out).mono (fun _ _ f => f.elim) |>.trans hm7); have HG7 := Lib.hid hg7; have hb7 := hm7.heap (N6.out.heap HBX.out (fun f => f)) (fun e => by have := HBF.out; have := HZG.out; omega); have q0 := cell_of_row hb7 0; have q1 := cell_of_row hb7 1; have q2 := cell_of_row hb7 2; have q3 := cell_of_row hb7 3; simp at q0 q1 q2 q3; have zq := lt_of_block hb7; have HVF7 := Lib.hid (VRd.box1 (M6.out.heap (HG.out.keep M9.out).box (fun f => f)) (HVF.out.keep N6.out) N7.out); clear hm7 hg7 hb7 HL6; have HL6 := Lib.hid (HLU.out w7 v7 _ vo HG7.out (by have := layG_length (key := keyS) (x := (⟨setH ⟨id, true, xs, ys⟩ b ⟨vk, vn, vs⟩ true, .slice ap np cp, vo6⟩ : Vs)) (t := l) (d := false); have := HLE.out; omega) HVF7.out))
           | (go_at_call 50; refine HL6.out.mono ?_; (rintro e w8 ⟨rfl, hm8, v8, hg8⟩); have M8 := Lib.hid (M7.out.trans hm8); have HG8 := Lib.hid hg8; clear hm8 hg8))
         refine bodyPost_ret (v := .tuple #[.int .i64 0, .slice none 0 0]) (by simp [results, Tryz.results26, go_sem]) rfl ?_
         exact OneP.laid HG8.out M8.out HE2.out (by rw [lay_map, lay_map]; rfl)
open Go.RowKit
theorem noVal_fitsA : noVal.Fits := by
 unfold noVal
 refine ⟨?_, ?_, ?_⟩ <;> decide
set_option maxRecDepth 100000 in
set_option maxHeartbeats 4000000 in
theorem one_6a (g : Nat) (v : Value) (l : List Vs) (a b key vk : Nat) (vn : Int) (vs : ByteArray) (w : World) (hg : GrAt w g v l) (ht : Tame l) (hf : Opr.Fits ⟨6, a, b, key, ⟨vk, vn, vs⟩⟩) (x : Vtx) (hfa : findV (l.map Vs.x) a = some x) (hfb : findV (l.map Vs.x) b = none) :
   Calls Tryz.prog 26 #[.pointer (some ⟨g, 0, none⟩), .agg #[.int .u8 6, .int .u32 (a : Int), .int .u32 (b : Int), .int .u8 (key : Int), .int .u8 (vk : Int), .int .i64 vn, .string vs]] w (OneP g l ⟨6, a, b, key, ⟨vk, vn, vs⟩⟩ w) := by
 have HG := Lib.hid hg
 have HT := Lib.hid ht
 have HF := Lib.hid hf
 obtain ⟨W, hW⟩ : ∃ W, W = w.alloc (.cells #[.int .u8 6, .int .u32 (a : Int), .int .u32 (b : Int), .int .u8 (key : Int), .int .u8 (vk : Int), .int .i64 vn, .string vs] 79) := ⟨_, rfl⟩
 have HW := Lib.hid hW
 have hb : W.heap[w.heap.size]? = some (.cells #[.int .u8 6, .int .u32 (a : Int), .int .u32 (b : Int), .int .u8 (key : Int), .int .u8 (vk : Int), .int .i64 vn, .string vs] 79 (0, 0)) := by rw [hW]; exact heap_alloc_new' w _
 have HB := Lib.hid hb
 have c1 := cell_of_row hb 1
 have c2 := cell_of_row hb 2
 simp at c1 c2
 have c1 : ∀ x : MW W, x.w.cell? _ = some _ := fun x => x.cell c1
 have c2 : ∀ x : MW W, x.w.cell? _ = some _ := fun x => x.cell c2
 have HGW : Hid (GrAt W g v l) := Lib.hid (hg.keep (by rw [hW]; exact (Mod.refl _ _).alloc _))
 have HAT : Hid (∀ (x : MW W) (f : Nat), Calls Tryz.prog 23 #[.pointer (some ⟨g, 0, none⟩), .int .u32 (f : Int)] x.w fun e w' => e = .returned (.int .i64 (atI l f)) ∧ ∃ x' : MW W, w' = x'.w) := Lib.hid (fun x f => Calls.quietM (at_any g v l f x.w (HGW.out.keep x.mod)))
 clear hb hg ht hf
 go_enter Tryz.func26, Tryz.ntmps26
 go_wp2_with fail
 rw [← HW.out]
 clear hW
 refine wp_region_quietM (by kernel_rfl) (by kernel_rfl) ?_
 repeat (go_big_quiet_step ((go_at_call 23; exact HAT.out _ _)))
 refine wpQuiet_nil ?_
 intro w3 hm3
 have M3 := Lib.hid (MW.mod_of hm3)
 have M3' : Hid (Mod (fun _ => False) w w3) := Lib.hid (by have h : Mod (fun _ => False) w W := by { rw [HW.out]; exact (Mod.refl _ _).alloc _ }; exact h.trans M3.out)
 have hb3 := M3.out.heap HB.out (fun f => f)
 have HB3 := Lib.hid hb3
 have d0 := cell_of_row hb3 0
 have d1 := cell_of_row hb3 1
 have d2 := cell_of_row hb3 2
 have d3 := cell_of_row hb3 3
 have d4 := cell_of_row hb3 4
 have d5 := cell_of_row hb3 5
 have d6 := cell_of_row hb3 6
 have zo := lt_of_block hb3
 simp at d0 d1 d2 d3 d4 d5 d6
 clear hm3 c1 c2 HAT hb3
 rw [find_none hfb]
 have HFB := Lib.hid hfb
 clear hfb
 obtain ⟨i, s, hi, hs, hsx, hid⟩ := find_some hfa
 rw [hi]
 have g0 := cell_of_row (HG.out.keep M3'.out).box 0
 simp at g0
 have zg := lt_of_block (HG.out.keep M3'.out).box
 obtain ⟨ag, cg, hve, hcg1, hcg2, -⟩ := HG.out.lst.row.shape
 subst hve
 obtain ⟨n, hn⟩ : ∃ n, n = l.length := ⟨_, rfl⟩
 have hin : i < n := by rw [hn]; exact (List.getElem?_eq_some_iff.1 hs).1
 have hin' : (i : Int) < (n : Int) := by omega
 have HN := Lib.hid hn
 rw [← hn] at g0 hcg1 HG
 clear hn
 obtain ⟨bl, offl, e0, hbl, r0, r1, r2, r3⟩ := HG.out.lst.ent hs rfl
 replace r0 := M3'.out.cell r0
 replace r1 := M3'.out.cell r1
 replace r2 := M3'.out.cell r2
 replace r3 := M3'.out.cell r3
 have zbl : bl < w3.heap.size := Nat.lt_of_lt_of_le hbl M3'.out.size
 subst e0
 have HS := Lib.hid hs
 have HVX := Lib.hid ((HG.out.lst.at hs).keep M3'.out)
 have HTH := Lib.hid (HT.out.each s (List.mem_of_getElem? hs))
 have HID := Lib.hid hid
 have HFA := Lib.hid hfa
 have hi0 := hi
 clear hs hbl hi hid hfa
 obtain ⟨⟨id, thr, xs, ys⟩, vp, vh⟩ := s
 simp only at hsx
 subst hsx
 obtain rfl : thr = true := HTH.out.1
 obtain rfl : id = a := HID.out
 obtain ⟨ap, cp, hvp, -⟩ := HVX.out.props.shape
 obtain ⟨ah, ch, hvh, -⟩ := HVX.out.halves.shape
 simp only at hvp hvh r0 r1 r2 r3 HVX HTH
 subst hvp hvh
 obtain ⟨np, hnp⟩ : ∃ np, np = xs.length := ⟨_, rfl⟩
 obtain ⟨nh, hnh⟩ : ∃ nh, nh = ys.length := ⟨_, rfl⟩
 rw [← hnp] at r2
 rw [← hnh] at r3
 have HNP := Lib.hid hnp
 have HNH := Lib.hid hnh
 obtain ⟨eb, heb⟩ : ∃ eb, eb = entX ys b := ⟨_, rfl⟩
 have HEB := Lib.hid heb
 have HHF : Hid (∀ w', Mod (fun _ => False) w3 w' → Calls Tryz.prog 51 #[.agg #[.int .u32 (id : Int), .bool true, .slice ap np cp, .slice ah nh ch], .int .u32 (b : Int)] w' fun e w'' => e = .returned (.tuple #[.agg #[.int .u8 ((eb.getD noVal).k : Int), .int .i64 (eb.getD noVal).n, .string (eb.getD noVal).s], .bool eb.isSome]) ∧ Mod (fun _ => False) w' w'') := Lib.hid (fun w' m => by
   have h := dhalf_any ⟨id, true, xs, ys⟩ (.slice ap np cp) (.slice ah nh ch) b w' (by rw [HNP.out, HNH.out]; exact HVX.out.keep m)
   simp only [vtxV, Val.v, ← HEB.out] at h
   exact h)
 rw [← hnp, ← hnh] at HVX
 rw [← hnp, ← hnh] at HS
 clear heb hnp hnh
 have HE : Hid (oneG (l.map Vs.x) ⟨6, id, b, key, ⟨vk, vn, vs⟩⟩ = match eb with | none => ⟨6, l.map Vs.x, []⟩ | some _ => ⟨0, layV (setH ⟨id, true, xs, ys⟩ b noVal false) (l.map Vs.x), []⟩) := Lib.hid (by unfold oneG; simp only; rw [HFA.out]; simp only [← HEB.out, HFB.out]; cases eb <;> simp)
 obtain ⟨bv, hbv⟩ : ∃ bv, bv = eb.getD noVal := ⟨_, rfl⟩
 rw [← hbv] at HHF
 clear hbv
 obtain ⟨bk, bn, bs⟩ := bv
 simp only at HHF
 go_upto_region 11 with (go_at_call 51; refine (HHF.out _ ((Mod.refl (fun _ => False) w3).alloc _)).mono ?_; (rintro e w5 ⟨rfl, hm5⟩); have M5 := Lib.hid (((Mod.refl (fun _ => False) w3).alloc _).trans hm5); have hb5 := hm5.heap (heap_alloc_new' w3 _) (fun f => f); have HB5 := Lib.hid hb5; have e0 := cell_of_row hb5 0; have e1 := cell_of_row hb5 1; have e2 := cell_of_row hb5 2; have e3 := cell_of_row hb5 3; have z5 := lt_of_block hb5; simp at e0 e1 e2 e3; clear hm5 hb5; have d0 := M5.out.cell d0; have d1 := M5.out.cell d1; have d2 := M5.out.cell d2; have d3 := M5.out.cell d3; have d4 := M5.out.cell d4; have d5 := M5.out.cell d5; have d6 := M5.out.cell d6; have zo5 : w.heap.size < w5.heap.size := Nat.lt_of_lt_of_le zo M5.out.size; have zbl5 : bl < w5.heap.size := Nat.lt_of_lt_of_le zbl M5.out.size; have zg5 : g < w5.heap.size := Nat.lt_of_lt_of_le zg M5.out.size; have g0 := M5.out.cell g0)
 cases eb with
 | none =>
   have HE2 : Hid (oneG (l.map Vs.x) ⟨6, id, b, key, ⟨vk, vn, vs⟩⟩ = ⟨6, l.map Vs.x, []⟩) := Lib.hid (by rw [HE.out])
   go_wp2
   refine bodyPost_ret (v := .tuple #[.int .i64 6, .slice none 0 0]) (by simp [results, Tryz.results26, go_sem]) rfl ?_
   exact OneP.stay HG.out ((M3'.out.trans M5.out).alloc _) HE2.out (RdS.none _ _)
 | some val =>
   have HE2 : Hid (oneG (l.map Vs.x) ⟨6, id, b, key, ⟨vk, vn, vs⟩⟩ = ⟨0, layV (setH ⟨id, true, xs, ys⟩ b noVal false) (l.map Vs.x), []⟩) := Lib.hid (by rw [HE.out])
   have M9 := Lib.hid ((M3'.out.trans M5.out).alloc (.cells #[.int .u8 (bk : Int), .int .i64 bn, .string bs] 77))
   have HSH : Hid (∀ w', Mod (fun _ => False) (w5.alloc (.cells #[.int .u8 (bk : Int), .int .i64 bn, .string bs] 77)) w' → Calls Tryz.prog 54 #[.agg #[.int .u32 (id : Int), .bool true, .slice ap np cp, .slice ah nh ch], .int .u32 (b : Int), .agg #[.int .u8 0, .int .i64 0, .string ⟨#[]⟩], .bool false] w' fun e w'' => Mod (fun _ => False) w' w'' ∧ ∃ vo, e = .returned (vtxV (setH ⟨id, true, xs, ys⟩ b noVal false) (.slice ap np cp) vo) ∧ VRd w'' (.slice ap np cp) vo (setH ⟨id, true, xs, ys⟩ b noVal false)) := Lib.hid (fun w' m => sethalf_any ⟨id, true, xs, ys⟩ (.slice ap np cp) (.slice ah nh ch) b noVal false w' (HVX.out.keep ((M5.out.alloc _).trans m)) HF.out.b noVal_fitsA (by have := HTH.out.2.2; simp only at this ⊢; omega))
   have HLAY : Hid (∀ w' vo, Mod (fun _ => False) (w5.alloc (.cells #[.int .u8 (bk : Int), .int .i64 bn, .string bs] 77)) w' → VRd w' (.slice ap np cp) vo (setH ⟨id, true, xs, ys⟩ b noVal false) → Calls Tryz.prog 50 #[.pointer (some ⟨g, 0, none⟩), .agg #[.int .u32 (id : Int), .bool true, .slice ap np cp, vo]] w' (fun e w'' => e = .returned (.tuple #[]) ∧ Mod (fun k => k = g) w' w'' ∧ ∃ v', GrAt w'' g v' (layG keyS ⟨setH ⟨id, true, xs, ys⟩ b noVal false, .slice ap np cp, vo⟩ false (l)))) := Lib.hid (fun w' vo m hv => lay_any g (.slice (some ⟨bl, offl, none⟩) n cg) (l) ⟨setH ⟨id, true, xs, ys⟩ b noVal false, .slice ap np cp, vo⟩ w' (HG.out.keep (M9.out.trans m)) hv (by have := HT.out.len; omega))
   go_wp2_with (first
     | (go_at_call 54; refine (HSH.out _ (Mod.refl _ _)).mono ?_; (rintro e w6 ⟨hm6, vo, rfl, hv6⟩); have M6 := Lib.hid hm6; have HV6 := Lib.hid hv6; clear hm6 hv6; simp only [vtxV, setH]; have HL6 := Lib.hid (HLAY.out w6 vo M6.out HV6.out))
     | (go_at_call 50; refine HL6.out.mono ?_; (rintro e w7 ⟨rfl, hm7, v7, hg7⟩); have N7 := Lib.hid hm7; have M7 := Lib.hid ((M9.out.trans M6.out).mono (fun _ _ f => f.elim) |>.trans hm7); have HG7 := Lib.hid hg7; clear hm7 hg7))
   refine bodyPost_ret (v := .tuple #[.int .i64 0, .slice none 0 0]) (by simp [results, Tryz.results26, go_sem]) rfl ?_
   exact OneP.laid HG7.out M7.out HE2.out (by rw [lay_map]; rfl)
end Go.Proofs.YtpigipgoopeeoaaGreatDoor
