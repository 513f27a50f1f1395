import Derived.Test.YtpigipgoopeeoaaGreatDoorMOn11
set_option linter.unusedVariables false
set_option linter.unusedSimpArgs false
namespace Go.Proofs.YtpigipgoopeeoaaGreatDoor
open Go.RowKit
set_option maxRecDepth 100000 in
set_option maxHeartbeats 4000000 in
theorem one_none (g : Nat) (v : Value) (l : List Vs) (kind a b key vk : Nat) (vn : Int) (vs : ByteArray) (w : World) (hg : GrAt w g v l) (ht : Tame l) (hf : Opr.Fits ⟨kind, a, b, key, ⟨vk, vn, vs⟩⟩) (hk : kind ≠ 1) (hfa : findV (l.map Vs.x) a = none) :
   Calls Tryz.prog 26 #[.pointer (some ⟨g, 0, none⟩), .agg #[.int .u8 (kind : Int), .int .u32 (a : Int), .int .u32 (b : Int), .int .u8 (key : Int), .int .u8 (vk : Int), .int .i64 vn, .string vs]] w (OneP g l ⟨kind, a, b, key, ⟨vk, vn, vs⟩⟩ w) := by
 have HG := Lib.hid hg
 have HT := Lib.hid ht
 have HF := Lib.hid hf
 obtain ⟨W, hW⟩ : ∃ W, W = w.alloc (.cells #[.int .u8 (kind : Int), .int .u32 (a : Int), .int .u32 (b : Int), .int .u8 (key : Int), .int .u8 (vk : Int), .int .i64 vn, .string vs] 79) := ⟨_, rfl⟩
 have HW := Lib.hid hW
 have hb : W.heap[w.heap.size]? = some (.cells #[.int .u8 (kind : Int), .int .u32 (a : Int), .int .u32 (b : Int), .int .u8 (key : Int), .int .u8 (vk : Int), .int .i64 vn, .string vs] 79 (0, 0)) := by rw [hW]; exact heap_alloc_new' w _
 have HB := Lib.hid hb
 have c1 := cell_of_row hb 1
 have c2 := cell_of_row hb 2
 simp at c1 c2
 have c1 : ∀ x : MW W, x.w.cell? _ = some _ := fun x => x.cell c1
 have c2 : ∀ x : MW W, x.w.cell? _ = some _ := fun x => x.cell c2
 have HGW : Hid (GrAt W g v l) := Lib.hid (hg.keep (by rw [hW]; exact (Mod.refl _ _).alloc _))
 have HAT : Hid (∀ (x : MW W) (f : Nat), Calls Tryz.prog 23 #[.pointer (some ⟨g, 0, none⟩), .int .u32 (f : Int)] x.w fun e w' => e = .returned (.int .i64 (atI l f)) ∧ ∃ x' : MW W, w' = x'.w) := Lib.hid (fun x f => Calls.quietM (at_any g v l f x.w (HGW.out.keep x.mod)))
 clear hb hg ht hf
 go_enter Tryz.func26, Tryz.ntmps26
 go_wp2_with fail
 rw [← HW.out]
 clear hW
 refine wp_region_quietM (by kernel_rfl) (by kernel_rfl) ?_
 repeat (go_big_quiet_step ((go_at_call 23; exact HAT.out _ _)))
 refine wpQuiet_nil ?_
 intro w3 hm3
 have M3 := Lib.hid (MW.mod_of hm3)
 have M3' : Hid (Mod (fun _ => False) w w3) := Lib.hid (by have h : Mod (fun _ => False) w W := by { rw [HW.out]; exact (Mod.refl _ _).alloc _ }; exact h.trans M3.out)
 have hb3 := M3.out.heap HB.out (fun f => f)
 have HB3 := Lib.hid hb3
 have d0 := cell_of_row hb3 0
 have d1 := cell_of_row hb3 1
 have d2 := cell_of_row hb3 2
 have d3 := cell_of_row hb3 3
 have d4 := cell_of_row hb3 4
 have d5 := cell_of_row hb3 5
 have d6 := cell_of_row hb3 6
 have zo := lt_of_block hb3
 simp at d0 d1 d2 d3 d4 d5 d6
 clear hm3 c1 c2 HAT hb3
 generalize atI l b = ib
 rw [find_none hfa]
 have HE : Hid (oneG (l.map Vs.x) ⟨kind, a, b, key, ⟨vk, vn, vs⟩⟩ = ⟨6, l.map Vs.x, []⟩) := Lib.hid (by unfold oneG; simp only; rw [if_neg hk, hfa])
 have hk1 : ((kind : Int) == 1) = false := by simp; omega
 clear hfa hk
 go_wp2
 refine bodyPost_ret (v := .tuple #[.int .i64 6, .slice none 0 0]) (by simp [results, Tryz.results26, go_sem]) rfl ?_
 exact OneP.stay HG.out M3'.out HE.out (RdS.none _ _)
set_option maxRecDepth 100000 in
set_option maxHeartbeats 4000000 in
theorem one_5none (g : Nat) (v : Value) (l : List Vs) (a b key vk : Nat) (vn : Int) (vs : ByteArray) (w : World) (hg : GrAt w g v l) (ht : Tame l) (hf : Opr.Fits ⟨5, a, b, key, ⟨vk, vn, vs⟩⟩) (x : Vtx) (hfa : findV (l.map Vs.x) a = some x) (hfb : findV (l.map Vs.x) b = none) :
   Calls Tryz.prog 26 #[.pointer (some ⟨g, 0, none⟩), .agg #[.int .u8 5, .int .u32 (a : Int), .int .u32 (b : Int), .int .u8 (key : Int), .int .u8 (vk : Int), .int .i64 vn, .string vs]] w (OneP g l ⟨5, a, b, key, ⟨vk, vn, vs⟩⟩ w) := by
 have HG := Lib.hid hg
 have HT := Lib.hid ht
 have HF := Lib.hid hf
 obtain ⟨W, hW⟩ : ∃ W, W = w.alloc (.cells #[.int .u8 5, .int .u32 (a : Int), .int .u32 (b : Int), .int .u8 (key : Int), .int .u8 (vk : Int), .int .i64 vn, .string vs] 79) := ⟨_, rfl⟩
 have HW := Lib.hid hW
 have hb : W.heap[w.heap.size]? = some (.cells #[.int .u8 5, .int .u32 (a : Int), .int .u32 (b : Int), .int .u8 (key : Int), .int .u8 (vk : Int), .int .i64 vn, .string vs] 79 (0, 0)) := by rw [hW]; exact heap_alloc_new' w _
 have HB := Lib.hid hb
 have c1 := cell_of_row hb 1
 have c2 := cell_of_row hb 2
 simp at c1 c2
 have c1 : ∀ x : MW W, x.w.cell? _ = some _ := fun x => x.cell c1
 have c2 : ∀ x : MW W, x.w.cell? _ = some _ := fun x => x.cell c2
 have HGW : Hid (GrAt W g v l) := Lib.hid (hg.keep (by rw [hW]; exact (Mod.refl _ _).alloc _))
 have HAT : Hid (∀ (x : MW W) (f : Nat), Calls Tryz.prog 23 #[.pointer (some ⟨g, 0, none⟩), .int .u32 (f : Int)] x.w fun e w' => e = .returned (.int .i64 (atI l f)) ∧ ∃ x' : MW W, w' = x'.w) := Lib.hid (fun x f => Calls.quietM (at_any g v l f x.w (HGW.out.keep x.mod)))
 clear hb hg ht hf
 go_enter Tryz.func26, Tryz.ntmps26
 go_wp2_with fail
 rw [← HW.out]
 clear hW
 refine wp_region_quietM (by kernel_rfl) (by kernel_rfl) ?_
 repeat (go_big_quiet_step ((go_at_call 23; exact HAT.out _ _)))
 refine wpQuiet_nil ?_
 intro w3 hm3
 have M3 := Lib.hid (MW.mod_of hm3)
 have M3' : Hid (Mod (fun _ => False) w w3) := Lib.hid (by have h : Mod (fun _ => False) w W := by { rw [HW.out]; exact (Mod.refl _ _).alloc _ }; exact h.trans M3.out)
 have hb3 := M3.out.heap HB.out (fun f => f)
 have HB3 := Lib.hid hb3
 have d0 := cell_of_row hb3 0
 have d1 := cell_of_row hb3 1
 have d2 := cell_of_row hb3 2
 have d3 := cell_of_row hb3 3
 have d4 := cell_of_row hb3 4
 have d5 := cell_of_row hb3 5
 have d6 := cell_of_row hb3 6
 have zo := lt_of_block hb3
 simp at d0 d1 d2 d3 d4 d5 d6
 clear hm3 c1 c2 HAT hb3
 rw [find_none hfb]
 have HE : Hid (oneG (l.map Vs.x) ⟨5, a, b, key, ⟨vk, vn, vs⟩⟩ = ⟨6, l.map Vs.x, []⟩) := Lib.hid (by unfold oneG; simp only; rw [hfa, hfb]; simp)
 obtain ⟨i, s, hi, hs, hsx, hid⟩ := find_some hfa
 rw [hi]
 clear hfa hfb hi hs hsx hid
 go_wp2
 refine bodyPost_ret (v := .tuple #[.int .i64 6, .slice none 0 0]) (by simp [results, Tryz.results26, go_sem]) rfl ?_
 exact OneP.stay HG.out M3'.out HE.out (RdS.none _ _)
open Go.RowKit
set_option maxRecDepth 100000 in
set_option maxHeartbeats 4000000 in
theorem one_2 (g : Nat) (v : Value) (l : List Vs) (a b key vk : Nat) (vn : Int) (vs : ByteArray) (w : World) (hg : GrAt w g v l) (ht : Tame l) (hf : Opr.Fits ⟨2, a, b, key, ⟨vk, vn, vs⟩⟩) (x : Vtx) (hfa : findV (l.map Vs.x) a = some x) :
   Calls Tryz.prog 26 #[.pointer (some ⟨g, 0, none⟩), .agg #[.int .u8 2, .int .u32 (a : Int), .int .u32 (b : Int), .int .u8 (key : Int), .int .u8 (vk : Int), .int .i64 vn, .string vs]] w (OneP g l ⟨2, a, b, key, ⟨vk, vn, vs⟩⟩ w) := by
 have HG := Lib.hid hg
 have HT := Lib.hid ht
 have HF := Lib.hid hf
 obtain ⟨W, hW⟩ : ∃ W, W = w.alloc (.cells #[.int .u8 2, .int .u32 (a : Int), .int .u32 (b : Int), .int .u8 (key : Int), .int .u8 (vk : Int), .int .i64 vn, .string vs] 79) := ⟨_, rfl⟩
 have HW := Lib.hid hW
 have hb : W.heap[w.heap.size]? = some (.cells #[.int .u8 2, .int .u32 (a : Int), .int .u32 (b : Int), .int .u8 (key : Int), .int .u8 (vk : Int), .int .i64 vn, .string vs] 79 (0, 0)) := by rw [hW]; exact heap_alloc_new' w _
 have HB := Lib.hid hb
 have c1 := cell_of_row hb 1
 have c2 := cell_of_row hb 2
 simp at c1 c2
 have c1 : ∀ x : MW W, x.w.cell? _ = some _ := fun x => x.cell c1
 have c2 : ∀ x : MW W, x.w.cell? _ = some _ := fun x => x.cell c2
 have HGW : Hid (GrAt W g v l) := Lib.hid (hg.keep (by rw [hW]; exact (Mod.refl _ _).alloc _))
 have HAT : Hid (∀ (x : MW W) (f : Nat), Calls Tryz.prog 23 #[.pointer (some ⟨g, 0, none⟩), .int .u32 (f : Int)] x.w fun e w' => e = .returned (.int .i64 (atI l f)) ∧ ∃ x' : MW W, w' = x'.w) := Lib.hid (fun x f => Calls.quietM (at_any g v l f x.w (HGW.out.keep x.mod)))
 clear hb hg ht hf
 go_enter Tryz.func26, Tryz.ntmps26
 go_wp2_with fail
 rw [← HW.out]
 clear hW
 refine wp_region_quietM (by kernel_rfl) (by kernel_rfl) ?_
 repeat (go_big_quiet_step ((go_at_call 23; exact HAT.out _ _)))
 refine wpQuiet_nil ?_
 intro w3 hm3
 have M3 := Lib.hid (MW.mod_of hm3)
 have M3' : Hid (Mod (fun _ => False) w w3) := Lib.hid (by have h : Mod (fun _ => False) w W := by { rw [HW.out]; exact (Mod.refl _ _).alloc _ }; exact h.trans M3.out)
 have hb3 := M3.out.heap HB.out (fun f => f)
 have HB3 := Lib.hid hb3
 have d0 := cell_of_row hb3 0
 have d1 := cell_of_row hb3 1
 have d2 := cell_of_row hb3 2
 have d3 := cell_of_row hb3 3
 have d4 := cell_of_row hb3 4
 have d5 := cell_of_row hb3 5
 have d6 := cell_of_row hb3 6
 have zo := lt_of_block hb3
 simp at d0 d1 d2 d3 d4 d5 d6
 clear hm3 c1 c2 HAT hb3
 generalize atI l b = ib
 obtain ⟨i, s, hi, hs, hsx, hid⟩ := find_some hfa
 rw [hi]
 have g0 := cell_of_row (HG.out.keep M3'.out).box 0
 simp at g0
 have zg := lt_of_block (HG.out.keep M3'.out).box
 obtain ⟨ag, cg, hve, hcg1, hcg2, -⟩ := HG.out.lst.row.shape
 subst hve
 obtain ⟨n, hn⟩ : ∃ n, n = l.length := ⟨_, rfl⟩
 have hin : i < n := by rw [hn]; exact (List.getElem?_eq_some_iff.1 hs).1
 have hin' : (i : Int) < (n : Int) := by omega
 have HN := Lib.hid hn
 rw [← hn] at g0 hcg1 HG
 clear hn
 obtain ⟨bl, offl, e0, hbl, r0, r1, r2, r3⟩ := HG.out.lst.ent hs rfl
 replace r0 := M3'.out.cell r0
 replace r1 := M3'.out.cell r1
 replace r2 := M3'.out.cell r2
 replace r3 := M3'.out.cell r3
 have zbl : bl < w3.heap.size := Nat.lt_of_lt_of_le hbl M3'.out.size
 subst e0
 have HS := Lib.hid hs
 have HVX := Lib.hid ((HG.out.lst.at hs).keep M3'.out)
 have HTH := Lib.hid (HT.out.each s (List.mem_of_getElem? hs))
 have HID := Lib.hid hid
 have HFA := Lib.hid hfa
 have hi0 := hi
 clear hs hbl hi hid hfa
 obtain ⟨⟨id, thr, xs, ys⟩, vp, vh⟩ := s
 simp only at hsx
 subst hsx
 obtain rfl : thr = true := HTH.out.1
 obtain rfl : id = a := HID.out
 obtain ⟨ap, cp, hvp, -⟩ := HVX.out.props.shape
 obtain ⟨ah, ch, hvh, -⟩ := HVX.out.halves.shape
 simp only at hvp hvh r0 r1 r2 r3 HVX HTH
 subst hvp hvh
 obtain ⟨np, hnp⟩ : ∃ np, np = xs.length := ⟨_, rfl⟩
 obtain ⟨nh, hnh⟩ : ∃ nh, nh = ys.length := ⟨_, rfl⟩
 rw [← hnp] at r2
 rw [← hnh] at r3
 have HNP := Lib.hid hnp
 have HNH := Lib.hid hnh
 obtain ⟨eb, heb⟩ : ∃ eb, eb = entX ys b := ⟨_, rfl⟩
 have HEB := Lib.hid heb
 have HHF : Hid (∀ w', Mod (fun _ => False) w3 w' → Calls Tryz.prog 51 #[.agg #[.int .u32 (id : Int), .bool true, .slice ap np cp, .slice ah nh ch], .int .u32 (b : Int)] w' fun e w'' => e = .returned (.tuple #[.agg #[.int .u8 ((eb.getD noVal).k : Int), .int .i64 (eb.getD noVal).n, .string (eb.getD noVal).s], .bool eb.isSome]) ∧ Mod (fun _ => False) w' w'') := Lib.hid (fun w' m => by
   have h := dhalf_any ⟨id, true, xs, ys⟩ (.slice ap np cp) (.slice ah nh ch) b w' (by rw [HNP.out, HNH.out]; exact HVX.out.keep m)
   simp only [vtxV, Val.v, ← HEB.out] at h
   exact h)
 rw [← hnp, ← hnh] at HVX
 rw [← hnp, ← hnh] at HS
 clear heb hnp hnh
 have HE : Hid (oneG (l.map Vs.x) ⟨2, id, b, key, ⟨vk, vn, vs⟩⟩ = if 0 < nh then ⟨8, l.map Vs.x, []⟩ else ⟨0, layV ⟨id, false, [], []⟩ (l.map Vs.x), []⟩) := Lib.hid (by unfold oneG; simp only; rw [HFA.out, HNH.out]; simp)
 go_upto_region 11 with (go_at_call 51; refine (HHF.out _ ((Mod.refl (fun _ => False) w3).alloc _)).mono ?_; (rintro e w5 ⟨rfl, hm5⟩); have M5 := Lib.hid (((Mod.refl (fun _ => False) w3).alloc _).trans hm5); have hb5 := hm5.heap (heap_alloc_new' w3 _) (fun f => f); have HB5 := Lib.hid hb5; have e0 := cell_of_row hb5 0; have e1 := cell_of_row hb5 1; have e2 := cell_of_row hb5 2; have e3 := cell_of_row hb5 3; have z5 := lt_of_block hb5; simp at e0 e1 e2 e3; clear hm5 hb5; have d0 := M5.out.cell d0; have d1 := M5.out.cell d1; have d2 := M5.out.cell d2; have d3 := M5.out.cell d3; have d4 := M5.out.cell d4; have d5 := M5.out.cell d5; have d6 := M5.out.cell d6; have zo5 : w.heap.size < w5.heap.size := Nat.lt_of_lt_of_le zo M5.out.size; have zbl5 : bl < w5.heap.size := Nat.lt_of_lt_of_le zbl M5.out.size; have zg5 : g < w5.heap.size := Nat.lt_of_lt_of_le zg M5.out.size; have g0 := M5.out.cell g0)
 by_cases h0 : 0 < nh
 · have h0' : (0 : Int) < (nh : Int) := by omega
   have HE2 := Lib.hid (HE.out.trans (if_pos h0))
   clear h0
   go_wp2
   refine bodyPost_ret (v := .tuple #[.int .i64 8, .slice none 0 0]) (by simp [results, Tryz.results26, go_sem]) rfl ?_
   exact OneP.stay HG.out ((M3'.out.trans M5.out).alloc _) HE2.out (RdS.none _ _)
 · obtain rfl : nh = 0 := by omega
   have HE2 := Lib.hid (HE.out.trans (if_neg h0))
   clear h0
   have HLAY := Lib.hid (lay_any g (.slice (some ⟨bl, offl, none⟩) n cg) l ⟨⟨id, false, [], []⟩, .slice none 0 0, .slice none 0 0⟩ _ (HG.out.keep ((M3'.out.trans M5.out).alloc (.cells #[.int .u8 ((eb.getD noVal).k : Int), .int .i64 (eb.getD noVal).n, .string (eb.getD noVal).s] 77))) (vrd_empty _ _ _ HF.out.a) (by have := HT.out.len; omega))
   go_wp2_with (go_at_call 50; refine HLAY.out.mono ?_; (rintro e w6 ⟨rfl, hm6, v6, hg6⟩); have M6 := Lib.hid ((((M3'.out.trans M5.out).alloc _).mono (fun _ _ f => f.elim)).trans hm6); have HG6 := Lib.hid hg6; clear hm6 hg6)
   refine bodyPost_ret (v := .tuple #[.int .i64 0, .slice none 0 0]) (by simp [results, Tryz.results26, go_sem]) rfl ?_
   exact OneP.laid HG6.out M6.out HE2.out (by rw [lay_map]; rfl)
open Go.RowKit
set_option maxRecDepth 100000 in
set_option maxHeartbeats 4000000 in
theorem one_3 (g : Nat) (v : Value) (l : List Vs) (a b key vk : Nat) (vn : Int) (vs : ByteArray) (w : World) (hg : GrAt w g v l) (ht : Tame l) (hf : Opr.Fits ⟨3, a, b, key, ⟨vk, vn, vs⟩⟩) (x : Vtx) (hfa : findV (l.map Vs.x) a = some x) :
   Calls Tryz.prog 26 #[.pointer (some ⟨g, 0, none⟩), .agg #[.int .u8 3, .int .u32 (a : Int), .int .u32 (b : Int), .int .u8 (key : Int), .int .u8 (vk : Int), .int .i64 vn, .string vs]] w (OneP g l ⟨3, a, b, key, ⟨vk, vn, vs⟩⟩ w) := by
 have HG := Lib.hid hg
 have HT := Lib.hid ht
 have HF := Lib.hid hf
 obtain ⟨W, hW⟩ : ∃ W, W = w.alloc (.cells #[.int .u8 3, .int .u32 (a : Int), .int .u32 (b : Int), .int .u8 (key : Int), .int .u8 (vk : Int), .int .i64 vn, .string vs] 79) := ⟨_, rfl⟩
 have HW := Lib.hid hW
 have hb : W.heap[w.heap.size]? = some (.cells #[.int .u8 3, .int .u32 (a : Int), .int .u32 (b : Int), .int .u8 (key : Int), .int .u8 (vk : Int), .int .i64 vn, .string vs] 79 (0, 0)) := by rw [hW]; exact heap_alloc_new' w _
 have HB := Lib.hid hb
 have c1 := cell_of_row hb 1
 have c2 := cell_of_row hb 2
 simp at c1 c2
 have c1 : ∀ x : MW W, x.w.cell? _ = some _ := fun x => x.cell c1
 have c2 : ∀ x : MW W, x.w.cell? _ = some _ := fun x => x.cell c2
 have HGW : Hid (GrAt W g v l) := Lib.hid (hg.keep (by rw [hW]; exact (Mod.refl _ _).alloc _))
 have HAT : Hid (∀ (x : MW W) (f : Nat), Calls Tryz.prog 23 #[.pointer (some ⟨g, 0, none⟩), .int .u32 (f : Int)] x.w fun e w' => e = .returned (.int .i64 (atI l f)) ∧ ∃ x' : MW W, w' = x'.w) := Lib.hid (fun x f => Calls.quietM (at_any g v l f x.w (HGW.out.keep x.mod)))
 clear hb hg ht hf
 go_enter Tryz.func26, Tryz.ntmps26
 go_wp2_with fail
 rw [← HW.out]
 clear hW
 refine wp_region_quietM (by kernel_rfl) (by kernel_rfl) ?_
 repeat (go_big_quiet_step ((go_at_call 23; exact HAT.out _ _)))
 refine wpQuiet_nil ?_
 intro w3 hm3
 have M3 := Lib.hid (MW.mod_of hm3)
 have M3' : Hid (Mod (fun _ => False) w w3) := Lib.hid (by have h : Mod (fun _ => False) w W := by { rw [HW.out]; exact (Mod.refl _ _).alloc _ }; exact h.trans M3.out)
 have hb3 := M3.out.heap HB.out (fun f => f)
 have HB3 := Lib.hid hb3
 have d0 := cell_of_row hb3 0
 have d1 := cell_of_row hb3 1
 have d2 := cell_of_row hb3 2
 have d3 := cell_of_row hb3 3
 have d4 := cell_of_row hb3 4
 have d5 := cell_of_row hb3 5
 have d6 := cell_of_row hb3 6
 have zo := lt_of_block hb3
 simp at d0 d1 d2 d3 d4 d5 d6
 clear hm3 c1 c2 HAT hb3
 generalize atI l b = ib
 obtain ⟨i, s, hi, hs, hsx, hid⟩ := find_some hfa
 rw [hi]
 have g0 := cell_of_row (HG.out.keep M3'.out).box 0
 simp at g0
 have zg := lt_of_block (HG.out.keep M3'.out).box
 obtain ⟨ag, cg, hve, hcg1, hcg2, -⟩ := HG.out.lst.row.shape
 subst hve
 obtain ⟨n, hn⟩ : ∃ n, n = l.length := ⟨_, rfl⟩
 have hin : i < n := by rw [hn]; exact (List.getElem?_eq_some_iff.1 hs).1
 have hin' : (i : Int) < (n : Int) := by omega
 have HN := Lib.hid hn
 rw [← hn] at g0 hcg1 HG
 clear hn
 obtain ⟨bl, offl, e0, hbl, r0, r1, r2, r3⟩ := HG.out.lst.ent hs rfl
 replace r0 := M3'.out.cell r0
 replace r1 := M3'.out.cell r1
 replace r2 := M3'.out.cell r2
 replace r3 := M3'.out.cell r3
 have zbl : bl < w3.heap.size := Nat.lt_of_lt_of_le hbl M3'.out.size
 subst e0
 have HS := Lib.hid hs
 have HVX := Lib.hid ((HG.out.lst.at hs).keep M3'.out)
 have HTH := Lib.hid (HT.out.each s (List.mem_of_getElem? hs))
 have HID := Lib.hid hid
 have HFA := Lib.hid hfa
 have hi0 := hi
 clear hs hbl hi hid hfa
 obtain ⟨⟨id, thr, xs, ys⟩, vp, vh⟩ := s
 simp only at hsx
 subst hsx
 obtain rfl : thr = true := HTH.out.1
 obtain rfl : id = a := HID.out
 obtain ⟨ap, cp, hvp, -⟩ := HVX.out.props.shape
 obtain ⟨ah, ch, hvh, -⟩ := HVX.out.halves.shape
 simp only at hvp hvh r0 r1 r2 r3 HVX HTH
 subst hvp hvh
 obtain ⟨np, hnp⟩ : ∃ np, np = xs.length := ⟨_, rfl⟩
 obtain ⟨nh, hnh⟩ : ∃ nh, nh = ys.length := ⟨_, rfl⟩
 rw [← hnp] at r2
 rw [← hnh] at r3
 have HNP := Lib.hid hnp
 have HNH := Lib.hid hnh
 obtain ⟨eb, heb⟩ : ∃ eb, eb = entX ys b := ⟨_, rfl⟩
 have HEB := Lib.hid heb
 have HHF : Hid (∀ w', Mod (fun _ => False) w3 w' → Calls Tryz.prog 51 #[.agg #[.int .u32 (id : Int), .bool true, .slice ap np cp, .slice ah nh ch], .int .u32 (b : Int)] w' fun e w'' => e = .returned (.tuple #[.agg #[.int .u8 ((eb.getD noVal).k : Int), .int .i64 (eb.getD noVal).n, .string (eb.getD noVal).s], .bool eb.isSome]) ∧ Mod (fun _ => False) w' w'') := Lib.hid (fun w' m => by
   have h := dhalf_any ⟨id, true, xs, ys⟩ (.slice ap np cp) (.slice ah nh ch) b w' (by rw [HNP.out, HNH.out]; exact HVX.out.keep m)
   simp only [vtxV, Val.v, ← HEB.out] at h
   exact h)
 rw [← hnp, ← hnh] at HVX
 rw [← hnp, ← hnh] at HS
 clear heb hnp hnh
 have HE : Hid (oneG (l.map Vs.x) ⟨3, id, b, key, ⟨vk, vn, vs⟩⟩ = ⟨0, layV (setP ⟨id, true, xs, ys⟩ key ⟨vk, vn, vs⟩) (l.map Vs.x), []⟩) := Lib.hid (by unfold oneG; simp only; rw [HFA.out]; simp)
 go_upto_region 11 with (go_at_call 51; refine (HHF.out _ ((Mod.refl (fun _ => False) w3).alloc _)).mono ?_; (rintro e w5 ⟨rfl, hm5⟩); have M5 := Lib.hid (((Mod.refl (fun _ => False) w3).alloc _).trans hm5); have hb5 := hm5.heap (heap_alloc_new' w3 _) (fun f => f); have HB5 := Lib.hid hb5; have e0 := cell_of_row hb5 0; have e1 := cell_of_row hb5 1; have e2 := cell_of_row hb5 2; have e3 := cell_of_row hb5 3; have z5 := lt_of_block hb5; simp at e0 e1 e2 e3; clear hm5 hb5; have d0 := M5.out.cell d0; have d1 := M5.out.cell d1; have d2 := M5.out.cell d2; have d3 := M5.out.cell d3; have d4 := M5.out.cell d4; have d5 := M5.out.cell d5; have d6 := M5.out.cell d6; have zo5 : w.heap.size < w5.heap.size := Nat.lt_of_lt_of_le zo M5.out.size; have zbl5 : bl < w5.heap.size := Nat.lt_of_lt_of_le zbl M5.out.size; have zg5 : g < w5.heap.size := Nat.lt_of_lt_of_le zg M5.out.size; have g0 := M5.out.cell g0)
 have M9 := Lib.hid ((M3'.out.trans M5.out).alloc (.cells #[.int .u8 ((eb.getD noVal).k : Int), .int .i64 (eb.getD noVal).n, .string (eb.getD noVal).s] 77))
 have HSP := Lib.hid (setprop_any ⟨id, true, xs, ys⟩ (.slice ap np cp) (.slice ah nh ch) key ⟨vk, vn, vs⟩ (w5.alloc (.cells #[.int .u8 ((eb.getD noVal).k : Int), .int .i64 (eb.getD noVal).n, .string (eb.getD noVal).s] 77)) (by rw [HNP.out, HNH.out]; rw [HNP.out, HNH.out] at HVX; exact (HVX.out.keep M5.out).keep ((Mod.refl _ _).alloc _)) HF.out.key HF.out.val (by have := HTH.out.2.1; show xs.length ≤ 1000; omega))
 have HLAY : Hid (∀ w' vo, Mod (fun _ => False) w w' → VRd w' vo (.slice ah nh ch) (setP ⟨id, true, xs, ys⟩ key ⟨vk, vn, vs⟩) → Calls Tryz.prog 50 #[.pointer (some ⟨g, 0, none⟩), .agg #[.int .u32 (id : Int), .bool true, vo, .slice ah nh ch]] w' _) := Lib.hid (fun w' vo m hv => lay_any g (.slice (some ⟨bl, offl, none⟩) n cg) l ⟨setP ⟨id, true, xs, ys⟩ key ⟨vk, vn, vs⟩, vo, .slice ah nh ch⟩ w' (HG.out.keep m) hv (by have := HT.out.len; omega))
 simp only [vtxV, Val.v, setP] at HSP
 go_wp2_with (first
   | (go_at_call 52; refine HSP.out.mono ?_; (rintro e w6 ⟨hm6, vo, rfl, hv6⟩); have M6 := Lib.hid (M9.out.trans hm6); have HV6 := Lib.hid hv6; clear hm6 hv6; have HL6 := Lib.hid (HLAY.out w6 vo M6.out HV6.out))
   | (go_at_call 50; refine HL6.out.mono ?_; (rintro e w7 ⟨rfl, hm7, v7, hg7⟩); have M7 := Lib.hid ((M6.out.mono (fun _ _ f => f.elim)).trans hm7); have HG7 := Lib.hid hg7; clear hm7 hg7))
 refine bodyPost_ret (v := .tuple #[.int .i64 0, .slice none 0 0]) (by simp [results, Tryz.results26, go_sem]) rfl ?_
 exact OneP.laid HG7.out M7.out HE.out (by rw [lay_map]; rfl)
open Go.RowKit
set_option maxRecDepth 100000 in
set_option maxHeartbeats 4000000 in
theorem one_4 (g : Nat) (v : Value) (l : List Vs) (a b key vk : Nat) (vn : Int) (vs : ByteArray) (w : World) (hg : GrAt w g v l) (ht : Tame l) (hf : Opr.Fits ⟨4, a, b, key, ⟨vk, vn, vs⟩⟩) (x : Vtx) (hfa : findV (l.map Vs.x) a = some x) :
   Calls Tryz.prog 26 #[.pointer (some ⟨g, 0, none⟩), .agg #[.int .u8 4, .int .u32 (a : Int), .int .u32 (b : Int), .int .u8 (key : Int), .int .u8 (vk : Int), .int .i64 vn, .string vs]] w (OneP g l ⟨4, a, b, key, ⟨vk, vn, vs⟩⟩ w) := by
 have HG := Lib.hid hg
 have HT := Lib.hid ht
 have HF := Lib.hid hf
 obtain ⟨W, hW⟩ : ∃ W, W = w.alloc (.cells #[.int .u8 4, .int .u32 (a : Int), .int .u32 (b : Int), .int .u8 (key : Int), .int .u8 (vk : Int), .int .i64 vn, .string vs] 79) := ⟨_, rfl⟩
 have HW := Lib.hid hW
 have hb : W.heap[w.heap.size]? = some (.cells #[.int .u8 4, .int .u32 (a : Int), .int .u32 (b : Int), .int .u8 (key : Int), .int .u8 (vk : Int), .int .i64 vn, .string vs] 79 (0, 0)) := by rw [hW]; exact heap_alloc_new' w _
 have HB := Lib.hid hb
 have c1 := cell_of_row hb 1
 have c2 := cell_of_row hb 2
 simp at c1 c2
 have c1 : ∀ x : MW W, x.w.cell? _ = some _ := fun x => x.cell c1
 have c2 : ∀ x : MW W, x.w.cell? _ = some _ := fun x => x.cell c2
 have HGW : Hid (GrAt W g v l) := Lib.hid (hg.keep (by rw [hW]; exact (Mod.refl _ _).alloc _))
 have HAT : Hid (∀ (x : MW W) (f : Nat), Calls Tryz.prog 23 #[.pointer (some ⟨g, 0, none⟩), .int .u32 (f : Int)] x.w fun e w' => e = .returned (.int .i64 (atI l f)) ∧ ∃ x' : MW W, w' = x'.w) := Lib.hid (fun x f => Calls.quietM (at_any g v l f x.w (HGW.out.keep x.mod)))
 clear hb hg ht hf
 go_enter Tryz.func26, Tryz.ntmps26
 go_wp2_with fail
 rw [← HW.out]
 clear hW
 refine wp_region_quietM (by kernel_rfl) (by kernel_rfl) ?_
 repeat (go_big_quiet_step ((go_at_call 23; exact HAT.out _ _)))
 refine wpQuiet_nil ?_
 intro w3 hm3
 have M3 := Lib.hid (MW.mod_of hm3)
 have M3' : Hid (Mod (fun _ => False) w w3) := Lib.hid (by have h : Mod (fun _ => False) w W := by { rw [HW.out]; exact (Mod.refl _ _).alloc _ }; exact h.trans M3.out)
 have hb3 := M3.out.heap HB.out (fun f => f)
 have HB3 := Lib.hid hb3
 have d0 := cell_of_row hb3 0
 have d1 := cell_of_row hb3 1
 have d2 := cell_of_row hb3 2
 have d3 := cell_of_row hb3 3
 have d4 := cell_of_row hb3 4
 have d5 := cell_of_row hb3 5
 have d6 := cell_of_row hb3 6
 have zo := lt_of_block hb3
 simp at d0 d1 d2 d3 d4 d5 d6
 clear hm3 c1 c2 HAT hb3
 generalize atI l b = ib
 obtain ⟨i, s, hi, hs, hsx, hid⟩ := find_some hfa
 rw [hi]
 have g0 := cell_of_row (HG.out.keep M3'.out).box 0
 simp at g0
 have zg := lt_of_block (HG.out.keep M3'.out).box
 obtain ⟨ag, cg, hve, hcg1, hcg2, -⟩ := HG.out.lst.row.shape
 subst hve
 obtain ⟨n, hn⟩ : ∃ n, n = l.length := ⟨_, rfl⟩
 have hin : i < n := by rw [hn]; exact (List.getElem?_eq_some_iff.1 hs).1
 have hin' : (i : Int) < (n : Int) := by omega
 have HN := Lib.hid hn
 rw [← hn] at g0 hcg1 HG
 clear hn
 obtain ⟨bl, offl, e0, hbl, r0, r1, r2, r3⟩ := HG.out.lst.ent hs rfl
 replace r0 := M3'.out.cell r0
 replace r1 := M3'.out.cell r1
 replace r2 := M3'.out.cell r2
 replace r3 := M3'.out.cell r3
 have zbl : bl < w3.heap.size := Nat.lt_of_lt_of_le hbl M3'.out.size
 subst e0
 have HS := Lib.hid hs
 have HVX := Lib.hid ((HG.out.lst.at hs).keep M3'.out)
 have HTH := Lib.hid (HT.out.each s (List.mem_of_getElem? hs))
 have HID := Lib.hid hid
 have HFA := Lib.hid hfa
 have hi0 := hi
 clear hs hbl hi hid hfa
 obtain ⟨⟨id, thr, xs, ys⟩, vp, vh⟩ := s
 simp only at hsx
 subst hsx
 obtain rfl : thr = true := HTH.out.1
 obtain rfl : id = a := HID.out
 obtain ⟨ap, cp, hvp, -⟩ := HVX.out.props.shape
 obtain ⟨ah, ch, hvh, -⟩ := HVX.out.halves.shape
 simp only at hvp hvh r0 r1 r2 r3 HVX HTH
 subst hvp hvh
 obtain ⟨np, hnp⟩ : ∃ np, np = xs.length := ⟨_, rfl⟩
 obtain ⟨nh, hnh⟩ : ∃ nh, nh = ys.length := ⟨_, rfl⟩
 rw [← hnp] at r2
 rw [← hnh] at r3
 have HNP := Lib.hid hnp
 have HNH := Lib.hid hnh
 obtain ⟨eb, heb⟩ : ∃ eb, eb = entX ys b := ⟨_, rfl⟩
 have HEB := Lib.hid heb
 have HHF : Hid (∀ w', Mod (fun _ => False) w3 w' → Calls Tryz.prog 51 #[.agg #[.int .u32 (id : Int), .bool true, .slice ap np cp, .slice ah nh ch], .int .u32 (b : Int)] w' fun e w'' => e = .returned (.tuple #[.agg #[.int .u8 ((eb.getD noVal).k : Int), .int .i64 (eb.getD noVal).n, .string (eb.getD noVal).s], .bool eb.isSome]) ∧ Mod (fun _ => False) w' w'') := Lib.hid (fun w' m => by
   have h := dhalf_any ⟨id, true, xs, ys⟩ (.slice ap np cp) (.slice ah nh ch) b w' (by rw [HNP.out, HNH.out]; exact HVX.out.keep m)
   simp only [vtxV, Val.v, ← HEB.out] at h
   exact h)
 rw [← hnp, ← hnh] at HVX
 rw [← hnp, ← hnh] at HS
 clear heb hnp hnh
 have HE : Hid (oneG (l.map Vs.x) ⟨4, id, b, key, ⟨vk, vn, vs⟩⟩ = ⟨0, l.map Vs.x, [propV ⟨id, true, xs, ys⟩ key]⟩) := Lib.hid (by unfold oneG; simp only; rw [HFA.out]; simp)
 go_upto_region 11 with (go_at_call 51; refine (HHF.out _ ((Mod.refl (fun _ => False) w3).alloc _)).mono ?_; (rintro e w5 ⟨rfl, hm5⟩); have M5 := Lib.hid (((Mod.refl (fun _ => False) w3).alloc _).trans hm5); have hb5 := hm5.heap (heap_alloc_new' w3 _) (fun f => f); have HB5 := Lib.hid hb5; have e0 := cell_of_row hb5 0; have e1 := cell_of_row hb5 1; have e2 := cell_of_row hb5 2; have e3 := cell_of_row hb5 3; have z5 := lt_of_block hb5; simp at e0 e1 e2 e3; clear hm5 hb5; have d0 := M5.out.cell d0; have d1 := M5.out.cell d1; have d2 := M5.out.cell d2; have d3 := M5.out.cell d3; have d4 := M5.out.cell d4; have d5 := M5.out.cell d5; have d6 := M5.out.cell d6; have zo5 : w.heap.size < w5.heap.size := Nat.lt_of_lt_of_le zo M5.out.size; have zbl5 : bl < w5.heap.size := Nat.lt_of_lt_of_le zbl M5.out.size; have zg5 : g < w5.heap.size := Nat.lt_of_lt_of_le zg M5.out.size; have g0 := M5.out.cell g0)
 have M9 := Lib.hid ((M3'.out.trans M5.out).alloc (.cells #[.int .u8 ((eb.getD noVal).k : Int), .int .i64 (eb.getD noVal).n, .string (eb.getD noVal).s] 77))
 have HSP := Lib.hid (dprop_any ⟨id, true, xs, ys⟩ (.slice ap np cp) (.slice ah nh ch) key (w5.alloc (.cells #[.int .u8 ((eb.getD noVal).k : Int), .int .i64 (eb.getD noVal).n, .string (eb.getD noVal).s] 77)) (by rw [HNP.out, HNH.out]; rw [HNP.out, HNH.out] at HVX; exact (HVX.out.keep M5.out).keep ((Mod.refl _ _).alloc _)))
 obtain ⟨pv, hpv⟩ : ∃ pv, pv = propV ⟨id, true, xs, ys⟩ key := ⟨_, rfl⟩
 have HPV := Lib.hid hpv
 rw [← hpv] at HE
 have hpv2 : (entX xs key).getD noVal = pv := by rw [hpv]; rfl
 simp only [vtxV, hpv2, Val.v] at HSP
 clear hpv hpv2
 obtain ⟨pk, pn, ps⟩ := pv
 simp only at HSP
 go_wp2_with (go_at_call 53; refine HSP.out.mono ?_; (rintro e w6 ⟨rfl, hm6⟩); have M6 := Lib.hid (M9.out.trans hm6); clear hm6)
 refine bodyPost_ret (v := .tuple #[.int .i64 0, .slice (some ⟨w6.heap.size, 0, none⟩) 1 1]) (by simp [results, Tryz.results26, go_sem]) rfl ?_
 exact OneP.stay HG.out (M6.out.alloc _) HE.out (Seg.lit (size := 3) w6 #[.int .u8 (pk : Int), .int .i64 pn, .string ps] 1 rfl (by unfold maxLen; omega) (by simp [Value.oneCell'])).rdS
end Go.Proofs.YtpigipgoopeeoaaGreatDoor
