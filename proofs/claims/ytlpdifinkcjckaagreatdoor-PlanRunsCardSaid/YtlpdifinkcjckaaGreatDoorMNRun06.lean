import Derived.Test.YtlpdifinkcjckaaGreatDoorMNRun03
import Derived.Test.YtlpdifinkcjckaaGreatDoorMNRun04
import Derived.Test.YtlpdifinkcjckaaGreatDoorMNRun05
import Derived.Deep.OwnRows
set_option linter.unusedVariables false
set_option linter.unusedSimpArgs false
namespace Go.Proofs.YtlpdifinkcjckaaGreatDoor
open Go.RowKit
set_option maxRecDepth 100000 in
set_option maxHeartbeats 4000000 in
theorem one_7 (g : Nat) (v : Value) (l : List Vs) (a b key vk : Nat) (vn : Int) (vs : ByteArray) (w : World) (hg : GrAt w g v l) (ht : Tame l) (hf : Opr.Fits ⟨7, a, b, key, ⟨vk, vn, vs⟩⟩) (x : Vtx) (hfa : findV (l.map Vs.x) a = some x) :
   Calls Tryz.prog 77 #[.pointer (some ⟨g, 0, none⟩), .agg #[.int .u8 7, .int .u32 (a : Int), .int .u32 (b : Int), .int .u8 (key : Int), .int .u8 (vk : Int), .int .i64 vn, .string vs]] w (OneP g l ⟨7, a, b, key, ⟨vk, vn, vs⟩⟩ w) := by
 have HG := Lib.hid hg
 have HT := Lib.hid ht
 have HF := Lib.hid hf
 obtain ⟨W, hW⟩ : ∃ W, W = w.alloc (.cells #[.int .u8 7, .int .u32 (a : Int), .int .u32 (b : Int), .int .u8 (key : Int), .int .u8 (vk : Int), .int .i64 vn, .string vs] 82) := ⟨_, rfl⟩
 have HW := Lib.hid hW
 have hb : W.heap[w.heap.size]? = some (.cells #[.int .u8 7, .int .u32 (a : Int), .int .u32 (b : Int), .int .u8 (key : Int), .int .u8 (vk : Int), .int .i64 vn, .string vs] 82 (0, 0)) := by rw [hW]; exact heap_alloc_new' w _
 have HB := Lib.hid hb
 have c1 := cell_of_row hb 1
 have c2 := cell_of_row hb 2
 simp at c1 c2
 have c1 : ∀ x : MW W, x.w.cell? _ = some _ := fun x => x.cell c1
 have c2 : ∀ x : MW W, x.w.cell? _ = some _ := fun x => x.cell c2
 have HGW : Hid (GrAt W g v l) := Lib.hid (hg.keep (by rw [hW]; exact (Mod.refl _ _).alloc _))
 have HAT : Hid (∀ (x : MW W) (f : Nat), Calls Tryz.prog 75 #[.pointer (some ⟨g, 0, none⟩), .int .u32 (f : Int)] x.w fun e w' => e = .returned (.int .i64 (atI l f)) ∧ ∃ x' : MW W, w' = x'.w) := Lib.hid (fun x f => Calls.quietM (at_any g v l f x.w (HGW.out.keep x.mod)))
 clear hb hg ht hf
 go_enter Tryz.func77, Tryz.ntmps77
 go_wp2_with fail
 rw [← HW.out]
 clear hW
 refine wp_region_quietM (by kernel_rfl) (by kernel_rfl) ?_
 repeat (go_big_quiet_step ((go_at_call 75; exact HAT.out _ _)))
 refine wpQuiet_nil ?_
 intro w3 hm3
 have M3 := Lib.hid (MW.mod_of hm3)
 have M3' : Hid (Mod (fun _ => False) w w3) := Lib.hid (by have h : Mod (fun _ => False) w W := by { rw [HW.out]; exact (Mod.refl _ _).alloc _ }; exact h.trans M3.out)
 have hb3 := M3.out.heap HB.out (fun f => f)
 have HB3 := Lib.hid hb3
 have d0 := cell_of_row hb3 0
 have d1 := cell_of_row hb3 1
 have d2 := cell_of_row hb3 2
 have d3 := cell_of_row hb3 3
 have d4 := cell_of_row hb3 4
 have d5 := cell_of_row hb3 5
 have d6 := cell_of_row hb3 6
 have zo := lt_of_block hb3
 simp at d0 d1 d2 d3 d4 d5 d6
 clear hm3 c1 c2 HAT hb3
 generalize atI l b = ib
 obtain ⟨i, s, hi, hs, hsx, hid⟩ := find_some hfa
 rw [hi]
 have g0 := cell_of_row (HG.out.keep M3'.out).box 0
 simp at g0
 have zg := lt_of_block (HG.out.keep M3'.out).box
 obtain ⟨ag, cg, hve, hcg1, hcg2, -⟩ := HG.out.lst.row.shape
 subst hve
 obtain ⟨n, hn⟩ : ∃ n, n = l.length := ⟨_, rfl⟩
 have hin : i < n := by rw [hn]; exact (List.getElem?_eq_some_iff.1 hs).1
 have hin' : (i : Int) < (n : Int) := by omega
 have HN := Lib.hid hn
 rw [← hn] at g0 hcg1 HG
 clear hn
 obtain ⟨bl, offl, e0, hbl, r0, r1, r2, r3⟩ := HG.out.lst.ent hs rfl
 replace r0 := M3'.out.cell r0
 replace r1 := M3'.out.cell r1
 replace r2 := M3'.out.cell r2
 replace r3 := M3'.out.cell r3
 have zbl : bl < w3.heap.size := Nat.lt_of_lt_of_le hbl M3'.out.size
 subst e0
 have HS := Lib.hid hs
 have HVX := Lib.hid ((HG.out.lst.at hs).keep M3'.out)
 have HTH := Lib.hid (HT.out.each s (List.mem_of_getElem? hs))
 have HID := Lib.hid hid
 have HFA := Lib.hid hfa
 have hi0 := hi
 clear hs hbl hi hid hfa
 obtain ⟨⟨id, thr, xs, ys⟩, vp, vh⟩ := s
 simp only at hsx
 subst hsx
 obtain rfl : thr = true := HTH.out.1
 obtain rfl : id = a := HID.out
 obtain ⟨ap, cp, hvp, -⟩ := HVX.out.props.shape
 obtain ⟨ah, ch, hvh, -⟩ := HVX.out.halves.shape
 simp only at hvp hvh r0 r1 r2 r3 HVX HTH
 subst hvp hvh
 obtain ⟨np, hnp⟩ : ∃ np, np = xs.length := ⟨_, rfl⟩
 obtain ⟨nh, hnh⟩ : ∃ nh, nh = ys.length := ⟨_, rfl⟩
 rw [← hnp] at r2
 rw [← hnh] at r3
 have HNP := Lib.hid hnp
 have HNH := Lib.hid hnh
 obtain ⟨eb, heb⟩ : ∃ eb, eb = entX ys b := ⟨_, rfl⟩
 have HEB := Lib.hid heb
 have HHF : Hid (∀ w', Mod (fun _ => False) w3 w' → Calls Tryz.prog 27 #[.agg #[.int .u32 (id : Int), .bool true, .slice ap np cp, .slice ah nh ch], .int .u32 (b : Int)] w' fun e w'' => e = .returned (.tuple #[.agg #[.int .u8 ((eb.getD noVal).k : Int), .int .i64 (eb.getD noVal).n, .string (eb.getD noVal).s], .bool eb.isSome]) ∧ Mod (fun _ => False) w' w'') := Lib.hid (fun w' m => by
   have h := dhalf_any ⟨id, true, xs, ys⟩ (.slice ap np cp) (.slice ah nh ch) b w' (by rw [HNP.out, HNH.out]; exact HVX.out.keep m)
   simp only [vtxV, Val.v, ← HEB.out] at h
   exact h)
 rw [← hnp, ← hnh] at HVX
 rw [← hnp, ← hnh] at HS
 clear heb hnp hnh
 have HE : Hid (oneG (l.map Vs.x) ⟨7, id, b, key, ⟨vk, vn, vs⟩⟩ = match eb with | none => ⟨6, l.map Vs.x, []⟩ | some val => ⟨0, l.map Vs.x, [val]⟩) := Lib.hid (by unfold oneG; simp only; rw [HFA.out]; simp only [← HEB.out]; cases eb <;> simp)
 go_upto_region 11 with (go_at_call 27; refine (HHF.out _ ((Mod.refl (fun _ => False) w3).alloc _)).mono ?_; (rintro e w5 ⟨rfl, hm5⟩); have M5 := Lib.hid (((Mod.refl (fun _ => False) w3).alloc _).trans hm5); have hb5 := hm5.heap (heap_alloc_new' w3 _) (fun f => f); have HB5 := Lib.hid hb5; have e0 := cell_of_row hb5 0; have e1 := cell_of_row hb5 1; have e2 := cell_of_row hb5 2; have e3 := cell_of_row hb5 3; have z5 := lt_of_block hb5; simp at e0 e1 e2 e3; clear hm5 hb5; have d0 := M5.out.cell d0; have d1 := M5.out.cell d1; have d2 := M5.out.cell d2; have d3 := M5.out.cell d3; have d4 := M5.out.cell d4; have d5 := M5.out.cell d5; have d6 := M5.out.cell d6; have zo5 : w.heap.size < w5.heap.size := Nat.lt_of_lt_of_le zo M5.out.size; have zbl5 : bl < w5.heap.size := Nat.lt_of_lt_of_le zbl M5.out.size; have zg5 : g < w5.heap.size := Nat.lt_of_lt_of_le zg M5.out.size; have g0 := M5.out.cell g0)
 cases eb with
 | none =>
   have HE2 : Hid (oneG (l.map Vs.x) ⟨7, id, b, key, ⟨vk, vn, vs⟩⟩ = ⟨6, l.map Vs.x, []⟩) := Lib.hid (by rw [HE.out])
   go_wp2
   refine bodyPost_ret (v := .tuple #[.int .i64 6, .slice none 0 0]) (by simp [results, Tryz.results77, go_sem]) rfl ?_
   exact OneP.stay HG.out ((M3'.out.trans M5.out).alloc _) HE2.out (RdS.none _ _)
 | some val =>
   obtain ⟨pk, pn, ps⟩ := val
   have HE2 : Hid (oneG (l.map Vs.x) ⟨7, id, b, key, ⟨vk, vn, vs⟩⟩ = ⟨0, l.map Vs.x, [⟨pk, pn, ps⟩]⟩) := Lib.hid (by rw [HE.out])
   have M9 := Lib.hid ((M3'.out.trans M5.out).alloc (.cells #[.int .u8 (pk : Int), .int .i64 pn, .string ps] 68))
   obtain ⟨w9, hw9⟩ : ∃ w9, w9 = w5.alloc (.cells #[.int .u8 (pk : Int), .int .i64 pn, .string ps] 68) := ⟨_, rfl⟩
   have HW9 := Lib.hid hw9
   clear hw9
   go_wp2_with fail
   go_region
   all_goals
     go_wp2
     rw [← HW9.out]
     rw [← HW9.out] at M9
     first
       | refine bodyPost_ret (v := .tuple #[.int .i64 0, .slice (some ⟨w5.heap.size + 1, 0, none⟩) 1 1]) (by simp [results, Tryz.results77, go_sem]) rfl ?_
       | refine bodyPost_ret (v := .tuple #[.int .i64 0, .slice (some ⟨w9.heap.size, 0, none⟩) 1 1]) (by simp [results, Tryz.results77, go_sem]) rfl ?_
     have e9 : w5.heap.size + 1 = w9.heap.size := by rw [HW9.out]; simp
     rw [e9]
     exact OneP.stay HG.out (by repeat (first | exact M9.out | apply Mod.alloc | apply Mod.drewN | apply Mod.drew)) HE2.out (by first | exact (Seg.lit (size := 3) w9 #[.int .u8 (pk : Int), .int .i64 pn, .string ps] 1 rfl (by unfold maxLen; omega) (by simp [Value.oneCell'])).rdS | exact (Seg.lit (size := 3) w9 #[.int .u8 (pk : Int), .int .i64 pn, .string ps] 1 rfl (by unfold maxLen; omega) (by simp [Value.oneCell'])).rdS.keep ((Mod.refl (fun _ => False) _).drew) | exact (Seg.lit (size := 3) w9.drew #[.int .u8 (pk : Int), .int .i64 pn, .string ps] 1 rfl (by unfold maxLen; omega) (by simp [Value.oneCell'])).rdS)
open Go.RowKit
set_option maxRecDepth 100000 in
set_option maxHeartbeats 4000000 in
theorem one_8 (g : Nat) (v : Value) (l : List Vs) (a b key vk : Nat) (vn : Int) (vs : ByteArray) (w : World) (hg : GrAt w g v l) (ht : Tame l) (hf : Opr.Fits ⟨8, a, b, key, ⟨vk, vn, vs⟩⟩) (x : Vtx) (hfa : findV (l.map Vs.x) a = some x) :
   Calls Tryz.prog 77 #[.pointer (some ⟨g, 0, none⟩), .agg #[.int .u8 8, .int .u32 (a : Int), .int .u32 (b : Int), .int .u8 (key : Int), .int .u8 (vk : Int), .int .i64 vn, .string vs]] w (OneP g l ⟨8, a, b, key, ⟨vk, vn, vs⟩⟩ w) := by
 have HG := Lib.hid hg
 have HT := Lib.hid ht
 have HF := Lib.hid hf
 obtain ⟨W, hW⟩ : ∃ W, W = w.alloc (.cells #[.int .u8 8, .int .u32 (a : Int), .int .u32 (b : Int), .int .u8 (key : Int), .int .u8 (vk : Int), .int .i64 vn, .string vs] 82) := ⟨_, rfl⟩
 have HW := Lib.hid hW
 have hb : W.heap[w.heap.size]? = some (.cells #[.int .u8 8, .int .u32 (a : Int), .int .u32 (b : Int), .int .u8 (key : Int), .int .u8 (vk : Int), .int .i64 vn, .string vs] 82 (0, 0)) := by rw [hW]; exact heap_alloc_new' w _
 have HB := Lib.hid hb
 have c1 := cell_of_row hb 1
 have c2 := cell_of_row hb 2
 simp at c1 c2
 have c1 : ∀ x : MW W, x.w.cell? _ = some _ := fun x => x.cell c1
 have c2 : ∀ x : MW W, x.w.cell? _ = some _ := fun x => x.cell c2
 have HGW : Hid (GrAt W g v l) := Lib.hid (hg.keep (by rw [hW]; exact (Mod.refl _ _).alloc _))
 have HAT : Hid (∀ (x : MW W) (f : Nat), Calls Tryz.prog 75 #[.pointer (some ⟨g, 0, none⟩), .int .u32 (f : Int)] x.w fun e w' => e = .returned (.int .i64 (atI l f)) ∧ ∃ x' : MW W, w' = x'.w) := Lib.hid (fun x f => Calls.quietM (at_any g v l f x.w (HGW.out.keep x.mod)))
 clear hb hg ht hf
 go_enter Tryz.func77, Tryz.ntmps77
 go_wp2_with fail
 rw [← HW.out]
 clear hW
 refine wp_region_quietM (by kernel_rfl) (by kernel_rfl) ?_
 repeat (go_big_quiet_step ((go_at_call 75; exact HAT.out _ _)))
 refine wpQuiet_nil ?_
 intro w3 hm3
 have M3 := Lib.hid (MW.mod_of hm3)
 have M3' : Hid (Mod (fun _ => False) w w3) := Lib.hid (by have h : Mod (fun _ => False) w W := by { rw [HW.out]; exact (Mod.refl _ _).alloc _ }; exact h.trans M3.out)
 have hb3 := M3.out.heap HB.out (fun f => f)
 have HB3 := Lib.hid hb3
 have d0 := cell_of_row hb3 0
 have d1 := cell_of_row hb3 1
 have d2 := cell_of_row hb3 2
 have d3 := cell_of_row hb3 3
 have d4 := cell_of_row hb3 4
 have d5 := cell_of_row hb3 5
 have d6 := cell_of_row hb3 6
 have zo := lt_of_block hb3
 simp at d0 d1 d2 d3 d4 d5 d6
 clear hm3 c1 c2 HAT hb3
 generalize atI l b = ib
 obtain ⟨i, s, hi, hs, hsx, hid⟩ := find_some hfa
 rw [hi]
 have g0 := cell_of_row (HG.out.keep M3'.out).box 0
 simp at g0
 have zg := lt_of_block (HG.out.keep M3'.out).box
 obtain ⟨ag, cg, hve, hcg1, hcg2, -⟩ := HG.out.lst.row.shape
 subst hve
 obtain ⟨n, hn⟩ : ∃ n, n = l.length := ⟨_, rfl⟩
 have hin : i < n := by rw [hn]; exact (List.getElem?_eq_some_iff.1 hs).1
 have hin' : (i : Int) < (n : Int) := by omega
 have HN := Lib.hid hn
 rw [← hn] at g0 hcg1 HG
 clear hn
 obtain ⟨bl, offl, e0, hbl, r0, r1, r2, r3⟩ := HG.out.lst.ent hs rfl
 replace r0 := M3'.out.cell r0
 replace r1 := M3'.out.cell r1
 replace r2 := M3'.out.cell r2
 replace r3 := M3'.out.cell r3
 have zbl : bl < w3.heap.size := Nat.lt_of_lt_of_le hbl M3'.out.size
 subst e0
 have HS := Lib.hid hs
 have HVX := Lib.hid ((HG.out.lst.at hs).keep M3'.out)
 have HTH := Lib.hid (HT.out.each s (List.mem_of_getElem? hs))
 have HID := Lib.hid hid
 have HFA := Lib.hid hfa
 have hi0 := hi
 clear hs hbl hi hid hfa
 obtain ⟨⟨id, thr, xs, ys⟩, vp, vh⟩ := s
 simp only at hsx
 subst hsx
 obtain rfl : thr = true := HTH.out.1
 obtain rfl : id = a := HID.out
 obtain ⟨ap, cp, hvp, -⟩ := HVX.out.props.shape
 obtain ⟨ah, ch, hvh, -⟩ := HVX.out.halves.shape
 simp only at hvp hvh r0 r1 r2 r3 HVX HTH
 subst hvp hvh
 obtain ⟨np, hnp⟩ : ∃ np, np = xs.length := ⟨_, rfl⟩
 obtain ⟨nh, hnh⟩ : ∃ nh, nh = ys.length := ⟨_, rfl⟩
 rw [← hnp] at r2
 rw [← hnh] at r3
 have HNP := Lib.hid hnp
 have HNH := Lib.hid hnh
 obtain ⟨eb, heb⟩ : ∃ eb, eb = entX ys b := ⟨_, rfl⟩
 have HEB := Lib.hid heb
 have HHF : Hid (∀ w', Mod (fun _ => False) w3 w' → Calls Tryz.prog 27 #[.agg #[.int .u32 (id : Int), .bool true, .slice ap np cp, .slice ah nh ch], .int .u32 (b : Int)] w' fun e w'' => e = .returned (.tuple #[.agg #[.int .u8 ((eb.getD noVal).k : Int), .int .i64 (eb.getD noVal).n, .string (eb.getD noVal).s], .bool eb.isSome]) ∧ Mod (fun _ => False) w' w'') := Lib.hid (fun w' m => by
   have h := dhalf_any ⟨id, true, xs, ys⟩ (.slice ap np cp) (.slice ah nh ch) b w' (by rw [HNP.out, HNH.out]; exact HVX.out.keep m)
   simp only [vtxV, Val.v, ← HEB.out] at h
   exact h)
 rw [← hnp, ← hnh] at HVX
 rw [← hnp, ← hnh] at HS
 clear heb hnp hnh
 have HE : Hid (oneG (l.map Vs.x) ⟨8, id, b, key, ⟨vk, vn, vs⟩⟩ = ⟨0, l.map Vs.x, [⟨1, (nh : Int), ⟨#[]⟩⟩]⟩) := Lib.hid (by unfold oneG; simp only; rw [HFA.out, HNH.out]; simp)
 go_upto_region 11 with (go_at_call 27; refine (HHF.out _ ((Mod.refl (fun _ => False) w3).alloc _)).mono ?_; (rintro e w5 ⟨rfl, hm5⟩); have M5 := Lib.hid (((Mod.refl (fun _ => False) w3).alloc _).trans hm5); have hb5 := hm5.heap (heap_alloc_new' w3 _) (fun f => f); have HB5 := Lib.hid hb5; have e0 := cell_of_row hb5 0; have e1 := cell_of_row hb5 1; have e2 := cell_of_row hb5 2; have e3 := cell_of_row hb5 3; have z5 := lt_of_block hb5; simp at e0 e1 e2 e3; clear hm5 hb5; have d0 := M5.out.cell d0; have d1 := M5.out.cell d1; have d2 := M5.out.cell d2; have d3 := M5.out.cell d3; have d4 := M5.out.cell d4; have d5 := M5.out.cell d5; have d6 := M5.out.cell d6; have zo5 : w.heap.size < w5.heap.size := Nat.lt_of_lt_of_le zo M5.out.size; have zbl5 : bl < w5.heap.size := Nat.lt_of_lt_of_le zbl M5.out.size; have zg5 : g < w5.heap.size := Nat.lt_of_lt_of_le zg M5.out.size; have g0 := M5.out.cell g0)
 have M9 := Lib.hid ((M3'.out.trans M5.out).alloc (.cells #[.int .u8 ((eb.getD noVal).k : Int), .int .i64 (eb.getD noVal).n, .string (eb.getD noVal).s] 68))
 obtain ⟨w9, hw9⟩ : ∃ w9, w9 = w5.alloc (.cells #[.int .u8 ((eb.getD noVal).k : Int), .int .i64 (eb.getD noVal).n, .string (eb.getD noVal).s] 68) := ⟨_, rfl⟩
 have HW9 := Lib.hid hw9
 clear hw9
 go_wp2_with fail
 go_region
 all_goals
   go_wp2
   rw [← HW9.out]
   rw [← HW9.out] at M9
   first
     | refine bodyPost_ret (v := .tuple #[.int .i64 0, .slice (some ⟨w5.heap.size + 1, 0, none⟩) 1 1]) (by simp [results, Tryz.results77, go_sem]) rfl ?_
     | refine bodyPost_ret (v := .tuple #[.int .i64 0, .slice (some ⟨w9.heap.size, 0, none⟩) 1 1]) (by simp [results, Tryz.results77, go_sem]) rfl ?_
   have e9 : w5.heap.size + 1 = w9.heap.size := by rw [HW9.out]; simp
   rw [e9]
   exact OneP.stay HG.out (by repeat (first | exact M9.out | apply Mod.alloc | apply Mod.drewN | apply Mod.drew)) HE.out (by first | exact (Seg.lit (size := 3) w9 #[.int .u8 1, .int .i64 (nh : Int), .string ⟨#[]⟩] 1 rfl (by unfold maxLen; omega) (by simp [Value.oneCell'])).rdS | exact (Seg.lit (size := 3) w9 #[.int .u8 1, .int .i64 (nh : Int), .string ⟨#[]⟩] 1 rfl (by unfold maxLen; omega) (by simp [Value.oneCell'])).rdS.keep ((Mod.refl (fun _ => False) _).drew) | exact (Seg.lit (size := 3) w9.drew #[.int .u8 1, .int .i64 (nh : Int), .string ⟨#[]⟩] 1 rfl (by unfold maxLen; omega) (by simp [Value.oneCell'])).rdS)
open Go.RowKit
set_option maxRecDepth 100000 in
set_option maxHeartbeats 4000000 in
theorem one_9 (g : Nat) (v : Value) (l : List Vs) (a b key vk : Nat) (vn : Int) (vs : ByteArray) (w : World) (hg : GrAt w g v l) (ht : Tame l) (hf : Opr.Fits ⟨9, a, b, key, ⟨vk, vn, vs⟩⟩) (x : Vtx) (hfa : findV (l.map Vs.x) a = some x) :
   Calls Tryz.prog 77 #[.pointer (some ⟨g, 0, none⟩), .agg #[.int .u8 9, .int .u32 (a : Int), .int .u32 (b : Int), .int .u8 (key : Int), .int .u8 (vk : Int), .int .i64 vn, .string vs]] w (OneP g l ⟨9, a, b, key, ⟨vk, vn, vs⟩⟩ w) := by
 have HG := Lib.hid hg
 have HT := Lib.hid ht
 have HF := Lib.hid hf
 obtain ⟨W, hW⟩ : ∃ W, W = w.alloc (.cells #[.int .u8 9, .int .u32 (a : Int), .int .u32 (b : Int), .int .u8 (key : Int), .int .u8 (vk : Int), .int .i64 vn, .string vs] 82) := ⟨_, rfl⟩
 have HW := Lib.hid hW
 have hb : W.heap[w.heap.size]? = some (.cells #[.int .u8 9, .int .u32 (a : Int), .int .u32 (b : Int), .int .u8 (key : Int), .int .u8 (vk : Int), .int .i64 vn, .string vs] 82 (0, 0)) := by rw [hW]; exact heap_alloc_new' w _
 have HB := Lib.hid hb
 have c1 := cell_of_row hb 1
 have c2 := cell_of_row hb 2
 simp at c1 c2
 have c1 : ∀ x : MW W, x.w.cell? _ = some _ := fun x => x.cell c1
 have c2 : ∀ x : MW W, x.w.cell? _ = some _ := fun x => x.cell c2
 have HGW : Hid (GrAt W g v l) := Lib.hid (hg.keep (by rw [hW]; exact (Mod.refl _ _).alloc _))
 have HAT : Hid (∀ (x : MW W) (f : Nat), Calls Tryz.prog 75 #[.pointer (some ⟨g, 0, none⟩), .int .u32 (f : Int)] x.w fun e w' => e = .returned (.int .i64 (atI l f)) ∧ ∃ x' : MW W, w' = x'.w) := Lib.hid (fun x f => Calls.quietM (at_any g v l f x.w (HGW.out.keep x.mod)))
 clear hb hg ht hf
 go_enter Tryz.func77, Tryz.ntmps77
 go_wp2_with fail
 rw [← HW.out]
 clear hW
 refine wp_region_quietM (by kernel_rfl) (by kernel_rfl) ?_
 repeat (go_big_quiet_step ((go_at_call 75; exact HAT.out _ _)))
 refine wpQuiet_nil ?_
 intro w3 hm3
 have M3 := Lib.hid (MW.mod_of hm3)
 have M3' : Hid (Mod (fun _ => False) w w3) := Lib.hid (by have h : Mod (fun _ => False) w W := by { rw [HW.out]; exact (Mod.refl _ _).alloc _ }; exact h.trans M3.out)
 have hb3 := M3.out.heap HB.out (fun f => f)
 have HB3 := Lib.hid hb3
 have d0 := cell_of_row hb3 0
 have d1 := cell_of_row hb3 1
 have d2 := cell_of_row hb3 2
 have d3 := cell_of_row hb3 3
 have d4 := cell_of_row hb3 4
 have d5 := cell_of_row hb3 5
 have d6 := cell_of_row hb3 6
 have zo := lt_of_block hb3
 simp at d0 d1 d2 d3 d4 d5 d6
 clear hm3 c1 c2 HAT hb3
 generalize atI l b = ib
 obtain ⟨i, s, hi, hs, hsx, hid⟩ := find_some hfa
 rw [hi]
 have g0 := cell_of_row (HG.out.keep M3'.out).box 0
 simp at g0
 have zg := lt_of_block (HG.out.keep M3'.out).box
 obtain ⟨ag, cg, hve, hcg1, hcg2, -⟩ := HG.out.lst.row.shape
 subst hve
 obtain ⟨n, hn⟩ : ∃ n, n = l.length := ⟨_, rfl⟩
 have hin : i < n := by rw [hn]; exact (List.getElem?_eq_some_iff.1 hs).1
 have hin' : (i : Int) < (n : Int) := by omega
 have HN := Lib.hid hn
 rw [← hn] at g0 hcg1 HG
 clear hn
 obtain ⟨bl, offl, e0, hbl, r0, r1, r2, r3⟩ := HG.out.lst.ent hs rfl
 replace r0 := M3'.out.cell r0
 replace r1 := M3'.out.cell r1
 replace r2 := M3'.out.cell r2
 replace r3 := M3'.out.cell r3
 have zbl : bl < w3.heap.size := Nat.lt_of_lt_of_le hbl M3'.out.size
 subst e0
 have HS := Lib.hid hs
 have HVX := Lib.hid ((HG.out.lst.at hs).keep M3'.out)
 have HTH := Lib.hid (HT.out.each s (List.mem_of_getElem? hs))
 have HID := Lib.hid hid
 have HFA := Lib.hid hfa
 have hi0 := hi
 clear hs hbl hi hid hfa
 obtain ⟨⟨id, thr, xs, ys⟩, vp, vh⟩ := s
 simp only at hsx
 subst hsx
 obtain rfl : thr = true := HTH.out.1
 obtain rfl : id = a := HID.out
 obtain ⟨ap, cp, hvp, -⟩ := HVX.out.props.shape
 obtain ⟨ah, ch, hvh, -⟩ := HVX.out.halves.shape
 simp only at hvp hvh r0 r1 r2 r3 HVX HTH
 subst hvp hvh
 obtain ⟨np, hnp⟩ : ∃ np, np = xs.length := ⟨_, rfl⟩
 obtain ⟨nh, hnh⟩ : ∃ nh, nh = ys.length := ⟨_, rfl⟩
 rw [← hnp] at r2
 rw [← hnh] at r3
 have HNP := Lib.hid hnp
 have HNH := Lib.hid hnh
 obtain ⟨eb, heb⟩ : ∃ eb, eb = entX ys b := ⟨_, rfl⟩
 have HEB := Lib.hid heb
 have HHF : Hid (∀ w', Mod (fun _ => False) w3 w' → Calls Tryz.prog 27 #[.agg #[.int .u32 (id : Int), .bool true, .slice ap np cp, .slice ah nh ch], .int .u32 (b : Int)] w' fun e w'' => e = .returned (.tuple #[.agg #[.int .u8 ((eb.getD noVal).k : Int), .int .i64 (eb.getD noVal).n, .string (eb.getD noVal).s], .bool eb.isSome]) ∧ Mod (fun _ => False) w' w'') := Lib.hid (fun w' m => by
   have h := dhalf_any ⟨id, true, xs, ys⟩ (.slice ap np cp) (.slice ah nh ch) b w' (by rw [HNP.out, HNH.out]; exact HVX.out.keep m)
   simp only [vtxV, Val.v, ← HEB.out] at h
   exact h)
 rw [← hnp, ← hnh] at HVX
 rw [← hnp, ← hnh] at HS
 clear heb hnp hnh
 have HE : Hid (oneG (l.map Vs.x) ⟨9, id, b, key, ⟨vk, vn, vs⟩⟩ = if propV ⟨id, true, xs, ys⟩ key = ⟨vk, vn, vs⟩ then ⟨0, l.map Vs.x, []⟩ else ⟨9, l.map Vs.x, []⟩) := Lib.hid (by unfold oneG; simp only; rw [HFA.out]; simp)
 go_upto_region 11 with (go_at_call 27; refine (HHF.out _ ((Mod.refl (fun _ => False) w3).alloc _)).mono ?_; (rintro e w5 ⟨rfl, hm5⟩); have M5 := Lib.hid (((Mod.refl (fun _ => False) w3).alloc _).trans hm5); have hb5 := hm5.heap (heap_alloc_new' w3 _) (fun f => f); have HB5 := Lib.hid hb5; have e0 := cell_of_row hb5 0; have e1 := cell_of_row hb5 1; have e2 := cell_of_row hb5 2; have e3 := cell_of_row hb5 3; have z5 := lt_of_block hb5; simp at e0 e1 e2 e3; clear hm5 hb5; have d0 := M5.out.cell d0; have d1 := M5.out.cell d1; have d2 := M5.out.cell d2; have d3 := M5.out.cell d3; have d4 := M5.out.cell d4; have d5 := M5.out.cell d5; have d6 := M5.out.cell d6; have zo5 : w.heap.size < w5.heap.size := Nat.lt_of_lt_of_le zo M5.out.size; have zbl5 : bl < w5.heap.size := Nat.lt_of_lt_of_le zbl M5.out.size; have zg5 : g < w5.heap.size := Nat.lt_of_lt_of_le zg M5.out.size; have g0 := M5.out.cell g0)
 have M9 := Lib.hid ((M3'.out.trans M5.out).alloc (.cells #[.int .u8 ((eb.getD noVal).k : Int), .int .i64 (eb.getD noVal).n, .string (eb.getD noVal).s] 68))
 obtain ⟨w9, hw9⟩ : ∃ w9, w9 = w5.alloc (.cells #[.int .u8 ((eb.getD noVal).k : Int), .int .i64 (eb.getD noVal).n, .string (eb.getD noVal).s] 68) := ⟨_, rfl⟩
 have HW9 := Lib.hid hw9
 have HB9 : Hid (w9.heap[w.heap.size]? = some (.cells #[.int .u8 9, .int .u32 (id : Int), .int .u32 (b : Int), .int .u8 (key : Int), .int .u8 (vk : Int), .int .i64 vn, .string vs] 82 (0, 0))) := Lib.hid (by rw [hw9]; exact ((Mod.refl (fun _ => False) w5).alloc _).heap (M5.out.heap HB3.out (fun f => f)) (fun f => f))
 rw [← hw9] at M9
 have E9 : Hid (w9.heap[w5.heap.size - 1]? = w9.heap[w5.heap.size - 1]?) := Lib.hid rfl
 obtain ⟨pv, hpv⟩ : ∃ pv, pv = propV ⟨id, true, xs, ys⟩ key := ⟨_, rfl⟩
 rw [← hpv] at HE
 have HSP : Hid (∀ (x : MW w9), Calls Tryz.prog 95 #[.agg #[.int .u32 (id : Int), .bool true, .slice ap np cp, .slice ah nh ch], .int .u8 (key : Int)] x.w fun e w' => e = .returned (.agg #[.int .u8 (pv.k : Int), .int .i64 pv.n, .string pv.s]) ∧ ∃ x' : MW w9, w' = x'.w) := Lib.hid (fun x => by
   have h := dprop_any ⟨id, true, xs, ys⟩ (.slice ap np cp) (.slice ah nh ch) key x.w (by rw [HNP.out, HNH.out]; rw [HNP.out, HNH.out] at HVX; exact ((HVX.out.keep M5.out).keep ((Mod.refl _ _).alloc (.cells #[.int .u8 ((eb.getD noVal).k : Int), .int .i64 (eb.getD noVal).n, .string (eb.getD noVal).s] 68))).keep (by rw [← hw9]; exact x.mod))
   simp only [vtxV, Val.v] at h
   have e : (entX xs key).getD noVal = pv := by rw [hpv]; rfl
   rw [e] at h
   exact Calls.quietM h)
 have BX9 : Hid (w9.heap[w3.heap.size]? = some (.cells #[.int .u32 (id : Int), .bool true, .slice ap np cp, .slice ah nh ch] 47 (0, 0))) := Lib.hid (by rw [hw9]; exact ((Mod.refl (fun _ => False) w5).alloc _).heap HB5.out (fun f => f))
 have c3 := cell_of_row HB9.out 3
 have c4 := cell_of_row HB9.out 4
 have c5 := cell_of_row HB9.out 5
 have c6 := cell_of_row HB9.out 6
 have b0 := cell_of_row BX9.out 0
 have b1 := cell_of_row BX9.out 1
 have b2 := cell_of_row BX9.out 2
 have b3 := cell_of_row BX9.out 3
 simp at c3 c4 c5 c6 b0 b1 b2 b3
 have c3 : ∀ x : MW w9, x.w.cell? _ = some _ := fun x => x.cell c3
 have c4 : ∀ x : MW w9, x.w.cell? _ = some _ := fun x => x.cell c4
 have c5 : ∀ x : MW w9, x.w.cell? _ = some _ := fun x => x.cell c5
 have c6 : ∀ x : MW w9, x.w.cell? _ = some _ := fun x => x.cell c6
 have b0 : ∀ x : MW w9, x.w.cell? _ = some _ := fun x => x.cell b0
 have b1 : ∀ x : MW w9, x.w.cell? _ = some _ := fun x => x.cell b1
 have b2 : ∀ x : MW w9, x.w.cell? _ = some _ := fun x => x.cell b2
 have b3 : ∀ x : MW w9, x.w.cell? _ = some _ := fun x => x.cell b3
 clear hw9 hpv d1 d2 d3 d4 d5 d6 e0 e1 e2 e3 HHF
 go_wp2_with fail
 rw [← HW9.out]
 obtain ⟨pk, pn, ps⟩ := pv
 simp only at HSP
 by_cases h1 : pk = vk
 · subst h1
   by_cases h2 : pn = vn
   · subst h2
     by_cases h3 : ps = vs
     · subst h3
       have HE2 := Lib.hid (HE.out.trans (if_pos rfl))
       refine wp_region_quietM (by kernel_rfl) (by kernel_rfl) ?_
       repeat (go_big_quiet_step ((go_at_call 95; exact HSP.out _)))
       refine wpQuiet_nil ?_
       intro w6 hm6
       have M6 := Lib.hid (M9.out.trans (MW.mod_of hm6))
       clear hm6 c3 c4 c5 c6 b0 b1 b2 b3
       go_wp2
       refine bodyPost_ret (v := .tuple #[.int .i64 0, .slice none 0 0]) (by simp [results, Tryz.results77, go_sem]) rfl ?_
       exact OneP.stay HG.out M6.out HE2.out (RdS.none _ _)
     · have HE2 := Lib.hid (HE.out.trans (if_neg (by rw [Val.mk.injEq]; exact fun h => h3 h.2.2)))
       have f2 : ¬ ps.toList = vs.toList := fun e => h3 (toList_inj e)
       refine wp_region_quietM (by kernel_rfl) (by kernel_rfl) ?_
       repeat (go_big_quiet_step ((go_at_call 95; exact HSP.out _)))
       refine wpQuiet_nil ?_
       intro w6 hm6
       have M6 := Lib.hid (M9.out.trans (MW.mod_of hm6))
       clear hm6 c3 c4 c5 c6 b0 b1 b2 b3
       go_wp2
       refine bodyPost_ret (v := .tuple #[.int .i64 9, .slice none 0 0]) (by simp [results, Tryz.results77, go_sem]) rfl ?_
       exact OneP.stay HG.out M6.out HE2.out (RdS.none _ _)
   · have HE2 := Lib.hid (HE.out.trans (if_neg (by rw [Val.mk.injEq]; exact fun h => h2 h.2.1)))
     have f1 : (pn == vn) = false := by simpa using h2
     refine wp_region_quietM (by kernel_rfl) (by kernel_rfl) ?_
     repeat (go_big_quiet_step ((go_at_call 95; exact HSP.out _)))
     refine wpQuiet_nil ?_
     intro w6 hm6
     have M6 := Lib.hid (M9.out.trans (MW.mod_of hm6))
     clear hm6 c3 c4 c5 c6 b0 b1 b2 b3
     go_wp2
     refine bodyPost_ret (v := .tuple #[.int .i64 9, .slice none 0 0]) (by simp [results, Tryz.results77, go_sem]) rfl ?_
     exact OneP.stay HG.out M6.out HE2.out (RdS.none _ _)
 · have HE2 := Lib.hid (HE.out.trans (if_neg (by rw [Val.mk.injEq]; exact fun h => h1 h.1)))
   have f1 : ((pk : Int) == (vk : Int)) = false := by simp; omega
   have f2 : ¬ (pk : Int) = (vk : Int) := by omega
   refine wp_region_quietM (by kernel_rfl) (by kernel_rfl) ?_
   repeat (go_big_quiet_step ((go_at_call 95; exact HSP.out _)))
   refine wpQuiet_nil ?_
   intro w6 hm6
   have M6 := Lib.hid (M9.out.trans (MW.mod_of hm6))
   clear hm6 c3 c4 c5 c6 b0 b1 b2 b3
   go_wp2
   refine bodyPost_ret (v := .tuple #[.int .i64 9, .slice none 0 0]) (by simp [results, Tryz.results77, go_sem]) rfl ?_
   exact OneP.stay HG.out M6.out HE2.out (RdS.none _ _)
open Go.RowKit
theorem one_any (g : Nat) (v : Value) (l : List Vs) (o : Opr) (w : World) (hg : GrAt w g v l) (ht : Tame l) (hf : o.Fits) (ho : opOK o = true) :
   Calls Tryz.prog 77 #[.pointer (some ⟨g, 0, none⟩), o.v] w (OneP g l o w) := by
 obtain ⟨hk, -, hab, -, -⟩ := opOK_parts ho
 obtain ⟨kind, a, b, key, vk, vn, vs⟩ := o
 simp only at hk
 cases ha : findV (l.map Vs.x) a with
 | none =>
   by_cases h1 : kind = 1
   · subst h1; exact one_1 g v l a b key vk vn vs w hg ht hf
   · exact one_none g v l kind a b key vk vn vs w hg ht hf h1 ha
 | some x =>
   have hks : kind = 1 ∨ kind = 2 ∨ kind = 3 ∨ kind = 4 ∨ kind = 5 ∨ kind = 6 ∨ kind = 7 ∨ kind = 8 ∨ kind = 9 := by omega
   rcases hks with rfl | rfl | rfl | rfl | rfl | rfl | rfl | rfl | rfl
   · exact one_1 g v l a b key vk vn vs w hg ht hf
   · exact one_2 g v l a b key vk vn vs w hg ht hf x ha
   · exact one_3 g v l a b key vk vn vs w hg ht hf x ha
   · exact one_4 g v l a b key vk vn vs w hg ht hf x ha
   · cases hb : findV (l.map Vs.x) b with
     | none => exact one_5none g v l a b key vk vn vs w hg ht hf x ha hb
     | some u => exact one_5 g v l a b key vk vn vs w hg ht hf x ha u hb
   · cases hb : findV (l.map Vs.x) b with
     | none => exact one_6a g v l a b key vk vn vs w hg ht hf x ha hb
     | some u => exact one_6b g v l a b key vk vn vs w hg ht hf x ha u hb (Lib.hid (fun e => (hab (by simp [Opr.two])).2 e.symm))
   · exact one_7 g v l a b key vk vn vs w hg ht hf x ha
   · exact one_8 g v l a b key vk vn vs w hg ht hf x ha
   · exact one_9 g v l a b key vk vn vs w hg ht hf x ha
end Go.Proofs.YtlpdifinkcjckaaGreatDoor
