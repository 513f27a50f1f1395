import Derived.Test.YtpigipgoopeeoaaGreatDoorMCBegCOrdCVer00
import Derived.Test.YtpigipgoopeeoaaGreatDoorMCOrd00
set_option linter.unusedVariables false
set_option linter.unusedSimpArgs false
namespace Go.Proofs.YtpigipgoopeeoaaGreatDoor
open Go.RowKit Go.Maps
theorem em_oneD (W : World) (A : Obj) : (W.alloc A).drew.heap[W.heap.size]? = some A := heap_alloc_new' W A
theorem em_firstD (W : World) (A B : Obj) : ((W.alloc A).alloc B).drew.heap[W.heap.size]? = some A := heap_alloc_old' (W.alloc A) B _ (by simp) |>.trans (em_oneD W A)
theorem em_secondD (W : World) (A B : Obj) : ((W.alloc A).alloc B).drew.heap[W.heap.size + 1]? = some B := by
 have h := heap_alloc_new' (W.alloc A) B
 have h2 : ((W.alloc A).alloc B).heap[W.heap.size + 1]? = some B := by simpa using h
 exact h2
theorem crd_block {w : World} {b : Nat} {c : Cm} {t : TypeId} (h : w.heap[b]? = some (.cells c.c13.toArray t (0, 0))) (hr : c.Rd w) : CRd Cm.c13 13 w (.slice (some ⟨b, 0, none⟩) 1 1) [c] := by
 refine ⟨⟨rfl, ⟨_, _, rfl, Nat.le_refl _, by omega, fun hb => by cases hb⟩, fun a k e j u hu => ?_⟩, fun x hx => by rw [List.mem_singleton] at hx; rw [hx]; exact hr⟩
 injection e with e1 e2 e3
 subst e1
 refine ⟨b, 0, rfl, lt_of_block h, ?_⟩
 rw [Nat.zero_add, cell_of_row h]
 simpa using hu
theorem one_of_map {ms : List Cm} {x : Cx} (h : ms.map Cm.x = [x]) : ∃ m, ms = [m] ∧ m.x = x := by
 match ms, h with
 | [m], h => exact ⟨m, rfl, by simpa using h⟩
set_option maxRecDepth 100000 in
set_option maxHeartbeats 16000000 in
theorem corders_main (x y : Cm) (w : World) (hx : x.Rd w) (hy : y.Rd w) (hsx : x.Small) (hsy : y.Small) (hg : ErrT w) :
   Calls Tryz.prog 7 #[.agg x.c13.toArray, .agg y.c13.toArray] w fun e w' => e = .returned (.bool true) ∧ Mod (fun _ => False) w w' := by
 have HAW : Hid (∀ w', Mod (fun _ => False) w w' → Calls Tryz.prog 8 #[] w' fun e w'' => e = .returned (.bool true) ∧ Mod (fun _ => False) w' w'') := Lib.hid (fun w' m => cawake_any w' (hg.keep m (fun f => f)))
 have HQ0 : Hid (∀ (c : Cm) b w', c.Rd w' → c.Small → w'.heap[b]? = some (.cells c.c13.toArray 44 (0, 0)) → Calls Tryz.prog 12 #[.slice (some ⟨b, 0, none⟩) 1 1] w' fun e w'' => ∃ a k m, e = .returned (.slice a 1 k) ∧ Mod (fun _ => False) w' w'' ∧ CRd Cm.c13 13 w'' (.slice a 1 k) [m] ∧ m.x = c.x) := Lib.hid (fun c b w' hr hs hb => (replies_any _ [c] w' (crd_block hb hr) (by simpa using hs) (by show 1 ≤ 4096; decide)).mono (by
   rintro e w'' ⟨u, ms, rfl, h1, h2⟩
   obtain ⟨m, rfl, hm⟩ := one_of_map h2
   obtain ⟨a, k, rfl, -⟩ := h1.row.rdS.shape
   exact ⟨a, k, m, rfl, h1.mod, h1.crd, hm⟩))
 have HOR : Hid (∀ (a b : Cm) w', a.Rd w' → b.Rd w' → Calls Tryz.prog 21 #[.agg a.c13.toArray, .agg b.c13.toArray] w' fun e w'' => e = .returned (.int .i64 (ordersI a.x.fr a.x.to_ b.x.fr b.x.to_)) ∧ Mod (fun _ => False) w' w'') := Lib.hid (fun a b w' h1 h2 => orders_any a b w' h1 h2)
 have HX := Lib.hid hx
 have HY := Lib.hid hy
 have HQX : Hid (∀ b w', w'.heap[b]? = some (.cells x.c13.toArray 44 (0, 0)) → Mod (fun _ => False) ((w.alloc (.cells x.c13.toArray 44)).alloc (.cells y.c13.toArray 44)) w' → Calls Tryz.prog 12 #[.slice (some ⟨b, 0, none⟩) 1 1] w' fun e w'' => ∃ a k m, e = .returned (.slice a 1 k) ∧ Mod (fun _ => False) w' w'' ∧ CRd Cm.c13 13 w'' (.slice a 1 k) [m] ∧ m.x = x.x) := Lib.hid (fun b w' hb m => HQ0.out x b w' (hx.keep ((((Mod.refl _ _).alloc _).alloc _).trans m)) hsx hb)
 have HQY : Hid (∀ b w', w'.heap[b]? = some (.cells y.c13.toArray 44 (0, 0)) → Mod (fun _ => False) ((w.alloc (.cells x.c13.toArray 44)).alloc (.cells y.c13.toArray 44)) w' → Calls Tryz.prog 12 #[.slice (some ⟨b, 0, none⟩) 1 1] w' fun e w'' => ∃ a k m, e = .returned (.slice a 1 k) ∧ Mod (fun _ => False) w' w'' ∧ CRd Cm.c13 13 w'' (.slice a 1 k) [m] ∧ m.x = y.x) := Lib.hid (fun b w' hb m => HQ0.out y b w' (hy.keep ((((Mod.refl _ _).alloc _).alloc _).trans m)) hsy hb)
 obtain ⟨ao, co, hvo⟩ := hx.vo_eq
 obtain ⟨av, cv, hvv⟩ := hx.vv_eq
 obtain ⟨al, cl, hvl⟩ := hx.vl_eq
 obtain ⟨yo, yoc, gvo⟩ := hy.vo_eq
 obtain ⟨yv, yvc, gvv⟩ := hy.vv_eq
 obtain ⟨yl, ylc, gvl⟩ := hy.vl_eq
 obtain ⟨xx, hxx⟩ : ∃ z, z = x.x := ⟨_, rfl⟩
 obtain ⟨yy, hyy⟩ : ∃ z, z = y.x := ⟨_, rfl⟩
 rw [← hxx] at HQX
 rw [← hyy] at HQY
 have HXX := Lib.hid hxx
 have HYY := Lib.hid hyy
 clear hx hy hxx hyy hsx hsy HQ0 hg
 obtain ⟨⟨xc, xq, ⟨kind, ops, rv, rk, rd⟩, ae, ap, vals, list, fr, to_⟩, vo, vv, vl⟩ := x
 obtain ⟨⟨yc, yq, ⟨ykind, yops, yrv, yrk, yrd⟩, ye, yp, yvals, ylist, yfr, yto⟩, yvo, yvv, yvl⟩ := y
 simp only at hvo hvv hvl gvo gvv gvl HXX HYY
 subst hvo hvv hvl gvo gvv gvl
 obtain ⟨no, hno⟩ : ∃ n, n = ops.length := ⟨_, rfl⟩
 obtain ⟨nv, hnv⟩ : ∃ n, n = vals.length := ⟨_, rfl⟩
 obtain ⟨nl, hnl⟩ : ∃ n, n = list.length := ⟨_, rfl⟩
 obtain ⟨yno, hyno⟩ : ∃ n, n = yops.length := ⟨_, rfl⟩
 obtain ⟨ynv, hynv⟩ : ∃ n, n = yvals.length := ⟨_, rfl⟩
 obtain ⟨ynl, hynl⟩ : ∃ n, n = ylist.length := ⟨_, rfl⟩
 simp only [Cm.c13, ← hno, ← hnv, ← hnl, ← hyno, ← hynv, ← hynl] at HQX HQY ⊢
 clear hno hnv hnl hyno hynv hynl HX HY
 obtain ⟨W0, hW0⟩ : ∃ W0, W0 = ((w.alloc (.cells #[.int .u8 (xc : Int), .int .u32 (xq : Int), .int .u8 (kind : Int), .slice ao no co, .int .u32 (rv : Int), .int .i64 rk, .int .i64 rd, .int .i64 ae, .int .i64 ap, .slice av nv cv, .slice al nl cl, .int .i64 fr, .int .i64 to_] 44)).alloc (.cells #[.int .u8 (yc : Int), .int .u32 (yq : Int), .int .u8 (ykind : Int), .slice yo yno yoc, .int .u32 (yrv : Int), .int .i64 yrk, .int .i64 yrd, .int .i64 ye, .int .i64 yp, .slice yv ynv yvc, .slice yl ynl ylc, .int .i64 yfr, .int .i64 yto] 44)) := ⟨_, rfl⟩
 rw [← hW0] at HQX HQY
 have HM0 : Hid (Mod (fun _ => False) w W0) := Lib.hid (by rw [hW0]; exact ((Mod.refl _ _).alloc _).alloc _)
 have HB5 : Hid (W0.heap[w.heap.size]? = some (.cells #[.int .u8 (xc : Int), .int .u32 (xq : Int), .int .u8 (kind : Int), .slice ao no co, .int .u32 (rv : Int), .int .i64 rk, .int .i64 rd, .int .i64 ae, .int .i64 ap, .slice av nv cv, .slice al nl cl, .int .i64 fr, .int .i64 to_] 44 (0, 0))) := Lib.hid (by rw [hW0]; exact heap_alloc_old (heap_alloc_new' _ _))
 have HB6 : Hid (W0.heap[w.heap.size + 1]? = some (.cells #[.int .u8 (yc : Int), .int .u32 (yq : Int), .int .u8 (ykind : Int), .slice yo yno yoc, .int .u32 (yrv : Int), .int .i64 yrk, .int .i64 yrd, .int .i64 ye, .int .i64 yp, .slice yv ynv yvc, .slice yl ynl ylc, .int .i64 yfr, .int .i64 yto] 44 (0, 0))) := Lib.hid (by
   rw [hW0]
   have h := heap_alloc_new' (w.alloc (.cells #[.int .u8 (xc : Int), .int .u32 (xq : Int), .int .u8 (kind : Int), .slice ao no co, .int .u32 (rv : Int), .int .i64 rk, .int .i64 rd, .int .i64 ae, .int .i64 ap, .slice av nv cv, .slice al nl cl, .int .i64 fr, .int .i64 to_] 44)) (.cells #[.int .u8 (yc : Int), .int .u32 (yq : Int), .int .u8 (ykind : Int), .slice yo yno yoc, .int .u32 (yrv : Int), .int .i64 yrk, .int .i64 yrd, .int .i64 ye, .int .i64 yp, .slice yv ynv yvc, .slice yl ynl ylc, .int .i64 yfr, .int .i64 yto] 44)
   simpa using h)
 have HKEEP : Hid (∀ w', Mod (fun _ => False) W0 w' → (fun w' : World => w'.cell? ⟨w.heap.size, 0, none⟩ = some (.int .u8 (xc : Int)) ∧ w'.cell? ⟨w.heap.size, 1, none⟩ = some (.int .u32 (xq : Int)) ∧ w'.cell? ⟨w.heap.size, 2, none⟩ = some (.int .u8 (kind : Int)) ∧ w'.cell? ⟨w.heap.size, 3, none⟩ = some (.slice ao no co) ∧ w'.cell? ⟨w.heap.size, 4, none⟩ = some (.int .u32 (rv : Int)) ∧ w'.cell? ⟨w.heap.size, 5, none⟩ = some (.int .i64 rk) ∧ w'.cell? ⟨w.heap.size, 6, none⟩ = some (.int .i64 rd) ∧ w'.cell? ⟨w.heap.size, 7, none⟩ = some (.int .i64 ae) ∧ w'.cell? ⟨w.heap.size, 8, none⟩ = some (.int .i64 ap) ∧ w'.cell? ⟨w.heap.size, 9, none⟩ = some (.slice av nv cv) ∧ w'.cell? ⟨w.heap.size, 10, none⟩ = some (.slice al nl cl) ∧ w'.cell? ⟨w.heap.size, 11, none⟩ = some (.int .i64 fr) ∧ w'.cell? ⟨w.heap.size, 12, none⟩ = some (.int .i64 to_) ∧ w'.cell? ⟨w.heap.size + 1, 0, none⟩ = some (.int .u8 (yc : Int)) ∧ w'.cell? ⟨w.heap.size + 1, 1, none⟩ = some (.int .u32 (yq : Int)) ∧ w'.cell? ⟨w.heap.size + 1, 2, none⟩ = some (.int .u8 (ykind : Int)) ∧ w'.cell? ⟨w.heap.size + 1, 3, none⟩ = some (.slice yo yno yoc) ∧ w'.cell? ⟨w.heap.size + 1, 4, none⟩ = some (.int .u32 (yrv : Int)) ∧ w'.cell? ⟨w.heap.size + 1, 5, none⟩ = some (.int .i64 yrk) ∧ w'.cell? ⟨w.heap.size + 1, 6, none⟩ = some (.int .i64 yrd) ∧ w'.cell? ⟨w.heap.size + 1, 7, none⟩ = some (.int .i64 ye) ∧ w'.cell? ⟨w.heap.size + 1, 8, none⟩ = some (.int .i64 yp) ∧ w'.cell? ⟨w.heap.size + 1, 9, none⟩ = some (.slice yv ynv yvc) ∧ w'.cell? ⟨w.heap.size + 1, 10, none⟩ = some (.slice yl ynl ylc) ∧ w'.cell? ⟨w.heap.size + 1, 11, none⟩ = some (.int .i64 yfr) ∧ w'.cell? ⟨w.heap.size + 1, 12, none⟩ = some (.int .i64 yto)) w') := Lib.hid (fun w' mm => by
   have h5 := mm.heap HB5.out (fun f => f)
   have h6 := mm.heap HB6.out (fun f => f)
   exact ⟨cell_of_row h5 0, cell_of_row h5 1, cell_of_row h5 2, cell_of_row h5 3, cell_of_row h5 4, cell_of_row h5 5, cell_of_row h5 6, cell_of_row h5 7, cell_of_row h5 8, cell_of_row h5 9, cell_of_row h5 10, cell_of_row h5 11, cell_of_row h5 12, cell_of_row h6 0, cell_of_row h6 1, cell_of_row h6 2, cell_of_row h6 3, cell_of_row h6 4, cell_of_row h6 5, cell_of_row h6 6, cell_of_row h6 7, cell_of_row h6 8, cell_of_row h6 9, cell_of_row h6 10, cell_of_row h6 11, cell_of_row h6 12⟩)
 go_enter Tryz.func7, Tryz.ntmps7
 go_upto_region 1 with fail
 rw [← hW0]
 clear hW0
 go_upto_region 3 with (go_at_call 8; refine (HAW.out _ HM0.out).mono ?_; (rintro e W1 ⟨rfl, hm1⟩); have HM1 := Lib.hid hm1; clear hm1)
 replace HQX : Hid (∀ b w', w'.heap[b]? = some (.cells #[.int .u8 (xc : Int), .int .u32 (xq : Int), .int .u8 (kind : Int), .slice ao no co, .int .u32 (rv : Int), .int .i64 rk, .int .i64 rd, .int .i64 ae, .int .i64 ap, .slice av nv cv, .slice al nl cl, .int .i64 fr, .int .i64 to_] 44 (0, 0)) → Mod (fun _ => False) W1 w' → Calls Tryz.prog 12 #[.slice (some ⟨b, 0, none⟩) 1 1] w' fun e w'' => ∃ a k m, e = .returned (.slice a 1 k) ∧ Mod (fun _ => False) w' w'' ∧ CRd Cm.c13 13 w'' (.slice a 1 k) [m] ∧ m.x = xx) := Lib.hid (fun b w' hb m => HQX.out b w' hb (HM1.out.trans m))
 replace HQY : Hid (∀ b w', w'.heap[b]? = some (.cells #[.int .u8 (yc : Int), .int .u32 (yq : Int), .int .u8 (ykind : Int), .slice yo yno yoc, .int .u32 (yrv : Int), .int .i64 yrk, .int .i64 yrd, .int .i64 ye, .int .i64 yp, .slice yv ynv yvc, .slice yl ynl ylc, .int .i64 yfr, .int .i64 yto] 44 (0, 0)) → Mod (fun _ => False) W1 w' → Calls Tryz.prog 12 #[.slice (some ⟨b, 0, none⟩) 1 1] w' fun e w'' => ∃ a k m, e = .returned (.slice a 1 k) ∧ Mod (fun _ => False) w' w'' ∧ CRd Cm.c13 13 w'' (.slice a 1 k) [m] ∧ m.x = yy) := Lib.hid (fun b w' hb m => HQY.out b w' hb (HM1.out.trans m))
 obtain ⟨k0, k1, k2, k3, k4, k5, k6, k7, k8, k9, k10, k11, k12, k13, k14, k15, k16, k17, k18, k19, k20, k21, k22, k23, k24, k25⟩ := HKEEP.out W1.drew HM1.out.drew
 go_cut [5, 6] (fun p p' wx => ∃ ax cx mx ay cy my, p = .slice ax 1 cx ∧ p' = .slice ay 1 cy ∧ CRd Cm.c13 13 wx (.slice ax 1 cx) [mx] ∧ mx.x = xx ∧ CRd Cm.c13 13 wx (.slice ay 1 cy) [my] ∧ my.x = yy ∧ Mod (fun _ => False) W1 wx)
 case first =>
   go_wp2_with fail
   go_region_held3 (fun w' => w'.cell? ⟨w.heap.size, 0, none⟩ = some (.int .u8 (xc : Int)) ∧ w'.cell? ⟨w.heap.size, 1, none⟩ = some (.int .u32 (xq : Int)) ∧ w'.cell? ⟨w.heap.size, 2, none⟩ = some (.int .u8 (kind : Int)) ∧ w'.cell? ⟨w.heap.size, 3, none⟩ = some (.slice ao no co) ∧ w'.cell? ⟨w.heap.size, 4, none⟩ = some (.int .u32 (rv : Int)) ∧ w'.cell? ⟨w.heap.size, 5, none⟩ = some (.int .i64 rk) ∧ w'.cell? ⟨w.heap.size, 6, none⟩ = some (.int .i64 rd) ∧ w'.cell? ⟨w.heap.size, 7, none⟩ = some (.int .i64 ae) ∧ w'.cell? ⟨w.heap.size, 8, none⟩ = some (.int .i64 ap) ∧ w'.cell? ⟨w.heap.size, 9, none⟩ = some (.slice av nv cv) ∧ w'.cell? ⟨w.heap.size, 10, none⟩ = some (.slice al nl cl) ∧ w'.cell? ⟨w.heap.size, 11, none⟩ = some (.int .i64 fr) ∧ w'.cell? ⟨w.heap.size, 12, none⟩ = some (.int .i64 to_) ∧ w'.cell? ⟨w.heap.size + 1, 0, none⟩ = some (.int .u8 (yc : Int)) ∧ w'.cell? ⟨w.heap.size + 1, 1, none⟩ = some (.int .u32 (yq : Int)) ∧ w'.cell? ⟨w.heap.size + 1, 2, none⟩ = some (.int .u8 (ykind : Int)) ∧ w'.cell? ⟨w.heap.size + 1, 3, none⟩ = some (.slice yo yno yoc) ∧ w'.cell? ⟨w.heap.size + 1, 4, none⟩ = some (.int .u32 (yrv : Int)) ∧ w'.cell? ⟨w.heap.size + 1, 5, none⟩ = some (.int .i64 yrk) ∧ w'.cell? ⟨w.heap.size + 1, 6, none⟩ = some (.int .i64 yrd) ∧ w'.cell? ⟨w.heap.size + 1, 7, none⟩ = some (.int .i64 ye) ∧ w'.cell? ⟨w.heap.size + 1, 8, none⟩ = some (.int .i64 yp) ∧ w'.cell? ⟨w.heap.size + 1, 9, none⟩ = some (.slice yv ynv yvc) ∧ w'.cell? ⟨w.heap.size + 1, 10, none⟩ = some (.slice yl ynl ylc) ∧ w'.cell? ⟨w.heap.size + 1, 11, none⟩ = some (.int .i64 yfr) ∧ w'.cell? ⟨w.heap.size + 1, 12, none⟩ = some (.int .i64 yto))
     (first
       | (with_reducible exact HKEEP.out _ (HM1.out.trans HMC.out))
       | (with_reducible exact HKEEP.out _ (HM1.out.trans (HMC.out.alloc _)))
       | (with_reducible exact HKEEP.out _ HM1.out.drew)
       | (with_reducible exact HKEEP.out _ (HM1.out.alloc _).drew)
       | (with_reducible exact HKEEP.out _ ((HM1.out.alloc _).alloc _).drew)
       | go_keep)
     ((first
       | (have hq := HRy.out; go_at_call 12; (with_reducible refine (HQX.out _ _ HEO.out (HMC.out)).mono ?_); (rintro e w9 ⟨ax, cx, mx, rfl, hm9, hc9, hx9⟩); have HRx := Lib.hid (And.intro hc9 hx9); replace HRy := Lib.hid (And.intro (HRy.out.1.keep hm9) HRy.out.2); replace HMC : Hid (Mod (fun _ => False) W1 w9) := Lib.hid (Mod.trans (HMC.out) hm9); have HDONE := Lib.hid trivial; clear hm9 hc9 hx9 hq)
       | (have hq := HRy.out; go_at_call 12; (with_reducible refine (HQX.out _ _ (heap_alloc_new' _ _) ((HMC.out.alloc _))).mono ?_); (rintro e w9 ⟨ax, cx, mx, rfl, hm9, hc9, hx9⟩); have HRx := Lib.hid (And.intro hc9 hx9); replace HRy := Lib.hid (And.intro (HRy.out.1.keep (Mod.trans ((Mod.refl _ _).alloc _) hm9)) HRy.out.2); replace HMC : Hid (Mod (fun _ => False) W1 w9) := Lib.hid (Mod.trans ((HMC.out.alloc _)) hm9); have HDONE := Lib.hid trivial; clear hm9 hc9 hx9 hq)
       | (have hq := HRx.out; go_at_call 12; (with_reducible refine (HQY.out _ _ HEO.out (HMC.out)).mono ?_); (rintro e w9 ⟨ay, cy, my, rfl, hm9, hc9, hx9⟩); have HRy := Lib.hid (And.intro hc9 hx9); replace HRx := Lib.hid (And.intro (HRx.out.1.keep hm9) HRx.out.2); replace HMC : Hid (Mod (fun _ => False) W1 w9) := Lib.hid (Mod.trans (HMC.out) hm9); have HDONE := Lib.hid trivial; clear hm9 hc9 hx9 hq)
       | (have hq := HRx.out; go_at_call 12; (with_reducible refine (HQY.out _ _ (heap_alloc_new' _ _) ((HMC.out.alloc _))).mono ?_); (rintro e w9 ⟨ay, cy, my, rfl, hm9, hc9, hx9⟩); have HRy := Lib.hid (And.intro hc9 hx9); replace HRx := Lib.hid (And.intro (HRx.out.1.keep (Mod.trans ((Mod.refl _ _).alloc _) hm9)) HRx.out.2); replace HMC : Hid (Mod (fun _ => False) W1 w9) := Lib.hid (Mod.trans ((HMC.out.alloc _)) hm9); have HDONE := Lib.hid trivial; clear hm9 hc9 hx9 hq)
       | (go_at_call 12; (with_reducible refine (HQX.out _ _ (em_oneD W1 (.cells #[.int .u8 (xc : Int), .int .u32 (xq : Int), .int .u8 (kind : Int), .slice ao no co, .int .u32 (rv : Int), .int .i64 rk, .int .i64 rd, .int .i64 ae, .int .i64 ap, .slice av nv cv, .slice al nl cl, .int .i64 fr, .int .i64 to_] 44)) (((Mod.refl _ W1).alloc _).drew)).mono ?_); (rintro e w9 ⟨ax, cx, mx, rfl, hm9, hc9, hx9⟩); have HMC : Hid (Mod (fun _ => False) W1 w9) := Lib.hid (Mod.trans (((Mod.refl _ W1).alloc _).drew) hm9); have HRx := Lib.hid (And.intro hc9 hx9); clear hm9 hc9 hx9)
       | (go_at_call 12; (with_reducible refine (HQX.out _ _ (em_firstD W1 (.cells #[.int .u8 (xc : Int), .int .u32 (xq : Int), .int .u8 (kind : Int), .slice ao no co, .int .u32 (rv : Int), .int .i64 rk, .int .i64 rd, .int .i64 ae, .int .i64 ap, .slice av nv cv, .slice al nl cl, .int .i64 fr, .int .i64 to_] 44) (.cells #[.int .u8 (yc : Int), .int .u32 (yq : Int), .int .u8 (ykind : Int), .slice yo yno yoc, .int .u32 (yrv : Int), .int .i64 yrk, .int .i64 yrd, .int .i64 ye, .int .i64 yp, .slice yv ynv yvc, .slice yl ynl ylc, .int .i64 yfr, .int .i64 yto] 44)) ((((Mod.refl _ W1).alloc _).alloc _).drew)).mono ?_); (rintro e w9 ⟨ax, cx, mx, rfl, hm9, hc9, hx9⟩); have HEO := Lib.hid (hm9.heap (em_secondD W1 (.cells #[.int .u8 (xc : Int), .int .u32 (xq : Int), .int .u8 (kind : Int), .slice ao no co, .int .u32 (rv : Int), .int .i64 rk, .int .i64 rd, .int .i64 ae, .int .i64 ap, .slice av nv cv, .slice al nl cl, .int .i64 fr, .int .i64 to_] 44) (.cells #[.int .u8 (yc : Int), .int .u32 (yq : Int), .int .u8 (ykind : Int), .slice yo yno yoc, .int .u32 (yrv : Int), .int .i64 yrk, .int .i64 yrd, .int .i64 ye, .int .i64 yp, .slice yv ynv yvc, .slice yl ynl ylc, .int .i64 yfr, .int .i64 yto] 44)) (fun f => f)); have HMC : Hid (Mod (fun _ => False) W1 w9) := Lib.hid (Mod.trans ((((Mod.refl _ W1).alloc _).alloc _).drew) hm9); have HRx := Lib.hid (And.intro hc9 hx9); clear hm9 hc9 hx9)
       | (go_at_call 12; (with_reducible refine (HQX.out _ _ (em_secondD W1 (.cells #[.int .u8 (yc : Int), .int .u32 (yq : Int), .int .u8 (ykind : Int), .slice yo yno yoc, .int .u32 (yrv : Int), .int .i64 yrk, .int .i64 yrd, .int .i64 ye, .int .i64 yp, .slice yv ynv yvc, .slice yl ynl ylc, .int .i64 yfr, .int .i64 yto] 44) (.cells #[.int .u8 (xc : Int), .int .u32 (xq : Int), .int .u8 (kind : Int), .slice ao no co, .int .u32 (rv : Int), .int .i64 rk, .int .i64 rd, .int .i64 ae, .int .i64 ap, .slice av nv cv, .slice al nl cl, .int .i64 fr, .int .i64 to_] 44)) ((((Mod.refl _ W1).alloc _).alloc _).drew)).mono ?_); (rintro e w9 ⟨ax, cx, mx, rfl, hm9, hc9, hx9⟩); have HEO := Lib.hid (hm9.heap (em_firstD W1 (.cells #[.int .u8 (yc : Int), .int .u32 (yq : Int), .int .u8 (ykind : Int), .slice yo yno yoc, .int .u32 (yrv : Int), .int .i64 yrk, .int .i64 yrd, .int .i64 ye, .int .i64 yp, .slice yv ynv yvc, .slice yl ynl ylc, .int .i64 yfr, .int .i64 yto] 44) (.cells #[.int .u8 (xc : Int), .int .u32 (xq : Int), .int .u8 (kind : Int), .slice ao no co, .int .u32 (rv : Int), .int .i64 rk, .int .i64 rd, .int .i64 ae, .int .i64 ap, .slice av nv cv, .slice al nl cl, .int .i64 fr, .int .i64 to_] 44)) (fun f => f)); have HMC : Hid (Mod (fun _ => False) W1 w9) := Lib.hid (Mod.trans ((((Mod.refl _ W1).alloc _).alloc _).drew) hm9); have HRx := Lib.hid (And.intro hc9 hx9); clear hm9 hc9 hx9)
       | (go_at_call 12; (with_reducible refine (HQY.out _ _ (em_oneD W1 (.cells #[.int .u8 (yc : Int), .int .u32 (yq : Int), .int .u8 (ykind : Int), .slice yo yno yoc, .int .u32 (yrv : Int), .int .i64 yrk, .int .i64 yrd, .int .i64 ye, .int .i64 yp, .slice yv ynv yvc, .slice yl ynl ylc, .int .i64 yfr, .int .i64 yto] 44)) (((Mod.refl _ W1).alloc _).drew)).mono ?_); (rintro e w9 ⟨ay, cy, my, rfl, hm9, hc9, hx9⟩); have HMC : Hid (Mod (fun _ => False) W1 w9) := Lib.hid (Mod.trans (((Mod.refl _ W1).alloc _).drew) hm9); have HRy := Lib.hid (And.intro hc9 hx9); clear hm9 hc9 hx9)
       | (go_at_call 12; (with_reducible refine (HQY.out _ _ (em_firstD W1 (.cells #[.int .u8 (yc : Int), .int .u32 (yq : Int), .int .u8 (ykind : Int), .slice yo yno yoc, .int .u32 (yrv : Int), .int .i64 yrk, .int .i64 yrd, .int .i64 ye, .int .i64 yp, .slice yv ynv yvc, .slice yl ynl ylc, .int .i64 yfr, .int .i64 yto] 44) (.cells #[.int .u8 (xc : Int), .int .u32 (xq : Int), .int .u8 (kind : Int), .slice ao no co, .int .u32 (rv : Int), .int .i64 rk, .int .i64 rd, .int .i64 ae, .int .i64 ap, .slice av nv cv, .slice al nl cl, .int .i64 fr, .int .i64 to_] 44)) ((((Mod.refl _ W1).alloc _).alloc _).drew)).mono ?_); (rintro e w9 ⟨ay, cy, my, rfl, hm9, hc9, hx9⟩); have HEO := Lib.hid (hm9.heap (em_secondD W1 (.cells #[.int .u8 (yc : Int), .int .u32 (yq : Int), .int .u8 (ykind : Int), .slice yo yno yoc, .int .u32 (yrv : Int), .int .i64 yrk, .int .i64 yrd, .int .i64 ye, .int .i64 yp, .slice yv ynv yvc, .slice yl ynl ylc, .int .i64 yfr, .int .i64 yto] 44) (.cells #[.int .u8 (xc : Int), .int .u32 (xq : Int), .int .u8 (kind : Int), .slice ao no co, .int .u32 (rv : Int), .int .i64 rk, .int .i64 rd, .int .i64 ae, .int .i64 ap, .slice av nv cv, .slice al nl cl, .int .i64 fr, .int .i64 to_] 44)) (fun f => f)); have HMC : Hid (Mod (fun _ => False) W1 w9) := Lib.hid (Mod.trans ((((Mod.refl _ W1).alloc _).alloc _).drew) hm9); have HRy := Lib.hid (And.intro hc9 hx9); clear hm9 hc9 hx9)
       | (go_at_call 12; (with_reducible refine (HQY.out _ _ (em_secondD W1 (.cells #[.int .u8 (xc : Int), .int .u32 (xq : Int), .int .u8 (kind : Int), .slice ao no co, .int .u32 (rv : Int), .int .i64 rk, .int .i64 rd, .int .i64 ae, .int .i64 ap, .slice av nv cv, .slice al nl cl, .int .i64 fr, .int .i64 to_] 44) (.cells #[.int .u8 (yc : Int), .int .u32 (yq : Int), .int .u8 (ykind : Int), .slice yo yno yoc, .int .u32 (yrv : Int), .int .i64 yrk, .int .i64 yrd, .int .i64 ye, .int .i64 yp, .slice yv ynv yvc, .slice yl ynl ylc, .int .i64 yfr, .int .i64 yto] 44)) ((((Mod.refl _ W1).alloc _).alloc _).drew)).mono ?_); (rintro e w9 ⟨ay, cy, my, rfl, hm9, hc9, hx9⟩); have HEO := Lib.hid (hm9.heap (em_firstD W1 (.cells #[.int .u8 (xc : Int), .int .u32 (xq : Int), .int .u8 (kind : Int), .slice ao no co, .int .u32 (rv : Int), .int .i64 rk, .int .i64 rd, .int .i64 ae, .int .i64 ap, .slice av nv cv, .slice al nl cl, .int .i64 fr, .int .i64 to_] 44) (.cells #[.int .u8 (yc : Int), .int .u32 (yq : Int), .int .u8 (ykind : Int), .slice yo yno yoc, .int .u32 (yrv : Int), .int .i64 yrk, .int .i64 yrd, .int .i64 ye, .int .i64 yp, .slice yv ynv yvc, .slice yl ynl ylc, .int .i64 yfr, .int .i64 yto] 44)) (fun f => f)); have HMC : Hid (Mod (fun _ => False) W1 w9) := Lib.hid (Mod.trans ((((Mod.refl _ W1).alloc _).alloc _).drew) hm9); have HRy := Lib.hid (And.intro hc9 hx9); clear hm9 hc9 hx9)))
   all_goals
     go_step
     go_step
     go_meet
     exact ⟨ax, cx, mx, ay, cy, my, rfl, rfl, HRx.out.1, HRx.out.2, HRy.out.1, HRy.out.2, HMC.out⟩
 case rest =>
   obtain ⟨ax, cx, mx, ay, cy, my, rfl, rfl, hcx, hmx, hcy, hmy, hmc⟩ := hcut
   have HMC : Hid (Mod (fun _ => False) W0 wc) := Lib.hid (HM1.out.trans hmc)
   have hrx := hcx.at (k := 0) rfl
   have hry := hcy.at (k := 0) rfl
   have hax : ∀ cc : Nat, 1 ≤ cc → True := fun _ _ => trivial
   obtain ⟨gx1, gx2, ex, hx1, hx2, -⟩ := hcx.row.shape
   replace ex := (Value.slice.inj ex).2.2
   subst ex
   obtain ⟨gy1, gy2, ey, hy1, hy2, -⟩ := hcy.row.shape
   replace ey := (Value.slice.inj ey).2.2
   subst ey
   simp only [List.length_cons, List.length_nil, Nat.zero_add] at hx1 hy1
   obtain ⟨bx, ofx, e1, hbx, hcsx⟩ := CRd.ent (cells := Cm.c13) (size := 13) (fun _ => rfl) (by decide) hcx (i := 0) rfl rfl
   obtain ⟨by_, ofy, e2, hby, hcsy⟩ := CRd.ent (cells := Cm.c13) (size := 13) (fun _ => rfl) (by decide) hcy (i := 0) rfl rfl
   subst e1 e2
   have HO1 : Hid (∀ z : MW wc, Calls Tryz.prog 21 #[.agg mx.c13.toArray, .agg my.c13.toArray] z.w fun e w'' => e = .returned (.int .i64 (ordersI fr to_ yfr yto)) ∧ ∃ x'' : MW wc, w'' = x''.w) := Lib.hid (fun z => Calls.quietM (by
     have h := HOR.out mx my z.w (hrx.keep z.mod) (hry.keep z.mod)
     rw [hmx, hmy, HXX.out, HYY.out] at h
     exact h))
   have HO2 : Hid (∀ w', Mod (fun _ => False) wc w' → Calls Tryz.prog 21 #[.agg my.c13.toArray, .agg mx.c13.toArray] w' fun e w'' => e = .returned (.int .i64 (ordersI yfr yto fr to_)) ∧ Mod (fun _ => False) w' w'') := Lib.hid (fun w' m => by
     have h := HOR.out my mx w' (hry.keep m) (hrx.keep m)
     rw [hmx, hmy, HXX.out, HYY.out] at h
     exact h)
   rw [HXX.out] at hmx
   rw [HYY.out] at hmy
   obtain ⟨po, pco, uvo⟩ := hrx.vo_eq
   obtain ⟨pv, pcv, uvv⟩ := hrx.vv_eq
   obtain ⟨pl, pcl, uvl⟩ := hrx.vl_eq
   obtain ⟨qo, qco, vvo⟩ := hry.vo_eq
   obtain ⟨qv, qcv, vvv⟩ := hry.vv_eq
   obtain ⟨ql, qcl, vvl⟩ := hry.vl_eq
   clear hrx hry hcx hcy hmc hax
   obtain ⟨mxx, mvo, mvv, mvl⟩ := mx
   obtain ⟨myy, nvo, nvv, nvl⟩ := my
   simp only at hmx hmy uvo uvv uvl vvo vvv vvl
   subst hmx hmy
   simp only at uvo uvv uvl vvo vvv vvl
   subst uvo uvv uvl vvo vvv vvl
   obtain ⟨no, hno⟩ : ∃ n, n = ops.length := ⟨_, rfl⟩
   obtain ⟨nv, hnv⟩ : ∃ n, n = vals.length := ⟨_, rfl⟩
   obtain ⟨nl, hnl⟩ : ∃ n, n = list.length := ⟨_, rfl⟩
   obtain ⟨yno, hyno⟩ : ∃ n, n = yops.length := ⟨_, rfl⟩
   obtain ⟨ynv, hynv⟩ : ∃ n, n = yvals.length := ⟨_, rfl⟩
   obtain ⟨ynl, hynl⟩ : ∃ n, n = ylist.length := ⟨_, rfl⟩
   simp only [Cm.c13, ← hno, ← hnv, ← hnl, ← hyno, ← hynv, ← hynl] at HO1 HO2 hcsx hcsy
   have p0 := hcsx 0 (by omega)
   have p1 := hcsx 1 (by omega)
   have p2 := hcsx 2 (by omega)
   have p3 := hcsx 3 (by omega)
   have p4 := hcsx 4 (by omega)
   have p5 := hcsx 5 (by omega)
   have p6 := hcsx 6 (by omega)
   have p7 := hcsx 7 (by omega)
   have p8 := hcsx 8 (by omega)
   have p9 := hcsx 9 (by omega)
   have p10 := hcsx 10 (by omega)
   have p11 := hcsx 11 (by omega)
   have p12 := hcsx 12 (by omega)
   have q0 := hcsy 0 (by omega)
   have q1 := hcsy 1 (by omega)
   have q2 := hcsy 2 (by omega)
   have q3 := hcsy 3 (by omega)
   have q4 := hcsy 4 (by omega)
   have q5 := hcsy 5 (by omega)
   have q6 := hcsy 6 (by omega)
   have q7 := hcsy 7 (by omega)
   have q8 := hcsy 8 (by omega)
   have q9 := hcsy 9 (by omega)
   have q10 := hcsy 10 (by omega)
   have q11 := hcsy 11 (by omega)
   have q12 := hcsy 12 (by omega)
   simp only [List.getElem?_cons_succ, List.getElem?_cons_zero, Nat.zero_mul, Nat.zero_add, Nat.add_zero] at p0 p1 p2 p3 p4 p5 p6 p7 p8 p9 p10 p11 p12 q0 q1 q2 q3 q4 q5 q6 q7 q8 q9 q10 q11 q12
   clear hcsx hcsy hno hnv hnl hyno hynv hynl k0 k1 k2 k3 k4 k5 k6 k7 k8 k9 k10 k11 k12 k13 k14 k15 k16 k17 k18 k19 k20 k21 k22 k23 k24 k25
   have HPX : Hid (wc.cell? ⟨bx, ofx, none⟩ = some (.int .u8 (xc : Int)) ∧ wc.cell? ⟨bx, ofx + 1, none⟩ = some (.int .u32 (xq : Int)) ∧ wc.cell? ⟨bx, ofx + 2, none⟩ = some (.int .u8 (kind : Int)) ∧ wc.cell? ⟨bx, ofx + 3, none⟩ = some (.slice po no pco) ∧ wc.cell? ⟨bx, ofx + 4, none⟩ = some (.int .u32 (rv : Int)) ∧ wc.cell? ⟨bx, ofx + 5, none⟩ = some (.int .i64 rk) ∧ wc.cell? ⟨bx, ofx + 6, none⟩ = some (.int .i64 rd) ∧ wc.cell? ⟨bx, ofx + 7, none⟩ = some (.int .i64 ae) ∧ wc.cell? ⟨bx, ofx + 8, none⟩ = some (.int .i64 ap) ∧ wc.cell? ⟨bx, ofx + 9, none⟩ = some (.slice pv nv pcv) ∧ wc.cell? ⟨bx, ofx + 10, none⟩ = some (.slice pl nl pcl) ∧ wc.cell? ⟨bx, ofx + 11, none⟩ = some (.int .i64 fr) ∧ wc.cell? ⟨bx, ofx + 12, none⟩ = some (.int .i64 to_) ∧ wc.cell? ⟨by_, ofy, none⟩ = some (.int .u8 (yc : Int)) ∧ wc.cell? ⟨by_, ofy + 1, none⟩ = some (.int .u32 (yq : Int)) ∧ wc.cell? ⟨by_, ofy + 2, none⟩ = some (.int .u8 (ykind : Int)) ∧ wc.cell? ⟨by_, ofy + 3, none⟩ = some (.slice qo yno qco) ∧ wc.cell? ⟨by_, ofy + 4, none⟩ = some (.int .u32 (yrv : Int)) ∧ wc.cell? ⟨by_, ofy + 5, none⟩ = some (.int .i64 yrk) ∧ wc.cell? ⟨by_, ofy + 6, none⟩ = some (.int .i64 yrd) ∧ wc.cell? ⟨by_, ofy + 7, none⟩ = some (.int .i64 ye) ∧ wc.cell? ⟨by_, ofy + 8, none⟩ = some (.int .i64 yp) ∧ wc.cell? ⟨by_, ofy + 9, none⟩ = some (.slice qv ynv qcv) ∧ wc.cell? ⟨by_, ofy + 10, none⟩ = some (.slice ql ynl qcl) ∧ wc.cell? ⟨by_, ofy + 11, none⟩ = some (.int .i64 yfr) ∧ wc.cell? ⟨by_, ofy + 12, none⟩ = some (.int .i64 yto)) := Lib.hid ⟨p0, p1, p2, p3, p4, p5, p6, p7, p8, p9, p10, p11, p12, q0, q1, q2, q3, q4, q5, q6, q7, q8, q9, q10, q11, q12⟩
   obtain ⟨i0, hi, hz0, hz1, hz2⟩ := info_parts infoDec
   have HI0 : Hid (Tryz.prog.info? 67 = some i0 ∧ i0.zero = some _ ∧ i0.size = 14 ∧ i0.bytes = 144) := ⟨hi, hz0, hz1, hz2⟩
   clear hi hz0 hz1 hz2
   obtain ⟨i1, hi, hz0, hz1, hz2⟩ := info_parts infoRpl
   have HI1 : Hid (Tryz.prog.info? 74 = some i1 ∧ i1.zero = some _ ∧ i1.size = 13 ∧ i1.bytes = 144) := ⟨hi, hz0, hz1, hz2⟩
   clear hi hz0 hz1 hz2
   by_cases h1 : to_ ≤ yfr
   · by_cases h2 : yto ≤ fr
     · skip
       have g1 : decide (to_ ≤ yfr) = true := by simpa using h1
       have g2 : decide (yto ≤ fr) = true := by simpa using h2
       have HK1 : Hid (ordersI fr to_ yfr yto = 0) := Lib.hid (by unfold ordersI; simp [h1, h2])
       have HK2 : Hid (ordersI yfr yto fr to_ = 0) := Lib.hid (by unfold ordersI; simp [h1, h2])
       rw [HK1.out] at HO1
       rw [HK2.out] at HO2
       clear h1 h2 p0 p1 p2 p3 p4 p5 p6 p7 p8 p9 p10 p11 p12 q0 q1 q2 q3 q4 q5 q6 q7 q8 q9 q10 q11 q12
       obtain ⟨p0, p1, p2, p3, p4, p5, p6, p7, p8, p9, p10, p11, p12, q0, q1, q2, q3, q4, q5, q6, q7, q8, q9, q10, q11, q12⟩ := HPX.out
       have p0 : ∀ z : MW wc, z.w.cell? _ = some _ := fun z => z.cell p0
       have p1 : ∀ z : MW wc, z.w.cell? _ = some _ := fun z => z.cell p1
       have p2 : ∀ z : MW wc, z.w.cell? _ = some _ := fun z => z.cell p2
       have p3 : ∀ z : MW wc, z.w.cell? _ = some _ := fun z => z.cell p3
       have p4 : ∀ z : MW wc, z.w.cell? _ = some _ := fun z => z.cell p4
       have p5 : ∀ z : MW wc, z.w.cell? _ = some _ := fun z => z.cell p5
       have p6 : ∀ z : MW wc, z.w.cell? _ = some _ := fun z => z.cell p6
       have p7 : ∀ z : MW wc, z.w.cell? _ = some _ := fun z => z.cell p7
       have p8 : ∀ z : MW wc, z.w.cell? _ = some _ := fun z => z.cell p8
       have p9 : ∀ z : MW wc, z.w.cell? _ = some _ := fun z => z.cell p9
       have p10 : ∀ z : MW wc, z.w.cell? _ = some _ := fun z => z.cell p10
       have p11 : ∀ z : MW wc, z.w.cell? _ = some _ := fun z => z.cell p11
       have p12 : ∀ z : MW wc, z.w.cell? _ = some _ := fun z => z.cell p12
       have q0 : ∀ z : MW wc, z.w.cell? _ = some _ := fun z => z.cell q0
       have q1 : ∀ z : MW wc, z.w.cell? _ = some _ := fun z => z.cell q1
       have q2 : ∀ z : MW wc, z.w.cell? _ = some _ := fun z => z.cell q2
       have q3 : ∀ z : MW wc, z.w.cell? _ = some _ := fun z => z.cell q3
       have q4 : ∀ z : MW wc, z.w.cell? _ = some _ := fun z => z.cell q4
       have q5 : ∀ z : MW wc, z.w.cell? _ = some _ := fun z => z.cell q5
       have q6 : ∀ z : MW wc, z.w.cell? _ = some _ := fun z => z.cell q6
       have q7 : ∀ z : MW wc, z.w.cell? _ = some _ := fun z => z.cell q7
       have q8 : ∀ z : MW wc, z.w.cell? _ = some _ := fun z => z.cell q8
       have q9 : ∀ z : MW wc, z.w.cell? _ = some _ := fun z => z.cell q9
       have q10 : ∀ z : MW wc, z.w.cell? _ = some _ := fun z => z.cell q10
       have q11 : ∀ z : MW wc, z.w.cell? _ = some _ := fun z => z.cell q11
       have q12 : ∀ z : MW wc, z.w.cell? _ = some _ := fun z => z.cell q12
       go_step
       go_wp2_with fail
       refine wp_region_quietM (by kernel_rfl) (by kernel_rfl) ?_
       repeat (go_big_quiet_step ((go_at_call 21; exact HO1.out _)))
       refine wpQuiet_nil ?_
       intro w6 hm6
       have M6 : Hid (Mod (fun _ => False) wc w6) := Lib.hid (MW.mod_of hm6)
       clear hm6 p0 p1 p2 p3 p4 p5 p6 p7 p8 p9 p10 p11 p12 q0 q1 q2 q3 q4 q5 q6 q7 q8 q9 q10 q11 q12
       obtain ⟨k0, k1, k2, k3, k4, k5, k6, k7, k8, k9, k10, k11, k12, k13, k14, k15, k16, k17, k18, k19, k20, k21, k22, k23, k24, k25⟩ := HKEEP.out w6 (HMC.out.trans M6.out)
       have k0 : ∀ z : MW w6, z.w.cell? _ = some _ := fun z => z.cell k0
       have k1 : ∀ z : MW w6, z.w.cell? _ = some _ := fun z => z.cell k1
       have k2 : ∀ z : MW w6, z.w.cell? _ = some _ := fun z => z.cell k2
       have k3 : ∀ z : MW w6, z.w.cell? _ = some _ := fun z => z.cell k3
       have k4 : ∀ z : MW w6, z.w.cell? _ = some _ := fun z => z.cell k4
       have k5 : ∀ z : MW w6, z.w.cell? _ = some _ := fun z => z.cell k5
       have k6 : ∀ z : MW w6, z.w.cell? _ = some _ := fun z => z.cell k6
       have k7 : ∀ z : MW w6, z.w.cell? _ = some _ := fun z => z.cell k7
       have k8 : ∀ z : MW w6, z.w.cell? _ = some _ := fun z => z.cell k8
       have k9 : ∀ z : MW w6, z.w.cell? _ = some _ := fun z => z.cell k9
       have k10 : ∀ z : MW w6, z.w.cell? _ = some _ := fun z => z.cell k10
       have k11 : ∀ z : MW w6, z.w.cell? _ = some _ := fun z => z.cell k11
       have k12 : ∀ z : MW w6, z.w.cell? _ = some _ := fun z => z.cell k12
       have k13 : ∀ z : MW w6, z.w.cell? _ = some _ := fun z => z.cell k13
       have k14 : ∀ z : MW w6, z.w.cell? _ = some _ := fun z => z.cell k14
       have k15 : ∀ z : MW w6, z.w.cell? _ = some _ := fun z => z.cell k15
       have k16 : ∀ z : MW w6, z.w.cell? _ = some _ := fun z => z.cell k16
       have k17 : ∀ z : MW w6, z.w.cell? _ = some _ := fun z => z.cell k17
       have k18 : ∀ z : MW w6, z.w.cell? _ = some _ := fun z => z.cell k18
       have k19 : ∀ z : MW w6, z.w.cell? _ = some _ := fun z => z.cell k19
       have k20 : ∀ z : MW w6, z.w.cell? _ = some _ := fun z => z.cell k20
       have k21 : ∀ z : MW w6, z.w.cell? _ = some _ := fun z => z.cell k21
       have k22 : ∀ z : MW w6, z.w.cell? _ = some _ := fun z => z.cell k22
       have k23 : ∀ z : MW w6, z.w.cell? _ = some _ := fun z => z.cell k23
       have k24 : ∀ z : MW w6, z.w.cell? _ = some _ := fun z => z.cell k24
       have k25 : ∀ z : MW w6, z.w.cell? _ = some _ := fun z => z.cell k25
       go_wp2_with fail
       refine wp_region_quietM (by kernel_rfl) (by kernel_rfl) ?_
       repeat (go_big_quiet_step (fail))
       refine wpQuiet_nil ?_
       intro w7 hm7
       have M7 : Hid (Mod (fun _ => False) wc w7) := Lib.hid (M6.out.trans (MW.mod_of hm7))
       clear hm7 k0 k1 k2 k3 k4 k5 k6 k7 k8 k9 k10 k11 k12 k13 k14 k15 k16 k17 k18 k19 k20 k21 k22 k23 k24 k25
       obtain ⟨p0, p1, p2, p3, p4, p5, p6, p7, p8, p9, p10, p11, p12, q0, q1, q2, q3, q4, q5, q6, q7, q8, q9, q10, q11, q12⟩ := HPX.out
       have p0 : ∀ z : MW w7, z.w.cell? _ = some _ := fun z => z.cell (M7.out.cell p0)
       have p1 : ∀ z : MW w7, z.w.cell? _ = some _ := fun z => z.cell (M7.out.cell p1)
       have p2 : ∀ z : MW w7, z.w.cell? _ = some _ := fun z => z.cell (M7.out.cell p2)
       have p3 : ∀ z : MW w7, z.w.cell? _ = some _ := fun z => z.cell (M7.out.cell p3)
       have p4 : ∀ z : MW w7, z.w.cell? _ = some _ := fun z => z.cell (M7.out.cell p4)
       have p5 : ∀ z : MW w7, z.w.cell? _ = some _ := fun z => z.cell (M7.out.cell p5)
       have p6 : ∀ z : MW w7, z.w.cell? _ = some _ := fun z => z.cell (M7.out.cell p6)
       have p7 : ∀ z : MW w7, z.w.cell? _ = some _ := fun z => z.cell (M7.out.cell p7)
       have p8 : ∀ z : MW w7, z.w.cell? _ = some _ := fun z => z.cell (M7.out.cell p8)
       have p9 : ∀ z : MW w7, z.w.cell? _ = some _ := fun z => z.cell (M7.out.cell p9)
       have p10 : ∀ z : MW w7, z.w.cell? _ = some _ := fun z => z.cell (M7.out.cell p10)
       have p11 : ∀ z : MW w7, z.w.cell? _ = some _ := fun z => z.cell (M7.out.cell p11)
       have p12 : ∀ z : MW w7, z.w.cell? _ = some _ := fun z => z.cell (M7.out.cell p12)
       have q0 : ∀ z : MW w7, z.w.cell? _ = some _ := fun z => z.cell (M7.out.cell q0)
       have q1 : ∀ z : MW w7, z.w.cell? _ = some _ := fun z => z.cell (M7.out.cell q1)
       have q2 : ∀ z : MW w7, z.w.cell? _ = some _ := fun z => z.cell (M7.out.cell q2)
       have q3 : ∀ z : MW w7, z.w.cell? _ = some _ := fun z => z.cell (M7.out.cell q3)
       have q4 : ∀ z : MW w7, z.w.cell? _ = some _ := fun z => z.cell (M7.out.cell q4)
       have q5 : ∀ z : MW w7, z.w.cell? _ = some _ := fun z => z.cell (M7.out.cell q5)
       have q6 : ∀ z : MW w7, z.w.cell? _ = some _ := fun z => z.cell (M7.out.cell q6)
       have q7 : ∀ z : MW w7, z.w.cell? _ = some _ := fun z => z.cell (M7.out.cell q7)
       have q8 : ∀ z : MW w7, z.w.cell? _ = some _ := fun z => z.cell (M7.out.cell q8)
       have q9 : ∀ z : MW w7, z.w.cell? _ = some _ := fun z => z.cell (M7.out.cell q9)
       have q10 : ∀ z : MW w7, z.w.cell? _ = some _ := fun z => z.cell (M7.out.cell q10)
       have q11 : ∀ z : MW w7, z.w.cell? _ = some _ := fun z => z.cell (M7.out.cell q11)
       have q12 : ∀ z : MW w7, z.w.cell? _ = some _ := fun z => z.cell (M7.out.cell q12)
       have HO3 : Hid (∀ z : MW w7, Calls Tryz.prog 21 _ z.w fun e w'' => _ ∧ ∃ x'' : MW w7, w'' = x''.w) := Lib.hid (fun z => Calls.quietM (HO2.out z.w (M7.out.trans z.mod)))
       go_wp2_with fail
       refine wp_region_quietM (by kernel_rfl) (by kernel_rfl) ?_
       repeat (go_big_quiet_step ((go_at_call 21; exact HO3.out _)))
       refine wpQuiet_nil ?_
       intro w8 hm8
       have HMZ : Hid (Mod (fun _ => False) w w8) := Lib.hid (HM0.out.trans (HMC.out.trans (M7.out.trans (MW.mod_of hm8))))
       clear hm8 p0 p1 p2 p3 p4 p5 p6 p7 p8 p9 p10 p11 p12 q0 q1 q2 q3 q4 q5 q6 q7 q8 q9 q10 q11 q12
       go_wp2_with (first
         | (have hq := HF2.out; go_at_call 10; (with_reducible refine (cverify_longR _ _ _ _ _ _ _ (Nat.zero_le _) (by decide)).mono ?_); (rintro e w14 ⟨rfl, hm14⟩); replace HMZ : Hid (Mod (fun _ => False) w w14) := Lib.hid (HMZ.out.trans hm14); clear hm14 hq)
         | (go_at_call 10; (with_reducible refine (cverify_longC _ _ _ _ _ (by decide)).mono ?_); (rintro e w10 ⟨rfl, hm10⟩); have HF1 := Lib.hid trivial; replace HMZ : Hid (Mod (fun _ => False) w (w10.alloc (.cells #[.int .i64 0, .int .i64 0] 46))) := Lib.hid ((HMZ.out.trans hm10).alloc _); clear hm10)
         | (go_at_call 15; (with_reducible refine (cfinal_long _ _ _ _ (by decide)).mono ?_); (rintro e w12 ⟨rfl, hm12⟩); have HF2 := Lib.hid trivial; replace HMZ : Hid (Mod (fun _ => False) w w12) := Lib.hid (HMZ.out.trans hm12); clear hm12)
         | (have hq := HF2.out; at_make; refine wpList_make_full _ rfl _ _ 51 rfl 0 74 i1 _ 13 Tryz.underlying51 HI1.out.1 HI1.out.2.1 HI1.out.2.2.1 _ _ _ _ 4097 rfl rfl rfl rfl (by have := HI1.out.2.2.2; omega) (by unfold maxLen; omega) (Nat.zero_le _) ?_; intro w13 hs13 hg13; replace HMZ : Hid (Mod (fun _ => False) w w13) := Lib.hid (HMZ.out.grown hg13 (fun b hb => by cases hb)); clear hs13 hg13 hq)
         | (at_make; refine wpList_make_full _ rfl _ _ 49 rfl 0 67 i0 _ 14 Tryz.underlying49 HI0.out.1 HI0.out.2.1 HI0.out.2.2.1 _ _ _ _ 4097 rfl rfl rfl rfl (by have := HI0.out.2.2.2; omega) (by unfold maxLen; omega) (Nat.zero_le _) ?_; intro w9 hs9 hg9; replace HMZ : Hid (Mod (fun _ => False) w w9) := Lib.hid (HMZ.out.grown hg9 (fun b hb => by cases hb)); clear hs9 hg9))
       go_ret
       exact ⟨rfl, HMZ.out.alloc _⟩
     · skip
       have g1 : decide (to_ ≤ yfr) = true := by simpa using h1
       have g2 : decide (yto ≤ fr) = false := by simpa using h2
       have HK1 : Hid (ordersI fr to_ yfr yto = -1) := Lib.hid (by unfold ordersI; simp [h1, h2])
       have HK2 : Hid (ordersI yfr yto fr to_ = 1) := Lib.hid (by unfold ordersI; simp [h1, h2])
       rw [HK1.out] at HO1
       rw [HK2.out] at HO2
       clear h1 h2 p0 p1 p2 p3 p4 p5 p6 p7 p8 p9 p10 p11 p12 q0 q1 q2 q3 q4 q5 q6 q7 q8 q9 q10 q11 q12
       obtain ⟨p0, p1, p2, p3, p4, p5, p6, p7, p8, p9, p10, p11, p12, q0, q1, q2, q3, q4, q5, q6, q7, q8, q9, q10, q11, q12⟩ := HPX.out
       have p0 : ∀ z : MW wc, z.w.cell? _ = some _ := fun z => z.cell p0
       have p1 : ∀ z : MW wc, z.w.cell? _ = some _ := fun z => z.cell p1
       have p2 : ∀ z : MW wc, z.w.cell? _ = some _ := fun z => z.cell p2
       have p3 : ∀ z : MW wc, z.w.cell? _ = some _ := fun z => z.cell p3
       have p4 : ∀ z : MW wc, z.w.cell? _ = some _ := fun z => z.cell p4
       have p5 : ∀ z : MW wc, z.w.cell? _ = some _ := fun z => z.cell p5
       have p6 : ∀ z : MW wc, z.w.cell? _ = some _ := fun z => z.cell p6
       have p7 : ∀ z : MW wc, z.w.cell? _ = some _ := fun z => z.cell p7
       have p8 : ∀ z : MW wc, z.w.cell? _ = some _ := fun z => z.cell p8
       have p9 : ∀ z : MW wc, z.w.cell? _ = some _ := fun z => z.cell p9
       have p10 : ∀ z : MW wc, z.w.cell? _ = some _ := fun z => z.cell p10
       have p11 : ∀ z : MW wc, z.w.cell? _ = some _ := fun z => z.cell p11
       have p12 : ∀ z : MW wc, z.w.cell? _ = some _ := fun z => z.cell p12
       have q0 : ∀ z : MW wc, z.w.cell? _ = some _ := fun z => z.cell q0
       have q1 : ∀ z : MW wc, z.w.cell? _ = some _ := fun z => z.cell q1
       have q2 : ∀ z : MW wc, z.w.cell? _ = some _ := fun z => z.cell q2
       have q3 : ∀ z : MW wc, z.w.cell? _ = some _ := fun z => z.cell q3
       have q4 : ∀ z : MW wc, z.w.cell? _ = some _ := fun z => z.cell q4
       have q5 : ∀ z : MW wc, z.w.cell? _ = some _ := fun z => z.cell q5
       have q6 : ∀ z : MW wc, z.w.cell? _ = some _ := fun z => z.cell q6
       have q7 : ∀ z : MW wc, z.w.cell? _ = some _ := fun z => z.cell q7
       have q8 : ∀ z : MW wc, z.w.cell? _ = some _ := fun z => z.cell q8
       have q9 : ∀ z : MW wc, z.w.cell? _ = some _ := fun z => z.cell q9
       have q10 : ∀ z : MW wc, z.w.cell? _ = some _ := fun z => z.cell q10
       have q11 : ∀ z : MW wc, z.w.cell? _ = some _ := fun z => z.cell q11
       have q12 : ∀ z : MW wc, z.w.cell? _ = some _ := fun z => z.cell q12
       go_step
       go_wp2_with fail
       refine wp_region_quietM (by kernel_rfl) (by kernel_rfl) ?_
       repeat (go_big_quiet_step ((go_at_call 21; exact HO1.out _)))
       refine wpQuiet_nil ?_
       intro w6 hm6
       have M6 : Hid (Mod (fun _ => False) wc w6) := Lib.hid (MW.mod_of hm6)
       clear hm6 p0 p1 p2 p3 p4 p5 p6 p7 p8 p9 p10 p11 p12 q0 q1 q2 q3 q4 q5 q6 q7 q8 q9 q10 q11 q12
       obtain ⟨k0, k1, k2, k3, k4, k5, k6, k7, k8, k9, k10, k11, k12, k13, k14, k15, k16, k17, k18, k19, k20, k21, k22, k23, k24, k25⟩ := HKEEP.out w6 (HMC.out.trans M6.out)
       have k0 : ∀ z : MW w6, z.w.cell? _ = some _ := fun z => z.cell k0
       have k1 : ∀ z : MW w6, z.w.cell? _ = some _ := fun z => z.cell k1
       have k2 : ∀ z : MW w6, z.w.cell? _ = some _ := fun z => z.cell k2
       have k3 : ∀ z : MW w6, z.w.cell? _ = some _ := fun z => z.cell k3
       have k4 : ∀ z : MW w6, z.w.cell? _ = some _ := fun z => z.cell k4
       have k5 : ∀ z : MW w6, z.w.cell? _ = some _ := fun z => z.cell k5
       have k6 : ∀ z : MW w6, z.w.cell? _ = some _ := fun z => z.cell k6
       have k7 : ∀ z : MW w6, z.w.cell? _ = some _ := fun z => z.cell k7
       have k8 : ∀ z : MW w6, z.w.cell? _ = some _ := fun z => z.cell k8
       have k9 : ∀ z : MW w6, z.w.cell? _ = some _ := fun z => z.cell k9
       have k10 : ∀ z : MW w6, z.w.cell? _ = some _ := fun z => z.cell k10
       have k11 : ∀ z : MW w6, z.w.cell? _ = some _ := fun z => z.cell k11
       have k12 : ∀ z : MW w6, z.w.cell? _ = some _ := fun z => z.cell k12
       have k13 : ∀ z : MW w6, z.w.cell? _ = some _ := fun z => z.cell k13
       have k14 : ∀ z : MW w6, z.w.cell? _ = some _ := fun z => z.cell k14
       have k15 : ∀ z : MW w6, z.w.cell? _ = some _ := fun z => z.cell k15
       have k16 : ∀ z : MW w6, z.w.cell? _ = some _ := fun z => z.cell k16
       have k17 : ∀ z : MW w6, z.w.cell? _ = some _ := fun z => z.cell k17
       have k18 : ∀ z : MW w6, z.w.cell? _ = some _ := fun z => z.cell k18
       have k19 : ∀ z : MW w6, z.w.cell? _ = some _ := fun z => z.cell k19
       have k20 : ∀ z : MW w6, z.w.cell? _ = some _ := fun z => z.cell k20
       have k21 : ∀ z : MW w6, z.w.cell? _ = some _ := fun z => z.cell k21
       have k22 : ∀ z : MW w6, z.w.cell? _ = some _ := fun z => z.cell k22
       have k23 : ∀ z : MW w6, z.w.cell? _ = some _ := fun z => z.cell k23
       have k24 : ∀ z : MW w6, z.w.cell? _ = some _ := fun z => z.cell k24
       have k25 : ∀ z : MW w6, z.w.cell? _ = some _ := fun z => z.cell k25
       go_wp2_with fail
       refine wp_region_quietM (by kernel_rfl) (by kernel_rfl) ?_
       repeat (go_big_quiet_step (fail))
       refine wpQuiet_nil ?_
       intro w7 hm7
       have M7 : Hid (Mod (fun _ => False) wc w7) := Lib.hid (M6.out.trans (MW.mod_of hm7))
       clear hm7 k0 k1 k2 k3 k4 k5 k6 k7 k8 k9 k10 k11 k12 k13 k14 k15 k16 k17 k18 k19 k20 k21 k22 k23 k24 k25
       obtain ⟨p0, p1, p2, p3, p4, p5, p6, p7, p8, p9, p10, p11, p12, q0, q1, q2, q3, q4, q5, q6, q7, q8, q9, q10, q11, q12⟩ := HPX.out
       have p0 : ∀ z : MW w7, z.w.cell? _ = some _ := fun z => z.cell (M7.out.cell p0)
       have p1 : ∀ z : MW w7, z.w.cell? _ = some _ := fun z => z.cell (M7.out.cell p1)
       have p2 : ∀ z : MW w7, z.w.cell? _ = some _ := fun z => z.cell (M7.out.cell p2)
       have p3 : ∀ z : MW w7, z.w.cell? _ = some _ := fun z => z.cell (M7.out.cell p3)
       have p4 : ∀ z : MW w7, z.w.cell? _ = some _ := fun z => z.cell (M7.out.cell p4)
       have p5 : ∀ z : MW w7, z.w.cell? _ = some _ := fun z => z.cell (M7.out.cell p5)
       have p6 : ∀ z : MW w7, z.w.cell? _ = some _ := fun z => z.cell (M7.out.cell p6)
       have p7 : ∀ z : MW w7, z.w.cell? _ = some _ := fun z => z.cell (M7.out.cell p7)
       have p8 : ∀ z : MW w7, z.w.cell? _ = some _ := fun z => z.cell (M7.out.cell p8)
       have p9 : ∀ z : MW w7, z.w.cell? _ = some _ := fun z => z.cell (M7.out.cell p9)
       have p10 : ∀ z : MW w7, z.w.cell? _ = some _ := fun z => z.cell (M7.out.cell p10)
       have p11 : ∀ z : MW w7, z.w.cell? _ = some _ := fun z => z.cell (M7.out.cell p11)
       have p12 : ∀ z : MW w7, z.w.cell? _ = some _ := fun z => z.cell (M7.out.cell p12)
       have q0 : ∀ z : MW w7, z.w.cell? _ = some _ := fun z => z.cell (M7.out.cell q0)
       have q1 : ∀ z : MW w7, z.w.cell? _ = some _ := fun z => z.cell (M7.out.cell q1)
       have q2 : ∀ z : MW w7, z.w.cell? _ = some _ := fun z => z.cell (M7.out.cell q2)
       have q3 : ∀ z : MW w7, z.w.cell? _ = some _ := fun z => z.cell (M7.out.cell q3)
       have q4 : ∀ z : MW w7, z.w.cell? _ = some _ := fun z => z.cell (M7.out.cell q4)
       have q5 : ∀ z : MW w7, z.w.cell? _ = some _ := fun z => z.cell (M7.out.cell q5)
       have q6 : ∀ z : MW w7, z.w.cell? _ = some _ := fun z => z.cell (M7.out.cell q6)
       have q7 : ∀ z : MW w7, z.w.cell? _ = some _ := fun z => z.cell (M7.out.cell q7)
       have q8 : ∀ z : MW w7, z.w.cell? _ = some _ := fun z => z.cell (M7.out.cell q8)
       have q9 : ∀ z : MW w7, z.w.cell? _ = some _ := fun z => z.cell (M7.out.cell q9)
       have q10 : ∀ z : MW w7, z.w.cell? _ = some _ := fun z => z.cell (M7.out.cell q10)
       have q11 : ∀ z : MW w7, z.w.cell? _ = some _ := fun z => z.cell (M7.out.cell q11)
       have q12 : ∀ z : MW w7, z.w.cell? _ = some _ := fun z => z.cell (M7.out.cell q12)
       have HO3 : Hid (∀ z : MW w7, Calls Tryz.prog 21 _ z.w fun e w'' => _ ∧ ∃ x'' : MW w7, w'' = x''.w) := Lib.hid (fun z => Calls.quietM (HO2.out z.w (M7.out.trans z.mod)))
       go_wp2_with fail
       refine wp_region_quietM (by kernel_rfl) (by kernel_rfl) ?_
       repeat (go_big_quiet_step ((go_at_call 21; exact HO3.out _)))
       refine wpQuiet_nil ?_
       intro w8 hm8
       have HMZ : Hid (Mod (fun _ => False) w w8) := Lib.hid (HM0.out.trans (HMC.out.trans (M7.out.trans (MW.mod_of hm8))))
       clear hm8 p0 p1 p2 p3 p4 p5 p6 p7 p8 p9 p10 p11 p12 q0 q1 q2 q3 q4 q5 q6 q7 q8 q9 q10 q11 q12
       go_wp2_with (first
         | (have hq := HF2.out; go_at_call 10; (with_reducible refine (cverify_longR _ _ _ _ _ _ _ (Nat.zero_le _) (by decide)).mono ?_); (rintro e w14 ⟨rfl, hm14⟩); replace HMZ : Hid (Mod (fun _ => False) w w14) := Lib.hid (HMZ.out.trans hm14); clear hm14 hq)
         | (go_at_call 10; (with_reducible refine (cverify_longC _ _ _ _ _ (by decide)).mono ?_); (rintro e w10 ⟨rfl, hm10⟩); have HF1 := Lib.hid trivial; replace HMZ : Hid (Mod (fun _ => False) w (w10.alloc (.cells #[.int .i64 0, .int .i64 0] 46))) := Lib.hid ((HMZ.out.trans hm10).alloc _); clear hm10)
         | (go_at_call 15; (with_reducible refine (cfinal_long _ _ _ _ (by decide)).mono ?_); (rintro e w12 ⟨rfl, hm12⟩); have HF2 := Lib.hid trivial; replace HMZ : Hid (Mod (fun _ => False) w w12) := Lib.hid (HMZ.out.trans hm12); clear hm12)
         | (have hq := HF2.out; at_make; refine wpList_make_full _ rfl _ _ 51 rfl 0 74 i1 _ 13 Tryz.underlying51 HI1.out.1 HI1.out.2.1 HI1.out.2.2.1 _ _ _ _ 4097 rfl rfl rfl rfl (by have := HI1.out.2.2.2; omega) (by unfold maxLen; omega) (Nat.zero_le _) ?_; intro w13 hs13 hg13; replace HMZ : Hid (Mod (fun _ => False) w w13) := Lib.hid (HMZ.out.grown hg13 (fun b hb => by cases hb)); clear hs13 hg13 hq)
         | (at_make; refine wpList_make_full _ rfl _ _ 49 rfl 0 67 i0 _ 14 Tryz.underlying49 HI0.out.1 HI0.out.2.1 HI0.out.2.2.1 _ _ _ _ 4097 rfl rfl rfl rfl (by have := HI0.out.2.2.2; omega) (by unfold maxLen; omega) (Nat.zero_le _) ?_; intro w9 hs9 hg9; replace HMZ : Hid (Mod (fun _ => False) w w9) := Lib.hid (HMZ.out.grown hg9 (fun b hb => by cases hb)); clear hs9 hg9))
       go_ret
       exact ⟨rfl, HMZ.out.alloc _⟩
   · by_cases h2 : yto ≤ fr
     · skip
       have g1 : decide (to_ ≤ yfr) = false := by simpa using h1
       have g2 : decide (yto ≤ fr) = true := by simpa using h2
       have HK1 : Hid (ordersI fr to_ yfr yto = 1) := Lib.hid (by unfold ordersI; simp [h1, h2])
       have HK2 : Hid (ordersI yfr yto fr to_ = -1) := Lib.hid (by unfold ordersI; simp [h1, h2])
       rw [HK1.out] at HO1
       rw [HK2.out] at HO2
       clear h1 h2 p0 p1 p2 p3 p4 p5 p6 p7 p8 p9 p10 p11 p12 q0 q1 q2 q3 q4 q5 q6 q7 q8 q9 q10 q11 q12
       obtain ⟨p0, p1, p2, p3, p4, p5, p6, p7, p8, p9, p10, p11, p12, q0, q1, q2, q3, q4, q5, q6, q7, q8, q9, q10, q11, q12⟩ := HPX.out
       have p0 : ∀ z : MW wc, z.w.cell? _ = some _ := fun z => z.cell p0
       have p1 : ∀ z : MW wc, z.w.cell? _ = some _ := fun z => z.cell p1
       have p2 : ∀ z : MW wc, z.w.cell? _ = some _ := fun z => z.cell p2
       have p3 : ∀ z : MW wc, z.w.cell? _ = some _ := fun z => z.cell p3
       have p4 : ∀ z : MW wc, z.w.cell? _ = some _ := fun z => z.cell p4
       have p5 : ∀ z : MW wc, z.w.cell? _ = some _ := fun z => z.cell p5
       have p6 : ∀ z : MW wc, z.w.cell? _ = some _ := fun z => z.cell p6
       have p7 : ∀ z : MW wc, z.w.cell? _ = some _ := fun z => z.cell p7
       have p8 : ∀ z : MW wc, z.w.cell? _ = some _ := fun z => z.cell p8
       have p9 : ∀ z : MW wc, z.w.cell? _ = some _ := fun z => z.cell p9
       have p10 : ∀ z : MW wc, z.w.cell? _ = some _ := fun z => z.cell p10
       have p11 : ∀ z : MW wc, z.w.cell? _ = some _ := fun z => z.cell p11
       have p12 : ∀ z : MW wc, z.w.cell? _ = some _ := fun z => z.cell p12
       have q0 : ∀ z : MW wc, z.w.cell? _ = some _ := fun z => z.cell q0
       have q1 : ∀ z : MW wc, z.w.cell? _ = some _ := fun z => z.cell q1
       have q2 : ∀ z : MW wc, z.w.cell? _ = some _ := fun z => z.cell q2
       have q3 : ∀ z : MW wc, z.w.cell? _ = some _ := fun z => z.cell q3
       have q4 : ∀ z : MW wc, z.w.cell? _ = some _ := fun z => z.cell q4
       have q5 : ∀ z : MW wc, z.w.cell? _ = some _ := fun z => z.cell q5
       have q6 : ∀ z : MW wc, z.w.cell? _ = some _ := fun z => z.cell q6
       have q7 : ∀ z : MW wc, z.w.cell? _ = some _ := fun z => z.cell q7
       have q8 : ∀ z : MW wc, z.w.cell? _ = some _ := fun z => z.cell q8
       have q9 : ∀ z : MW wc, z.w.cell? _ = some _ := fun z => z.cell q9
       have q10 : ∀ z : MW wc, z.w.cell? _ = some _ := fun z => z.cell q10
       have q11 : ∀ z : MW wc, z.w.cell? _ = some _ := fun z => z.cell q11
       have q12 : ∀ z : MW wc, z.w.cell? _ = some _ := fun z => z.cell q12
       go_step
       go_wp2_with fail
       refine wp_region_quietM (by kernel_rfl) (by kernel_rfl) ?_
       repeat (go_big_quiet_step ((go_at_call 21; exact HO1.out _)))
       refine wpQuiet_nil ?_
       intro w6 hm6
       have M6 : Hid (Mod (fun _ => False) wc w6) := Lib.hid (MW.mod_of hm6)
       clear hm6 p0 p1 p2 p3 p4 p5 p6 p7 p8 p9 p10 p11 p12 q0 q1 q2 q3 q4 q5 q6 q7 q8 q9 q10 q11 q12
       obtain ⟨k0, k1, k2, k3, k4, k5, k6, k7, k8, k9, k10, k11, k12, k13, k14, k15, k16, k17, k18, k19, k20, k21, k22, k23, k24, k25⟩ := HKEEP.out w6 (HMC.out.trans M6.out)
       have k0 : ∀ z : MW w6, z.w.cell? _ = some _ := fun z => z.cell k0
       have k1 : ∀ z : MW w6, z.w.cell? _ = some _ := fun z => z.cell k1
       have k2 : ∀ z : MW w6, z.w.cell? _ = some _ := fun z => z.cell k2
       have k3 : ∀ z : MW w6, z.w.cell? _ = some _ := fun z => z.cell k3
       have k4 : ∀ z : MW w6, z.w.cell? _ = some _ := fun z => z.cell k4
       have k5 : ∀ z : MW w6, z.w.cell? _ = some _ := fun z => z.cell k5
       have k6 : ∀ z : MW w6, z.w.cell? _ = some _ := fun z => z.cell k6
       have k7 : ∀ z : MW w6, z.w.cell? _ = some _ := fun z => z.cell k7
       have k8 : ∀ z : MW w6, z.w.cell? _ = some _ := fun z => z.cell k8
       have k9 : ∀ z : MW w6, z.w.cell? _ = some _ := fun z => z.cell k9
       have k10 : ∀ z : MW w6, z.w.cell? _ = some _ := fun z => z.cell k10
       have k11 : ∀ z : MW w6, z.w.cell? _ = some _ := fun z => z.cell k11
       have k12 : ∀ z : MW w6, z.w.cell? _ = some _ := fun z => z.cell k12
       have k13 : ∀ z : MW w6, z.w.cell? _ = some _ := fun z => z.cell k13
       have k14 : ∀ z : MW w6, z.w.cell? _ = some _ := fun z => z.cell k14
       have k15 : ∀ z : MW w6, z.w.cell? _ = some _ := fun z => z.cell k15
       have k16 : ∀ z : MW w6, z.w.cell? _ = some _ := fun z => z.cell k16
       have k17 : ∀ z : MW w6, z.w.cell? _ = some _ := fun z => z.cell k17
       have k18 : ∀ z : MW w6, z.w.cell? _ = some _ := fun z => z.cell k18
       have k19 : ∀ z : MW w6, z.w.cell? _ = some _ := fun z => z.cell k19
       have k20 : ∀ z : MW w6, z.w.cell? _ = some _ := fun z => z.cell k20
       have k21 : ∀ z : MW w6, z.w.cell? _ = some _ := fun z => z.cell k21
       have k22 : ∀ z : MW w6, z.w.cell? _ = some _ := fun z => z.cell k22
       have k23 : ∀ z : MW w6, z.w.cell? _ = some _ := fun z => z.cell k23
       have k24 : ∀ z : MW w6, z.w.cell? _ = some _ := fun z => z.cell k24
       have k25 : ∀ z : MW w6, z.w.cell? _ = some _ := fun z => z.cell k25
       go_wp2_with fail
       refine wp_region_quietM (by kernel_rfl) (by kernel_rfl) ?_
       repeat (go_big_quiet_step (fail))
       refine wpQuiet_nil ?_
       intro w7 hm7
       have M7 : Hid (Mod (fun _ => False) wc w7) := Lib.hid (M6.out.trans (MW.mod_of hm7))
       clear hm7 k0 k1 k2 k3 k4 k5 k6 k7 k8 k9 k10 k11 k12 k13 k14 k15 k16 k17 k18 k19 k20 k21 k22 k23 k24 k25
       obtain ⟨p0, p1, p2, p3, p4, p5, p6, p7, p8, p9, p10, p11, p12, q0, q1, q2, q3, q4, q5, q6, q7, q8, q9, q10, q11, q12⟩ := HPX.out
       have p0 : ∀ z : MW w7, z.w.cell? _ = some _ := fun z => z.cell (M7.out.cell p0)
       have p1 : ∀ z : MW w7, z.w.cell? _ = some _ := fun z => z.cell (M7.out.cell p1)
       have p2 : ∀ z : MW w7, z.w.cell? _ = some _ := fun z => z.cell (M7.out.cell p2)
       have p3 : ∀ z : MW w7, z.w.cell? _ = some _ := fun z => z.cell (M7.out.cell p3)
       have p4 : ∀ z : MW w7, z.w.cell? _ = some _ := fun z => z.cell (M7.out.cell p4)
       have p5 : ∀ z : MW w7, z.w.cell? _ = some _ := fun z => z.cell (M7.out.cell p5)
       have p6 : ∀ z : MW w7, z.w.cell? _ = some _ := fun z => z.cell (M7.out.cell p6)
       have p7 : ∀ z : MW w7, z.w.cell? _ = some _ := fun z => z.cell (M7.out.cell p7)
       have p8 : ∀ z : MW w7, z.w.cell? _ = some _ := fun z => z.cell (M7.out.cell p8)
       have p9 : ∀ z : MW w7, z.w.cell? _ = some _ := fun z => z.cell (M7.out.cell p9)
       have p10 : ∀ z : MW w7, z.w.cell? _ = some _ := fun z => z.cell (M7.out.cell p10)
       have p11 : ∀ z : MW w7, z.w.cell? _ = some _ := fun z => z.cell (M7.out.cell p11)
       have p12 : ∀ z : MW w7, z.w.cell? _ = some _ := fun z => z.cell (M7.out.cell p12)
       have q0 : ∀ z : MW w7, z.w.cell? _ = some _ := fun z => z.cell (M7.out.cell q0)
       have q1 : ∀ z : MW w7, z.w.cell? _ = some _ := fun z => z.cell (M7.out.cell q1)
       have q2 : ∀ z : MW w7, z.w.cell? _ = some _ := fun z => z.cell (M7.out.cell q2)
       have q3 : ∀ z : MW w7, z.w.cell? _ = some _ := fun z => z.cell (M7.out.cell q3)
       have q4 : ∀ z : MW w7, z.w.cell? _ = some _ := fun z => z.cell (M7.out.cell q4)
       have q5 : ∀ z : MW w7, z.w.cell? _ = some _ := fun z => z.cell (M7.out.cell q5)
       have q6 : ∀ z : MW w7, z.w.cell? _ = some _ := fun z => z.cell (M7.out.cell q6)
       have q7 : ∀ z : MW w7, z.w.cell? _ = some _ := fun z => z.cell (M7.out.cell q7)
       have q8 : ∀ z : MW w7, z.w.cell? _ = some _ := fun z => z.cell (M7.out.cell q8)
       have q9 : ∀ z : MW w7, z.w.cell? _ = some _ := fun z => z.cell (M7.out.cell q9)
       have q10 : ∀ z : MW w7, z.w.cell? _ = some _ := fun z => z.cell (M7.out.cell q10)
       have q11 : ∀ z : MW w7, z.w.cell? _ = some _ := fun z => z.cell (M7.out.cell q11)
       have q12 : ∀ z : MW w7, z.w.cell? _ = some _ := fun z => z.cell (M7.out.cell q12)
       have HO3 : Hid (∀ z : MW w7, Calls Tryz.prog 21 _ z.w fun e w'' => _ ∧ ∃ x'' : MW w7, w'' = x''.w) := Lib.hid (fun z => Calls.quietM (HO2.out z.w (M7.out.trans z.mod)))
       go_wp2_with fail
       refine wp_region_quietM (by kernel_rfl) (by kernel_rfl) ?_
       repeat (go_big_quiet_step ((go_at_call 21; exact HO3.out _)))
       refine wpQuiet_nil ?_
       intro w8 hm8
       have HMZ : Hid (Mod (fun _ => False) w w8) := Lib.hid (HM0.out.trans (HMC.out.trans (M7.out.trans (MW.mod_of hm8))))
       clear hm8 p0 p1 p2 p3 p4 p5 p6 p7 p8 p9 p10 p11 p12 q0 q1 q2 q3 q4 q5 q6 q7 q8 q9 q10 q11 q12
       go_wp2_with (first
         | (have hq := HF2.out; go_at_call 10; (with_reducible refine (cverify_longR _ _ _ _ _ _ _ (Nat.zero_le _) (by decide)).mono ?_); (rintro e w14 ⟨rfl, hm14⟩); replace HMZ : Hid (Mod (fun _ => False) w w14) := Lib.hid (HMZ.out.trans hm14); clear hm14 hq)
         | (go_at_call 10; (with_reducible refine (cverify_longC _ _ _ _ _ (by decide)).mono ?_); (rintro e w10 ⟨rfl, hm10⟩); have HF1 := Lib.hid trivial; replace HMZ : Hid (Mod (fun _ => False) w (w10.alloc (.cells #[.int .i64 0, .int .i64 0] 46))) := Lib.hid ((HMZ.out.trans hm10).alloc _); clear hm10)
         | (go_at_call 15; (with_reducible refine (cfinal_long _ _ _ _ (by decide)).mono ?_); (rintro e w12 ⟨rfl, hm12⟩); have HF2 := Lib.hid trivial; replace HMZ : Hid (Mod (fun _ => False) w w12) := Lib.hid (HMZ.out.trans hm12); clear hm12)
         | (have hq := HF2.out; at_make; refine wpList_make_full _ rfl _ _ 51 rfl 0 74 i1 _ 13 Tryz.underlying51 HI1.out.1 HI1.out.2.1 HI1.out.2.2.1 _ _ _ _ 4097 rfl rfl rfl rfl (by have := HI1.out.2.2.2; omega) (by unfold maxLen; omega) (Nat.zero_le _) ?_; intro w13 hs13 hg13; replace HMZ : Hid (Mod (fun _ => False) w w13) := Lib.hid (HMZ.out.grown hg13 (fun b hb => by cases hb)); clear hs13 hg13 hq)
         | (at_make; refine wpList_make_full _ rfl _ _ 49 rfl 0 67 i0 _ 14 Tryz.underlying49 HI0.out.1 HI0.out.2.1 HI0.out.2.2.1 _ _ _ _ 4097 rfl rfl rfl rfl (by have := HI0.out.2.2.2; omega) (by unfold maxLen; omega) (Nat.zero_le _) ?_; intro w9 hs9 hg9; replace HMZ : Hid (Mod (fun _ => False) w w9) := Lib.hid (HMZ.out.grown hg9 (fun b hb => by cases hb)); clear hs9 hg9))
       go_ret
       exact ⟨rfl, HMZ.out.alloc _⟩
     · skip
       have g1 : decide (to_ ≤ yfr) = false := by simpa using h1
       have g2 : decide (yto ≤ fr) = false := by simpa using h2
       have HK1 : Hid (ordersI fr to_ yfr yto = 0) := Lib.hid (by unfold ordersI; simp [h1, h2])
       have HK2 : Hid (ordersI yfr yto fr to_ = 0) := Lib.hid (by unfold ordersI; simp [h1, h2])
       rw [HK1.out] at HO1
       rw [HK2.out] at HO2
       clear h1 h2 p0 p1 p2 p3 p4 p5 p6 p7 p8 p9 p10 p11 p12 q0 q1 q2 q3 q4 q5 q6 q7 q8 q9 q10 q11 q12
       obtain ⟨p0, p1, p2, p3, p4, p5, p6, p7, p8, p9, p10, p11, p12, q0, q1, q2, q3, q4, q5, q6, q7, q8, q9, q10, q11, q12⟩ := HPX.out
       have p0 : ∀ z : MW wc, z.w.cell? _ = some _ := fun z => z.cell p0
       have p1 : ∀ z : MW wc, z.w.cell? _ = some _ := fun z => z.cell p1
       have p2 : ∀ z : MW wc, z.w.cell? _ = some _ := fun z => z.cell p2
       have p3 : ∀ z : MW wc, z.w.cell? _ = some _ := fun z => z.cell p3
       have p4 : ∀ z : MW wc, z.w.cell? _ = some _ := fun z => z.cell p4
       have p5 : ∀ z : MW wc, z.w.cell? _ = some _ := fun z => z.cell p5
       have p6 : ∀ z : MW wc, z.w.cell? _ = some _ := fun z => z.cell p6
       have p7 : ∀ z : MW wc, z.w.cell? _ = some _ := fun z => z.cell p7
       have p8 : ∀ z : MW wc, z.w.cell? _ = some _ := fun z => z.cell p8
       have p9 : ∀ z : MW wc, z.w.cell? _ = some _ := fun z => z.cell p9
       have p10 : ∀ z : MW wc, z.w.cell? _ = some _ := fun z => z.cell p10
       have p11 : ∀ z : MW wc, z.w.cell? _ = some _ := fun z => z.cell p11
       have p12 : ∀ z : MW wc, z.w.cell? _ = some _ := fun z => z.cell p12
       have q0 : ∀ z : MW wc, z.w.cell? _ = some _ := fun z => z.cell q0
       have q1 : ∀ z : MW wc, z.w.cell? _ = some _ := fun z => z.cell q1
       have q2 : ∀ z : MW wc, z.w.cell? _ = some _ := fun z => z.cell q2
       have q3 : ∀ z : MW wc, z.w.cell? _ = some _ := fun z => z.cell q3
       have q4 : ∀ z : MW wc, z.w.cell? _ = some _ := fun z => z.cell q4
       have q5 : ∀ z : MW wc, z.w.cell? _ = some _ := fun z => z.cell q5
       have q6 : ∀ z : MW wc, z.w.cell? _ = some _ := fun z => z.cell q6
       have q7 : ∀ z : MW wc, z.w.cell? _ = some _ := fun z => z.cell q7
       have q8 : ∀ z : MW wc, z.w.cell? _ = some _ := fun z => z.cell q8
       have q9 : ∀ z : MW wc, z.w.cell? _ = some _ := fun z => z.cell q9
       have q10 : ∀ z : MW wc, z.w.cell? _ = some _ := fun z => z.cell q10
       have q11 : ∀ z : MW wc, z.w.cell? _ = some _ := fun z => z.cell q11
       have q12 : ∀ z : MW wc, z.w.cell? _ = some _ := fun z => z.cell q12
       go_step
       go_wp2_with fail
       refine wp_region_quietM (by kernel_rfl) (by kernel_rfl) ?_
       repeat (go_big_quiet_step ((go_at_call 21; exact HO1.out _)))
       refine wpQuiet_nil ?_
       intro w6 hm6
       have M6 : Hid (Mod (fun _ => False) wc w6) := Lib.hid (MW.mod_of hm6)
       clear hm6 p0 p1 p2 p3 p4 p5 p6 p7 p8 p9 p10 p11 p12 q0 q1 q2 q3 q4 q5 q6 q7 q8 q9 q10 q11 q12
       obtain ⟨k0, k1, k2, k3, k4, k5, k6, k7, k8, k9, k10, k11, k12, k13, k14, k15, k16, k17, k18, k19, k20, k21, k22, k23, k24, k25⟩ := HKEEP.out w6 (HMC.out.trans M6.out)
       have k0 : ∀ z : MW w6, z.w.cell? _ = some _ := fun z => z.cell k0
       have k1 : ∀ z : MW w6, z.w.cell? _ = some _ := fun z => z.cell k1
       have k2 : ∀ z : MW w6, z.w.cell? _ = some _ := fun z => z.cell k2
       have k3 : ∀ z : MW w6, z.w.cell? _ = some _ := fun z => z.cell k3
       have k4 : ∀ z : MW w6, z.w.cell? _ = some _ := fun z => z.cell k4
       have k5 : ∀ z : MW w6, z.w.cell? _ = some _ := fun z => z.cell k5
       have k6 : ∀ z : MW w6, z.w.cell? _ = some _ := fun z => z.cell k6
       have k7 : ∀ z : MW w6, z.w.cell? _ = some _ := fun z => z.cell k7
       have k8 : ∀ z : MW w6, z.w.cell? _ = some _ := fun z => z.cell k8
       have k9 : ∀ z : MW w6, z.w.cell? _ = some _ := fun z => z.cell k9
       have k10 : ∀ z : MW w6, z.w.cell? _ = some _ := fun z => z.cell k10
       have k11 : ∀ z : MW w6, z.w.cell? _ = some _ := fun z => z.cell k11
       have k12 : ∀ z : MW w6, z.w.cell? _ = some _ := fun z => z.cell k12
       have k13 : ∀ z : MW w6, z.w.cell? _ = some _ := fun z => z.cell k13
       have k14 : ∀ z : MW w6, z.w.cell? _ = some _ := fun z => z.cell k14
       have k15 : ∀ z : MW w6, z.w.cell? _ = some _ := fun z => z.cell k15
       have k16 : ∀ z : MW w6, z.w.cell? _ = some _ := fun z => z.cell k16
       have k17 : ∀ z : MW w6, z.w.cell? _ = some _ := fun z => z.cell k17
       have k18 : ∀ z : MW w6, z.w.cell? _ = some _ := fun z => z.cell k18
       have k19 : ∀ z : MW w6, z.w.cell? _ = some _ := fun z => z.cell k19
       have k20 : ∀ z : MW w6, z.w.cell? _ = some _ := fun z => z.cell k20
       have k21 : ∀ z : MW w6, z.w.cell? _ = some _ := fun z => z.cell k21
       have k22 : ∀ z : MW w6, z.w.cell? _ = some _ := fun z => z.cell k22
       have k23 : ∀ z : MW w6, z.w.cell? _ = some _ := fun z => z.cell k23
       have k24 : ∀ z : MW w6, z.w.cell? _ = some _ := fun z => z.cell k24
       have k25 : ∀ z : MW w6, z.w.cell? _ = some _ := fun z => z.cell k25
       go_wp2_with fail
       refine wp_region_quietM (by kernel_rfl) (by kernel_rfl) ?_
       repeat (go_big_quiet_step (fail))
       refine wpQuiet_nil ?_
       intro w7 hm7
       have M7 : Hid (Mod (fun _ => False) wc w7) := Lib.hid (M6.out.trans (MW.mod_of hm7))
       clear hm7 k0 k1 k2 k3 k4 k5 k6 k7 k8 k9 k10 k11 k12 k13 k14 k15 k16 k17 k18 k19 k20 k21 k22 k23 k24 k25
       obtain ⟨p0, p1, p2, p3, p4, p5, p6, p7, p8, p9, p10, p11, p12, q0, q1, q2, q3, q4, q5, q6, q7, q8, q9, q10, q11, q12⟩ := HPX.out
       have p0 : ∀ z : MW w7, z.w.cell? _ = some _ := fun z => z.cell (M7.out.cell p0)
       have p1 : ∀ z : MW w7, z.w.cell? _ = some _ := fun z => z.cell (M7.out.cell p1)
       have p2 : ∀ z : MW w7, z.w.cell? _ = some _ := fun z => z.cell (M7.out.cell p2)
       have p3 : ∀ z : MW w7, z.w.cell? _ = some _ := fun z => z.cell (M7.out.cell p3)
       have p4 : ∀ z : MW w7, z.w.cell? _ = some _ := fun z => z.cell (M7.out.cell p4)
       have p5 : ∀ z : MW w7, z.w.cell? _ = some _ := fun z => z.cell (M7.out.cell p5)
       have p6 : ∀ z : MW w7, z.w.cell? _ = some _ := fun z => z.cell (M7.out.cell p6)
       have p7 : ∀ z : MW w7, z.w.cell? _ = some _ := fun z => z.cell (M7.out.cell p7)
       have p8 : ∀ z : MW w7, z.w.cell? _ = some _ := fun z => z.cell (M7.out.cell p8)
       have p9 : ∀ z : MW w7, z.w.cell? _ = some _ := fun z => z.cell (M7.out.cell p9)
       have p10 : ∀ z : MW w7, z.w.cell? _ = some _ := fun z => z.cell (M7.out.cell p10)
       have p11 : ∀ z : MW w7, z.w.cell? _ = some _ := fun z => z.cell (M7.out.cell p11)
       have p12 : ∀ z : MW w7, z.w.cell? _ = some _ := fun z => z.cell (M7.out.cell p12)
       have q0 : ∀ z : MW w7, z.w.cell? _ = some _ := fun z => z.cell (M7.out.cell q0)
       have q1 : ∀ z : MW w7, z.w.cell? _ = some _ := fun z => z.cell (M7.out.cell q1)
       have q2 : ∀ z : MW w7, z.w.cell? _ = some _ := fun z => z.cell (M7.out.cell q2)
       have q3 : ∀ z : MW w7, z.w.cell? _ = some _ := fun z => z.cell (M7.out.cell q3)
       have q4 : ∀ z : MW w7, z.w.cell? _ = some _ := fun z => z.cell (M7.out.cell q4)
       have q5 : ∀ z : MW w7, z.w.cell? _ = some _ := fun z => z.cell (M7.out.cell q5)
       have q6 : ∀ z : MW w7, z.w.cell? _ = some _ := fun z => z.cell (M7.out.cell q6)
       have q7 : ∀ z : MW w7, z.w.cell? _ = some _ := fun z => z.cell (M7.out.cell q7)
       have q8 : ∀ z : MW w7, z.w.cell? _ = some _ := fun z => z.cell (M7.out.cell q8)
       have q9 : ∀ z : MW w7, z.w.cell? _ = some _ := fun z => z.cell (M7.out.cell q9)
       have q10 : ∀ z : MW w7, z.w.cell? _ = some _ := fun z => z.cell (M7.out.cell q10)
       have q11 : ∀ z : MW w7, z.w.cell? _ = some _ := fun z => z.cell (M7.out.cell q11)
       have q12 : ∀ z : MW w7, z.w.cell? _ = some _ := fun z => z.cell (M7.out.cell q12)
       have HO3 : Hid (∀ z : MW w7, Calls Tryz.prog 21 _ z.w fun e w'' => _ ∧ ∃ x'' : MW w7, w'' = x''.w) := Lib.hid (fun z => Calls.quietM (HO2.out z.w (M7.out.trans z.mod)))
       go_wp2_with fail
       refine wp_region_quietM (by kernel_rfl) (by kernel_rfl) ?_
       repeat (go_big_quiet_step ((go_at_call 21; exact HO3.out _)))
       refine wpQuiet_nil ?_
       intro w8 hm8
       have HMZ : Hid (Mod (fun _ => False) w w8) := Lib.hid (HM0.out.trans (HMC.out.trans (M7.out.trans (MW.mod_of hm8))))
       clear hm8 p0 p1 p2 p3 p4 p5 p6 p7 p8 p9 p10 p11 p12 q0 q1 q2 q3 q4 q5 q6 q7 q8 q9 q10 q11 q12
       go_wp2_with (first
         | (have hq := HF2.out; go_at_call 10; (with_reducible refine (cverify_longR _ _ _ _ _ _ _ (Nat.zero_le _) (by decide)).mono ?_); (rintro e w14 ⟨rfl, hm14⟩); replace HMZ : Hid (Mod (fun _ => False) w w14) := Lib.hid (HMZ.out.trans hm14); clear hm14 hq)
         | (go_at_call 10; (with_reducible refine (cverify_longC _ _ _ _ _ (by decide)).mono ?_); (rintro e w10 ⟨rfl, hm10⟩); have HF1 := Lib.hid trivial; replace HMZ : Hid (Mod (fun _ => False) w (w10.alloc (.cells #[.int .i64 0, .int .i64 0] 46))) := Lib.hid ((HMZ.out.trans hm10).alloc _); clear hm10)
         | (go_at_call 15; (with_reducible refine (cfinal_long _ _ _ _ (by decide)).mono ?_); (rintro e w12 ⟨rfl, hm12⟩); have HF2 := Lib.hid trivial; replace HMZ : Hid (Mod (fun _ => False) w w12) := Lib.hid (HMZ.out.trans hm12); clear hm12)
         | (have hq := HF2.out; at_make; refine wpList_make_full _ rfl _ _ 51 rfl 0 74 i1 _ 13 Tryz.underlying51 HI1.out.1 HI1.out.2.1 HI1.out.2.2.1 _ _ _ _ 4097 rfl rfl rfl rfl (by have := HI1.out.2.2.2; omega) (by unfold maxLen; omega) (Nat.zero_le _) ?_; intro w13 hs13 hg13; replace HMZ : Hid (Mod (fun _ => False) w w13) := Lib.hid (HMZ.out.grown hg13 (fun b hb => by cases hb)); clear hs13 hg13 hq)
         | (at_make; refine wpList_make_full _ rfl _ _ 49 rfl 0 67 i0 _ 14 Tryz.underlying49 HI0.out.1 HI0.out.2.1 HI0.out.2.2.1 _ _ _ _ 4097 rfl rfl rfl rfl (by have := HI0.out.2.2.2; omega) (by unfold maxLen; omega) (Nat.zero_le _) ?_; intro w9 hs9 hg9; replace HMZ : Hid (Mod (fun _ => False) w w9) := Lib.hid (HMZ.out.grown hg9 (fun b hb => by cases hb)); clear hs9 hg9))
       go_ret
       exact ⟨rfl, HMZ.out.alloc _⟩
end Go.Proofs.YtpigipgoopeeoaaGreatDoor
