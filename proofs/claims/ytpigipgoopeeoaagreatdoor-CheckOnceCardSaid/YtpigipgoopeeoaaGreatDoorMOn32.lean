import Derived.Test.YtpigipgoopeeoaaGreatDoorMOn31
set_option linter.unusedVariables false
set_option linter.unusedSimpArgs false
namespace Go.Proofs.YtpigipgoopeeoaaGreatDoor
open Go.RowKit Go.Maps
structure CV (l : List Cm) (v : Value) (b2 b7 bm nm : Nat) (w : World) : Prop where
 com : CRd Cm.c14 14 w v l
 box : w.heap[b2]? = some (.cells #[v] 49 (0, 0))
 at_ : w.heap[b7]? = some (.cells #[.map (some bm)] 86 (0, 0))
 map : NMap Tryz.prog 90 w bm nm (placeV (l.map Cm.x))
theorem CV.keep {l : List Cm} {v : Value} {b2 b7 bm nm : Nat} {w w' : World} (h : CV l v b2 b7 bm nm w) (m : Mod (fun _ => False) w w') : CV l v b2 b7 bm nm w' := ⟨h.com.keep m, m.heap h.box (fun f => f), m.heap h.at_ (fun f => f), h.map.keep m⟩
set_option maxRecDepth 100000 in
set_option maxHeartbeats 4000000 in
theorem v1_any (l : List Cm) (v : Value) (b2 b7 bm nm : Nat) (x : Cm) (w : World) (h : CV l v b2 b7 bm nm w) (hx : x.Rd w) :
   Calls Tryz.prog 28 #[.agg x.c13.toArray, .pointer (some ⟨b7, 0, none⟩), .pointer (some ⟨b2, 0, none⟩)] w fun e w' => e = .returned (.bool (meets (l.map Cm.x) x.x)) ∧ Mod (fun _ => False) w w' := by
 have H := Lib.hid h
 have HX := Lib.hid hx
 obtain ⟨ao, co, hvo⟩ := hx.vo_eq
 obtain ⟨av, cv, hvv⟩ := hx.vv_eq
 obtain ⟨al, cl, hvl⟩ := hx.vl_eq
 obtain ⟨wq, hwq⟩ : ∃ wq, wq = w := ⟨_, rfl⟩
 have HAL : Hid (∀ (y : Cm) w', y.Rd w → Mod (fun _ => False) w w' → Calls Tryz.prog 29 #[rqV y.x.r y.vo, rqV x.x.r x.vo] w' fun e w'' => e = .returned (.bool (decide (y.x.r = x.x.r))) ∧ Mod (fun _ => False) w' w'') := Lib.hid (fun y w' hy m => alike_any y.x.r x.x.r y.vo x.vo w' (hy.keep m).ops (HX.out.keep m).ops)
 have HSA : Hid (∀ (y : Cm) w', y.Rd w → Mod (fun _ => False) w w' → Calls Tryz.prog 30 #[.agg #[.int .i64 y.x.e, .int .i64 y.x.p, y.vv, y.vl], .agg #[.int .i64 x.x.e, .int .i64 x.x.p, x.vv, x.vl]] w' fun e w'' => e = .returned (.bool (sameC y.x x.x)) ∧ Mod (fun _ => False) w' w'') := Lib.hid (fun y w' hy m => csame_any _ _ _ _ y.x.vals x.x.vals y.x.list x.x.list y.vv y.vl x.vv x.vl w' (hy.keep m).vals (HX.out.keep m).vals (hy.keep m).list (HX.out.keep m).list)
 have HNM := Lib.hid hx.nm
 obtain ⟨a, c, hva, hc1, hc2, -⟩ := h.com.row.shape
 obtain ⟨m, hm⟩ : ∃ m, m = l.length := ⟨_, rfl⟩
 have HML := Lib.hid hm
 rw [← hm] at hva hc1
 subst hva
 obtain ⟨xx, hxx⟩ : ∃ xx, xx = x.x := ⟨_, rfl⟩
 rw [← hxx]
 have HXX := Lib.hid hxx
 clear h hx hm hwq hxx
 obtain ⟨⟨xc, xq, ⟨kind, ops, rv, rk, rd⟩, ae, ap, vals, list, fr, to_⟩, vo, vv, vl⟩ := x
 simp only at hvo hvv hvl
 subst hvo hvv hvl
 obtain ⟨no, hno⟩ : ∃ n, n = ops.length := ⟨_, rfl⟩
 obtain ⟨nv, hnv⟩ : ∃ n, n = vals.length := ⟨_, rfl⟩
 obtain ⟨nl, hnl⟩ : ∃ n, n = list.length := ⟨_, rfl⟩
 simp only [Cm.c13, Cx.nm, rqV, ← hno, ← hnv, ← hnl] at HAL HSA HNM HXX ⊢
 have HW : Hid (CV l (.slice a m c) b2 b7 bm nm (w.alloc (.cells #[.int .u8 (xc : Int), .int .u32 (xq : Int), .int .u8 (kind : Int), .slice ao no co, .int .u32 (rv : Int), .int .i64 rk, .int .i64 rd, .int .i64 ae, .int .i64 ap, .slice av nv cv, .slice al nl cl, .int .i64 fr, .int .i64 to_] 74))) := Lib.hid (H.out.keep ((Mod.refl _ _).alloc _))
 have HMW : Hid (Mod (fun _ => False) w (w.alloc (.cells #[.int .u8 (xc : Int), .int .u32 (xq : Int), .int .u8 (kind : Int), .slice ao no co, .int .u32 (rv : Int), .int .i64 rk, .int .i64 rd, .int .i64 ae, .int .i64 ap, .slice av nv cv, .slice al nl cl, .int .i64 fr, .int .i64 to_] 74))) := Lib.hid ((Mod.refl _ _).alloc _)
 have lk := HW.out.map.getOk (k := (xc, xq)) HNM.out
 simp only [nameV] at lk
 have q7 := cell_of_row H.out.at_ 0
 have z7 := lt_of_block H.out.at_
 have q2 := cell_of_row H.out.box 0
 have z2 := lt_of_block H.out.box
 simp at q7 q2
 have n7 : ¬ b7 = w.heap.size := by omega
 have n2 : ¬ b2 = w.heap.size := by omega
 clear hno hnv hnl
 cases hp : placeOf (l.map Cm.x) (xc, xq) with
 | none =>
   have hv : placeV (l.map Cm.x) (xc, xq) = none := by unfold placeV; rw [hp]; rfl
   have HME : Hid (meets (l.map Cm.x) xx = false) := Lib.hid (by rw [HXX.out]; unfold meets; simp only [Cx.nm]; rw [hp])
   rw [HME.out]
   rw [hv] at lk
   simp only [Option.getD_none, Option.isSome_none] at lk
   clear hp hv HME HXX
   go_enter Tryz.func28, Tryz.ntmps28
   go_wp2_with fail
   refine wp_region_quietM (by kernel_rfl) (by kernel_rfl) ?_
   repeat (go_big_quiet_step (fail))
   refine wpQuiet_nil ?_
   intro w3 hm3
   have M3 : Hid (Mod (fun _ => False) w w3) := Lib.hid (HMW.out.trans (MW.mod_of hm3))
   clear hm3 q7 q2 lk
   go_wp2
   go_ret
   exact ⟨rfl, M3.out⟩
 | some i =>
   have hv : placeV (l.map Cm.x) (xc, xq) = some (.int .i64 (i : Int)) := by unfold placeV; rw [hp]; rfl
   rw [hv] at lk
   simp only [Option.getD_some, Option.isSome_some] at lk
   have hil : i < m := by
     have h := hp
     unfold placeOf at h
     rw [List.findIdx?_eq_some_iff_getElem] at h
     obtain ⟨h1, -⟩ := h
     rw [List.length_map] at h1
     rw [HML.out]; exact h1
   obtain ⟨y, hy⟩ : ∃ y, l[i]? = some y := ⟨_, List.getElem?_eq_getElem (by rw [← HML.out]; exact hil)⟩
   have hyy : (l.map Cm.x)[i]? = some y.x := by rw [List.getElem?_map, hy]; rfl
   obtain ⟨b, off, e1, hb, hcs⟩ := CRd.ent (cells := Cm.c14) (size := 14) (fun _ => rfl) (by decide) H.out.com hy rfl
   subst e1
   have hry := H.out.com.at hy
   have HAL := Lib.hid (fun w' m => HAL.out y w' hry m)
   have HSA := Lib.hid (fun w' m => HSA.out y w' hry m)
   obtain ⟨yo, yoc, gvo⟩ := hry.vo_eq
   obtain ⟨yv, yvc, gvv⟩ := hry.vv_eq
   obtain ⟨yl, ylc, gvl⟩ := hry.vl_eq
   have HME : Hid (meets (l.map Cm.x) xx = (decide (fr ≤ (i : Int)) && (decide ((i : Int) < to_) && (decide (y.x.r = ⟨kind, ops, rv, rk, rd⟩) && sameC y.x xx)))) := Lib.hid (by rw [HXX.out]; unfold meets; simp only [Cx.nm]; rw [hp]; simp only; rw [hyy])
   rw [HME.out]
   obtain ⟨b3, hb3⟩ : ∃ b, b = decide (y.x.r = ⟨kind, ops, rv, rk, rd⟩) := ⟨_, rfl⟩
   obtain ⟨b4, hb4⟩ : ∃ b, b = sameC y.x xx := ⟨_, rfl⟩
   rw [← hb3, ← hb4]
   simp only [← hb3] at HAL
   rw [HXX.out] at hb4
   simp only [← hb4] at HSA
   clear hp hv HME HXX hy hyy hry hb3 hb4
   obtain ⟨⟨yc, yq, ⟨ykind, yops, yrv, yrk, yrd⟩, ye, yp, yvals, ylist, yfr, yto⟩, yvo, yvv, yvl⟩ := y
   simp only at gvo gvv gvl
   subst gvo gvv gvl
   obtain ⟨yno, hyno⟩ : ∃ n, n = yops.length := ⟨_, rfl⟩
   obtain ⟨ynv, hynv⟩ : ∃ n, n = yvals.length := ⟨_, rfl⟩
   obtain ⟨ynl, hynl⟩ : ∃ n, n = ylist.length := ⟨_, rfl⟩
   simp only [Cm.c14, ← hyno, ← hynv, ← hynl] at HAL HSA hcs
   have p5 := hcs 5 (by omega)
   have p6 := hcs 6 (by omega)
   have p7 := hcs 7 (by omega)
   have p8 := hcs 8 (by omega)
   have p9 := hcs 9 (by omega)
   have p10 := hcs 10 (by omega)
   have p11 := hcs 11 (by omega)
   have p12 := hcs 12 (by omega)
   have p13 := hcs 13 (by omega)
   simp only [List.getElem?_cons_succ, List.getElem?_cons_zero, ← Nat.add_assoc] at p5 p6 p7 p8 p9 p10 p11 p12 p13
   have p5 : ∀ x : MW (w.alloc (.cells #[.int .u8 (xc : Int), .int .u32 (xq : Int), .int .u8 (kind : Int), .slice ao no co, .int .u32 (rv : Int), .int .i64 rk, .int .i64 rd, .int .i64 ae, .int .i64 ap, .slice av nv cv, .slice al nl cl, .int .i64 fr, .int .i64 to_] 74)), x.w.cell? _ = some _ := fun x => x.cell (HMW.out.cell p5)
   have p6 : ∀ x : MW (w.alloc (.cells #[.int .u8 (xc : Int), .int .u32 (xq : Int), .int .u8 (kind : Int), .slice ao no co, .int .u32 (rv : Int), .int .i64 rk, .int .i64 rd, .int .i64 ae, .int .i64 ap, .slice av nv cv, .slice al nl cl, .int .i64 fr, .int .i64 to_] 74)), x.w.cell? _ = some _ := fun x => x.cell (HMW.out.cell p6)
   have p7 : ∀ x : MW (w.alloc (.cells #[.int .u8 (xc : Int), .int .u32 (xq : Int), .int .u8 (kind : Int), .slice ao no co, .int .u32 (rv : Int), .int .i64 rk, .int .i64 rd, .int .i64 ae, .int .i64 ap, .slice av nv cv, .slice al nl cl, .int .i64 fr, .int .i64 to_] 74)), x.w.cell? _ = some _ := fun x => x.cell (HMW.out.cell p7)
   have p8 : ∀ x : MW (w.alloc (.cells #[.int .u8 (xc : Int), .int .u32 (xq : Int), .int .u8 (kind : Int), .slice ao no co, .int .u32 (rv : Int), .int .i64 rk, .int .i64 rd, .int .i64 ae, .int .i64 ap, .slice av nv cv, .slice al nl cl, .int .i64 fr, .int .i64 to_] 74)), x.w.cell? _ = some _ := fun x => x.cell (HMW.out.cell p8)
   have p9 : ∀ x : MW (w.alloc (.cells #[.int .u8 (xc : Int), .int .u32 (xq : Int), .int .u8 (kind : Int), .slice ao no co, .int .u32 (rv : Int), .int .i64 rk, .int .i64 rd, .int .i64 ae, .int .i64 ap, .slice av nv cv, .slice al nl cl, .int .i64 fr, .int .i64 to_] 74)), x.w.cell? _ = some _ := fun x => x.cell (HMW.out.cell p9)
   have p10 : ∀ x : MW (w.alloc (.cells #[.int .u8 (xc : Int), .int .u32 (xq : Int), .int .u8 (kind : Int), .slice ao no co, .int .u32 (rv : Int), .int .i64 rk, .int .i64 rd, .int .i64 ae, .int .i64 ap, .slice av nv cv, .slice al nl cl, .int .i64 fr, .int .i64 to_] 74)), x.w.cell? _ = some _ := fun x => x.cell (HMW.out.cell p10)
   have p11 : ∀ x : MW (w.alloc (.cells #[.int .u8 (xc : Int), .int .u32 (xq : Int), .int .u8 (kind : Int), .slice ao no co, .int .u32 (rv : Int), .int .i64 rk, .int .i64 rd, .int .i64 ae, .int .i64 ap, .slice av nv cv, .slice al nl cl, .int .i64 fr, .int .i64 to_] 74)), x.w.cell? _ = some _ := fun x => x.cell (HMW.out.cell p11)
   have p12 : ∀ x : MW (w.alloc (.cells #[.int .u8 (xc : Int), .int .u32 (xq : Int), .int .u8 (kind : Int), .slice ao no co, .int .u32 (rv : Int), .int .i64 rk, .int .i64 rd, .int .i64 ae, .int .i64 ap, .slice av nv cv, .slice al nl cl, .int .i64 fr, .int .i64 to_] 74)), x.w.cell? _ = some _ := fun x => x.cell (HMW.out.cell p12)
   have p13 : ∀ x : MW (w.alloc (.cells #[.int .u8 (xc : Int), .int .u32 (xq : Int), .int .u8 (kind : Int), .slice ao no co, .int .u32 (rv : Int), .int .i64 rk, .int .i64 rd, .int .i64 ae, .int .i64 ap, .slice av nv cv, .slice al nl cl, .int .i64 fr, .int .i64 to_] 74)), x.w.cell? _ = some _ := fun x => x.cell (HMW.out.cell p13)
   have d2 : ∀ x : MW (w.alloc (.cells #[.int .u8 (xc : Int), .int .u32 (xq : Int), .int .u8 (kind : Int), .slice ao no co, .int .u32 (rv : Int), .int .i64 rk, .int .i64 rd, .int .i64 ae, .int .i64 ap, .slice av nv cv, .slice al nl cl, .int .i64 fr, .int .i64 to_] 74)), x.w.cell? ⟨w.heap.size, 2, none⟩ = some _ := fun x => x.cell (cell_of_row (heap_alloc_new' w _) 2)
   have d3 : ∀ x : MW (w.alloc (.cells #[.int .u8 (xc : Int), .int .u32 (xq : Int), .int .u8 (kind : Int), .slice ao no co, .int .u32 (rv : Int), .int .i64 rk, .int .i64 rd, .int .i64 ae, .int .i64 ap, .slice av nv cv, .slice al nl cl, .int .i64 fr, .int .i64 to_] 74)), x.w.cell? ⟨w.heap.size, 3, none⟩ = some _ := fun x => x.cell (cell_of_row (heap_alloc_new' w _) 3)
   have d4 : ∀ x : MW (w.alloc (.cells #[.int .u8 (xc : Int), .int .u32 (xq : Int), .int .u8 (kind : Int), .slice ao no co, .int .u32 (rv : Int), .int .i64 rk, .int .i64 rd, .int .i64 ae, .int .i64 ap, .slice av nv cv, .slice al nl cl, .int .i64 fr, .int .i64 to_] 74)), x.w.cell? ⟨w.heap.size, 4, none⟩ = some _ := fun x => x.cell (cell_of_row (heap_alloc_new' w _) 4)
   have d5 : ∀ x : MW (w.alloc (.cells #[.int .u8 (xc : Int), .int .u32 (xq : Int), .int .u8 (kind : Int), .slice ao no co, .int .u32 (rv : Int), .int .i64 rk, .int .i64 rd, .int .i64 ae, .int .i64 ap, .slice av nv cv, .slice al nl cl, .int .i64 fr, .int .i64 to_] 74)), x.w.cell? ⟨w.heap.size, 5, none⟩ = some _ := fun x => x.cell (cell_of_row (heap_alloc_new' w _) 5)
   have d6 : ∀ x : MW (w.alloc (.cells #[.int .u8 (xc : Int), .int .u32 (xq : Int), .int .u8 (kind : Int), .slice ao no co, .int .u32 (rv : Int), .int .i64 rk, .int .i64 rd, .int .i64 ae, .int .i64 ap, .slice av nv cv, .slice al nl cl, .int .i64 fr, .int .i64 to_] 74)), x.w.cell? ⟨w.heap.size, 6, none⟩ = some _ := fun x => x.cell (cell_of_row (heap_alloc_new' w _) 6)
   have d7 : ∀ x : MW (w.alloc (.cells #[.int .u8 (xc : Int), .int .u32 (xq : Int), .int .u8 (kind : Int), .slice ao no co, .int .u32 (rv : Int), .int .i64 rk, .int .i64 rd, .int .i64 ae, .int .i64 ap, .slice av nv cv, .slice al nl cl, .int .i64 fr, .int .i64 to_] 74)), x.w.cell? ⟨w.heap.size, 7, none⟩ = some _ := fun x => x.cell (cell_of_row (heap_alloc_new' w _) 7)
   have d8 : ∀ x : MW (w.alloc (.cells #[.int .u8 (xc : Int), .int .u32 (xq : Int), .int .u8 (kind : Int), .slice ao no co, .int .u32 (rv : Int), .int .i64 rk, .int .i64 rd, .int .i64 ae, .int .i64 ap, .slice av nv cv, .slice al nl cl, .int .i64 fr, .int .i64 to_] 74)), x.w.cell? ⟨w.heap.size, 8, none⟩ = some _ := fun x => x.cell (cell_of_row (heap_alloc_new' w _) 8)
   have d9 : ∀ x : MW (w.alloc (.cells #[.int .u8 (xc : Int), .int .u32 (xq : Int), .int .u8 (kind : Int), .slice ao no co, .int .u32 (rv : Int), .int .i64 rk, .int .i64 rd, .int .i64 ae, .int .i64 ap, .slice av nv cv, .slice al nl cl, .int .i64 fr, .int .i64 to_] 74)), x.w.cell? ⟨w.heap.size, 9, none⟩ = some _ := fun x => x.cell (cell_of_row (heap_alloc_new' w _) 9)
   have d10 : ∀ x : MW (w.alloc (.cells #[.int .u8 (xc : Int), .int .u32 (xq : Int), .int .u8 (kind : Int), .slice ao no co, .int .u32 (rv : Int), .int .i64 rk, .int .i64 rd, .int .i64 ae, .int .i64 ap, .slice av nv cv, .slice al nl cl, .int .i64 fr, .int .i64 to_] 74)), x.w.cell? ⟨w.heap.size, 10, none⟩ = some _ := fun x => x.cell (cell_of_row (heap_alloc_new' w _) 10)
   have d11 : ∀ x : MW (w.alloc (.cells #[.int .u8 (xc : Int), .int .u32 (xq : Int), .int .u8 (kind : Int), .slice ao no co, .int .u32 (rv : Int), .int .i64 rk, .int .i64 rd, .int .i64 ae, .int .i64 ap, .slice av nv cv, .slice al nl cl, .int .i64 fr, .int .i64 to_] 74)), x.w.cell? ⟨w.heap.size, 11, none⟩ = some _ := fun x => x.cell (cell_of_row (heap_alloc_new' w _) 11)
   have d12 : ∀ x : MW (w.alloc (.cells #[.int .u8 (xc : Int), .int .u32 (xq : Int), .int .u8 (kind : Int), .slice ao no co, .int .u32 (rv : Int), .int .i64 rk, .int .i64 rd, .int .i64 ae, .int .i64 ap, .slice av nv cv, .slice al nl cl, .int .i64 fr, .int .i64 to_] 74)), x.w.cell? ⟨w.heap.size, 12, none⟩ = some _ := fun x => x.cell (cell_of_row (heap_alloc_new' w _) 12)
   have e2 : ∀ x : MW (w.alloc (.cells #[.int .u8 (xc : Int), .int .u32 (xq : Int), .int .u8 (kind : Int), .slice ao no co, .int .u32 (rv : Int), .int .i64 rk, .int .i64 rd, .int .i64 ae, .int .i64 ap, .slice av nv cv, .slice al nl cl, .int .i64 fr, .int .i64 to_] 74)), x.w.cell? ⟨b2, 0, none⟩ = some _ := fun x => x.cell (HMW.out.cell q2)
   have HAQ : Hid (∀ x : MW (w.alloc (.cells #[.int .u8 (xc : Int), .int .u32 (xq : Int), .int .u8 (kind : Int), .slice ao no co, .int .u32 (rv : Int), .int .i64 rk, .int .i64 rd, .int .i64 ae, .int .i64 ap, .slice av nv cv, .slice al nl cl, .int .i64 fr, .int .i64 to_] 74)), Calls Tryz.prog 29 #[.agg #[.int .u8 (ykind : Int), .slice yo yno yoc, .int .u32 (yrv : Int), .int .i64 yrk, .int .i64 yrd], .agg #[.int .u8 (kind : Int), .slice ao no co, .int .u32 (rv : Int), .int .i64 rk, .int .i64 rd]] x.w fun e w'' => e = .returned (.bool b3) ∧ ∃ x' : MW (w.alloc (.cells #[.int .u8 (xc : Int), .int .u32 (xq : Int), .int .u8 (kind : Int), .slice ao no co, .int .u32 (rv : Int), .int .i64 rk, .int .i64 rd, .int .i64 ae, .int .i64 ap, .slice av nv cv, .slice al nl cl, .int .i64 fr, .int .i64 to_] 74)), w'' = x'.w) := Lib.hid (fun x => Calls.quietM (HAL.out x.w (HMW.out.trans x.mod)))
   have HSQ : Hid (∀ x : MW (w.alloc (.cells #[.int .u8 (xc : Int), .int .u32 (xq : Int), .int .u8 (kind : Int), .slice ao no co, .int .u32 (rv : Int), .int .i64 rk, .int .i64 rd, .int .i64 ae, .int .i64 ap, .slice av nv cv, .slice al nl cl, .int .i64 fr, .int .i64 to_] 74)), Calls Tryz.prog 30 #[.agg #[.int .i64 ye, .int .i64 yp, .slice yv ynv yvc, .slice yl ynl ylc], .agg #[.int .i64 ae, .int .i64 ap, .slice av nv cv, .slice al nl cl]] x.w fun e w'' => e = .returned (.bool b4) ∧ ∃ x' : MW (w.alloc (.cells #[.int .u8 (xc : Int), .int .u32 (xq : Int), .int .u8 (kind : Int), .slice ao no co, .int .u32 (rv : Int), .int .i64 rk, .int .i64 rd, .int .i64 ae, .int .i64 ap, .slice av nv cv, .slice al nl cl, .int .i64 fr, .int .i64 to_] 74)), w'' = x'.w) := Lib.hid (fun x => Calls.quietM (HSA.out x.w (HMW.out.trans x.mod)))
   clear hyno hynv hynl hcs HAL HSA
   by_cases h1 : fr ≤ (i : Int)
   · have g1 : decide (fr ≤ (i : Int)) = true := by simpa using h1
     rw [g1]
     by_cases h2 : (i : Int) < to_
     · have g2 : decide ((i : Int) < to_) = true := by simpa using h2
       rw [g2]
       cases b3 with
       | true =>
         go_enter Tryz.func28, Tryz.ntmps28
         go_wp2_with fail
         refine wp_region_quietM (by kernel_rfl) (by kernel_rfl) ?_
         repeat (go_big_quiet_step (first | (go_at_call 30; exact HSQ.out _) | (go_at_call 29; exact HAQ.out _)))
         refine wpQuiet_nil ?_
         intro w3 hm3
         have M3 : Hid (Mod (fun _ => False) w w3) := Lib.hid (HMW.out.trans (MW.mod_of hm3))
         clear hm3 q7 q2 lk e2 p5 p6 p7 p8 p9 p10 p11 p12 p13 d2 d3 d4 d5 d6 d7 d8 d9 d10 d11 d12
         go_wp2
         go_ret
         exact ⟨by simp, M3.out⟩
       | false =>
         go_enter Tryz.func28, Tryz.ntmps28
         go_wp2_with fail
         refine wp_region_quietM (by kernel_rfl) (by kernel_rfl) ?_
         repeat (go_big_quiet_step (first | (go_at_call 30; exact HSQ.out _) | (go_at_call 29; exact HAQ.out _)))
         refine wpQuiet_nil ?_
         intro w3 hm3
         have M3 : Hid (Mod (fun _ => False) w w3) := Lib.hid (HMW.out.trans (MW.mod_of hm3))
         clear hm3 q7 q2 lk e2 p5 p6 p7 p8 p9 p10 p11 p12 p13 d2 d3 d4 d5 d6 d7 d8 d9 d10 d11 d12
         go_wp2
         go_ret
         exact ⟨by simp, M3.out⟩
     · have g2 : decide ((i : Int) < to_) = false := by simpa using h2
       rw [g2]
       go_enter Tryz.func28, Tryz.ntmps28
       go_wp2_with fail
       refine wp_region_quietM (by kernel_rfl) (by kernel_rfl) ?_
       repeat (go_big_quiet_step (first | (go_at_call 30; exact HSQ.out _) | (go_at_call 29; exact HAQ.out _)))
       refine wpQuiet_nil ?_
       intro w3 hm3
       have M3 : Hid (Mod (fun _ => False) w w3) := Lib.hid (HMW.out.trans (MW.mod_of hm3))
       clear hm3 q7 q2 lk e2 p5 p6 p7 p8 p9 p10 p11 p12 p13 d2 d3 d4 d5 d6 d7 d8 d9 d10 d11 d12
       go_wp2
       go_ret
       exact ⟨by simp, M3.out⟩
   · have g1 : decide (fr ≤ (i : Int)) = false := by simpa using h1
     rw [g1]
     go_enter Tryz.func28, Tryz.ntmps28
     go_wp2_with fail
     refine wp_region_quietM (by kernel_rfl) (by kernel_rfl) ?_
     repeat (go_big_quiet_step (first | (go_at_call 30; exact HSQ.out _) | (go_at_call 29; exact HAQ.out _)))
     refine wpQuiet_nil ?_
     intro w3 hm3
     have M3 : Hid (Mod (fun _ => False) w w3) := Lib.hid (HMW.out.trans (MW.mod_of hm3))
     clear hm3 q7 q2 lk e2 p5 p6 p7 p8 p9 p10 p11 p12 p13 d2 d3 d4 d5 d6 d7 d8 d9 d10 d11 d12
     go_wp2
     go_ret
     exact ⟨by simp, M3.out⟩
end Go.Proofs.YtpigipgoopeeoaaGreatDoor
