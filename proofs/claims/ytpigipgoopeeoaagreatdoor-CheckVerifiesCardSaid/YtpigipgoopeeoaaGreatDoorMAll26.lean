import Derived.Test.YtpigipgoopeeoaaGreatDoorMAll25
set_option linter.unusedVariables false
set_option linter.unusedSimpArgs false
namespace Go.Proofs.YtpigipgoopeeoaaGreatDoor
open Go.RowKit Go.Maps
set_option maxRecDepth 100000 in
set_option maxHeartbeats 4000000 in
theorem v2_any (l : List Cm) (v : Value) (b2 b7 bm nm : Nat) (x : Cm) (w : World) (h : CV l v b2 b7 bm nm w) (hx : x.Rd w) :
   Calls Tryz.prog 31 #[.agg x.c13.toArray, .pointer (some ⟨b7, 0, none⟩)] w fun e w' => e = .returned (.bool (placeOf (l.map Cm.x) x.x.nm).isSome) ∧ Mod (fun _ => False) w w' := by
 have H := Lib.hid h
 have HX := Lib.hid hx
 obtain ⟨ao, co, hvo⟩ := hx.vo_eq
 obtain ⟨av, cv, hvv⟩ := hx.vv_eq
 obtain ⟨al, cl, hvl⟩ := hx.vl_eq
 have HNM := Lib.hid hx.nm
 clear h hx
 obtain ⟨⟨xc, xq, ⟨kind, ops, rv, rk, rd⟩, ae, ap, vals, list, fr, to_⟩, vo, vv, vl⟩ := x
 simp only at hvo hvv hvl
 subst hvo hvv hvl
 obtain ⟨no, hno⟩ : ∃ n, n = ops.length := ⟨_, rfl⟩
 obtain ⟨nv, hnv⟩ : ∃ n, n = vals.length := ⟨_, rfl⟩
 obtain ⟨nl, hnl⟩ : ∃ n, n = list.length := ⟨_, rfl⟩
 simp only [Cm.c13, Cx.nm, ← hno, ← hnv, ← hnl] at HNM ⊢
 have HMW : Hid (Mod (fun _ => False) w (w.alloc (.cells #[.int .u8 (xc : Int), .int .u32 (xq : Int), .int .u8 (kind : Int), .slice ao no co, .int .u32 (rv : Int), .int .i64 rk, .int .i64 rd, .int .i64 ae, .int .i64 ap, .slice av nv cv, .slice al nl cl, .int .i64 fr, .int .i64 to_] 74))) := Lib.hid ((Mod.refl _ _).alloc _)
 have lk := (H.out.map.keep HMW.out).getOk (k := (xc, xq)) HNM.out
 simp only [nameV] at lk
 have q7 := cell_of_row H.out.at_ 0
 have z7 := lt_of_block H.out.at_
 simp at q7
 have n7 : ¬ b7 = w.heap.size := by omega
 clear hno hnv hnl
 have hv : (placeV (l.map Cm.x) (xc, xq)).isSome = (placeOf (l.map Cm.x) (xc, xq)).isSome := by unfold placeV; cases placeOf (l.map Cm.x) (xc, xq) <;> rfl
 rw [hv] at lk
 obtain ⟨bb, hbb⟩ : ∃ b, b = (placeOf (l.map Cm.x) (xc, xq)).isSome := ⟨_, rfl⟩
 obtain ⟨vv, hvv⟩ : ∃ v, v = (placeV (l.map Cm.x) (xc, xq)).getD (.int .i64 0) := ⟨_, rfl⟩
 rw [← hbb] at lk ⊢
 rw [← hvv] at lk
 clear hbb hvv hv
 go_enter Tryz.func31, Tryz.ntmps31
 go_wp2
 go_ret
 exact ⟨rfl, HMW.out⟩
set_option maxRecDepth 100000 in
set_option maxHeartbeats 4000000 in
theorem v3_any (l : List Cm) (v : Value) (b2 b7 b8 bm nm : Nat) (x : Cm) (w : World) (h : CV l v b2 b7 bm nm w) (h8 : w.heap[b8]? = some (.cells #[.func (.func 28) #[] #[.pointer (some ⟨b7, 0, none⟩), .pointer (some ⟨b2, 0, none⟩)]] 91 (0, 0))) (hx : x.Rd w) :
   Calls Tryz.prog 35 #[.agg x.c13.toArray, .pointer (some ⟨b8, 0, none⟩)] w fun e w' => e = .returned (.bool (repA (l.map Cm.x) x.x)) ∧ Mod (fun _ => False) w w' := by
 have H := Lib.hid h
 have HX := Lib.hid hx
 obtain ⟨ao, co, hvo⟩ := hx.vo_eq
 obtain ⟨av, cv, hvv⟩ := hx.vv_eq
 obtain ⟨al, cl, hvl⟩ := hx.vl_eq
 have HCL : Hid (∀ w', Mod (fun _ => False) w w' → Calls Tryz.prog 28 #[.agg x.c13.toArray, .pointer (some ⟨b7, 0, none⟩), .pointer (some ⟨b2, 0, none⟩)] w' fun e w'' => e = .returned (.bool (meets (l.map Cm.x) x.x)) ∧ Mod (fun _ => False) w' w'') := Lib.hid (fun w' m => v1_any l v b2 b7 bm nm x w' (H.out.keep m) (HX.out.keep m))
 have HGV : Hid (∀ w', Calls Tryz.prog 36 #[.agg #[.int .i64 x.x.e, .int .i64 x.x.p, x.vv, x.vl]] w' fun e w'' => e = .returned (.bool x.x.given) ∧ Mod (fun _ => False) w' w'') := Lib.hid (fun w' => given_any _ _ _ _ w')
 obtain ⟨bc, hbc⟩ : ∃ b, b = meets (l.map Cm.x) x.x := ⟨_, rfl⟩
 obtain ⟨bg, hbg⟩ : ∃ b, b = x.x.given := ⟨_, rfl⟩
 have HR : Hid (repA (l.map Cm.x) x.x = (!bg && !bc)) := Lib.hid (by rw [hbc, hbg]; rfl)
 rw [HR.out]
 rw [← hbc] at HCL
 rw [← hbg] at HGV
 clear HR hbc hbg h hx
 obtain ⟨⟨xc, xq, ⟨kind, ops, rv, rk, rd⟩, ae, ap, vals, list, fr, to_⟩, vo, vv, vl⟩ := x
 simp only at hvo hvv hvl
 subst hvo hvv hvl
 obtain ⟨no, hno⟩ : ∃ n, n = ops.length := ⟨_, rfl⟩
 obtain ⟨nv, hnv⟩ : ∃ n, n = vals.length := ⟨_, rfl⟩
 obtain ⟨nl, hnl⟩ : ∃ n, n = list.length := ⟨_, rfl⟩
 simp only [Cm.c13, ← hno, ← hnv, ← hnl] at HCL HGV ⊢
 have HMW : Hid (Mod (fun _ => False) w (w.alloc (.cells #[.int .u8 (xc : Int), .int .u32 (xq : Int), .int .u8 (kind : Int), .slice ao no co, .int .u32 (rv : Int), .int .i64 rk, .int .i64 rd, .int .i64 ae, .int .i64 ap, .slice av nv cv, .slice al nl cl, .int .i64 fr, .int .i64 to_] 74))) := Lib.hid ((Mod.refl _ _).alloc _)
 have HB8 : Hid ((w.alloc (.cells #[.int .u8 (xc : Int), .int .u32 (xq : Int), .int .u8 (kind : Int), .slice ao no co, .int .u32 (rv : Int), .int .i64 rk, .int .i64 rd, .int .i64 ae, .int .i64 ap, .slice av nv cv, .slice al nl cl, .int .i64 fr, .int .i64 to_] 74)).heap[b8]? = some (.cells #[.func (.func 28) #[] #[.pointer (some ⟨b7, 0, none⟩), .pointer (some ⟨b2, 0, none⟩)]] 91 (0, 0))) := Lib.hid (HMW.out.heap h8 (fun f => f))
 have HBX : Hid ((w.alloc (.cells #[.int .u8 (xc : Int), .int .u32 (xq : Int), .int .u8 (kind : Int), .slice ao no co, .int .u32 (rv : Int), .int .i64 rk, .int .i64 rd, .int .i64 ae, .int .i64 ap, .slice av nv cv, .slice al nl cl, .int .i64 fr, .int .i64 to_] 74)).heap[w.heap.size]? = some (.cells #[.int .u8 (xc : Int), .int .u32 (xq : Int), .int .u8 (kind : Int), .slice ao no co, .int .u32 (rv : Int), .int .i64 rk, .int .i64 rd, .int .i64 ae, .int .i64 ap, .slice av nv cv, .slice al nl cl, .int .i64 fr, .int .i64 to_] 74 (0, 0))) := Lib.hid (heap_alloc_new' w _)
 have z8 := lt_of_block h8
 have n8 : ¬ b8 = w.heap.size := by omega
 clear hno hnv hnl h8
 cases bg with
 | true =>
   go_enter Tryz.func35, Tryz.ntmps35
   go_wp2_with (go_at_call 36; go_loud (refine (HGV.out _).mono ?_; (rintro e w3 ⟨rfl, hm3⟩); have M3 : Hid (Mod (fun _ => False) w w3) := Lib.hid (HMW.out.trans hm3); have hb8 := hm3.heap HB8.out (fun f => f); have hbx := hm3.heap HBX.out (fun f => f); have k8 := cell_of_row hb8 0; have zz8 := lt_of_block hb8; have zzx := lt_of_block hbx; have k20 := cell_of_row hbx 0; have k21 := cell_of_row hbx 1; have k22 := cell_of_row hbx 2; have k23 := cell_of_row hbx 3; have k24 := cell_of_row hbx 4; have k25 := cell_of_row hbx 5; have k26 := cell_of_row hbx 6; have k27 := cell_of_row hbx 7; have k28 := cell_of_row hbx 8; have k29 := cell_of_row hbx 9; have k30 := cell_of_row hbx 10; have k31 := cell_of_row hbx 11; have k32 := cell_of_row hbx 12; simp at k8 k20 k21 k22 k23 k24 k25 k26 k27 k28 k29 k30 k31 k32; clear hm3 hb8 hbx))
   go_ret
   exact ⟨by simp, M3.out⟩
 | false =>
   go_enter Tryz.func35, Tryz.ntmps35
   go_wp2_with (first
     | (have hq := M3.out; go_at_call 28; go_loud (refine (HCL.out _ M3.out).mono ?_; (rintro e w4 ⟨rfl, hm4⟩); have M4 : Hid (Mod (fun _ => False) w w4) := Lib.hid (M3.out.trans hm4); clear hm4 hq))
     | (go_at_call 36; go_loud (refine (HGV.out _).mono ?_; (rintro e w3 ⟨rfl, hm3⟩); have M3 : Hid (Mod (fun _ => False) w w3) := Lib.hid (HMW.out.trans hm3); have hb8 := hm3.heap HB8.out (fun f => f); have hbx := hm3.heap HBX.out (fun f => f); have k8 := cell_of_row hb8 0; have zz8 := lt_of_block hb8; have zzx := lt_of_block hbx; have k20 := cell_of_row hbx 0; have k21 := cell_of_row hbx 1; have k22 := cell_of_row hbx 2; have k23 := cell_of_row hbx 3; have k24 := cell_of_row hbx 4; have k25 := cell_of_row hbx 5; have k26 := cell_of_row hbx 6; have k27 := cell_of_row hbx 7; have k28 := cell_of_row hbx 8; have k29 := cell_of_row hbx 9; have k30 := cell_of_row hbx 10; have k31 := cell_of_row hbx 11; have k32 := cell_of_row hbx 12; simp at k8 k20 k21 k22 k23 k24 k25 k26 k27 k28 k29 k30 k31 k32; clear hm3 hb8 hbx)))
   go_ret
   exact ⟨by simp, M4.out⟩
set_option maxRecDepth 100000 in
set_option maxHeartbeats 4000000 in
theorem v4_any (l : List Cm) (v : Value) (b2 b7 b8 bm nm : Nat) (x : Cm) (w : World) (h : CV l v b2 b7 bm nm w) (h8 : w.heap[b8]? = some (.cells #[.func (.func 31) #[] #[.pointer (some ⟨b7, 0, none⟩)]] 91 (0, 0))) (hx : x.Rd w) :
   Calls Tryz.prog 37 #[.agg x.c13.toArray, .pointer (some ⟨b8, 0, none⟩)] w fun e w' => e = .returned (.bool (repB (l.map Cm.x) x.x)) ∧ Mod (fun _ => False) w w' := by
 have H := Lib.hid h
 have HX := Lib.hid hx
 obtain ⟨ao, co, hvo⟩ := hx.vo_eq
 obtain ⟨av, cv, hvv⟩ := hx.vv_eq
 obtain ⟨al, cl, hvl⟩ := hx.vl_eq
 have HCL : Hid (∀ w', Mod (fun _ => False) w w' → Calls Tryz.prog 31 #[.agg x.c13.toArray, .pointer (some ⟨b7, 0, none⟩)] w' fun e w'' => e = .returned (.bool ((placeOf (l.map Cm.x) x.x.nm).isSome)) ∧ Mod (fun _ => False) w' w'') := Lib.hid (fun w' m => v2_any l v b2 b7 bm nm x w' (H.out.keep m) (HX.out.keep m))
 have HGV : Hid (∀ w', Calls Tryz.prog 36 #[.agg #[.int .i64 x.x.e, .int .i64 x.x.p, x.vv, x.vl]] w' fun e w'' => e = .returned (.bool x.x.given) ∧ Mod (fun _ => False) w' w'') := Lib.hid (fun w' => given_any _ _ _ _ w')
 obtain ⟨bc, hbc⟩ : ∃ b, b = (placeOf (l.map Cm.x) x.x.nm).isSome := ⟨_, rfl⟩
 obtain ⟨bg, hbg⟩ : ∃ b, b = x.x.given := ⟨_, rfl⟩
 have HR : Hid (repB (l.map Cm.x) x.x = (bg && bc)) := Lib.hid (by rw [hbc, hbg]; rfl)
 rw [HR.out]
 rw [← hbc] at HCL
 rw [← hbg] at HGV
 clear HR hbc hbg h hx
 obtain ⟨⟨xc, xq, ⟨kind, ops, rv, rk, rd⟩, ae, ap, vals, list, fr, to_⟩, vo, vv, vl⟩ := x
 simp only at hvo hvv hvl
 subst hvo hvv hvl
 obtain ⟨no, hno⟩ : ∃ n, n = ops.length := ⟨_, rfl⟩
 obtain ⟨nv, hnv⟩ : ∃ n, n = vals.length := ⟨_, rfl⟩
 obtain ⟨nl, hnl⟩ : ∃ n, n = list.length := ⟨_, rfl⟩
 simp only [Cm.c13, ← hno, ← hnv, ← hnl] at HCL HGV ⊢
 have HMW : Hid (Mod (fun _ => False) w (w.alloc (.cells #[.int .u8 (xc : Int), .int .u32 (xq : Int), .int .u8 (kind : Int), .slice ao no co, .int .u32 (rv : Int), .int .i64 rk, .int .i64 rd, .int .i64 ae, .int .i64 ap, .slice av nv cv, .slice al nl cl, .int .i64 fr, .int .i64 to_] 74))) := Lib.hid ((Mod.refl _ _).alloc _)
 have HB8 : Hid ((w.alloc (.cells #[.int .u8 (xc : Int), .int .u32 (xq : Int), .int .u8 (kind : Int), .slice ao no co, .int .u32 (rv : Int), .int .i64 rk, .int .i64 rd, .int .i64 ae, .int .i64 ap, .slice av nv cv, .slice al nl cl, .int .i64 fr, .int .i64 to_] 74)).heap[b8]? = some (.cells #[.func (.func 31) #[] #[.pointer (some ⟨b7, 0, none⟩)]] 91 (0, 0))) := Lib.hid (HMW.out.heap h8 (fun f => f))
 have HBX : Hid ((w.alloc (.cells #[.int .u8 (xc : Int), .int .u32 (xq : Int), .int .u8 (kind : Int), .slice ao no co, .int .u32 (rv : Int), .int .i64 rk, .int .i64 rd, .int .i64 ae, .int .i64 ap, .slice av nv cv, .slice al nl cl, .int .i64 fr, .int .i64 to_] 74)).heap[w.heap.size]? = some (.cells #[.int .u8 (xc : Int), .int .u32 (xq : Int), .int .u8 (kind : Int), .slice ao no co, .int .u32 (rv : Int), .int .i64 rk, .int .i64 rd, .int .i64 ae, .int .i64 ap, .slice av nv cv, .slice al nl cl, .int .i64 fr, .int .i64 to_] 74 (0, 0))) := Lib.hid (heap_alloc_new' w _)
 have z8 := lt_of_block h8
 have n8 : ¬ b8 = w.heap.size := by omega
 clear hno hnv hnl h8
 cases bg with
 | false =>
   go_enter Tryz.func37, Tryz.ntmps37
   go_wp2_with (go_at_call 36; go_loud (refine (HGV.out _).mono ?_; (rintro e w3 ⟨rfl, hm3⟩); have M3 : Hid (Mod (fun _ => False) w w3) := Lib.hid (HMW.out.trans hm3); have hb8 := hm3.heap HB8.out (fun f => f); have hbx := hm3.heap HBX.out (fun f => f); have k8 := cell_of_row hb8 0; have zz8 := lt_of_block hb8; have zzx := lt_of_block hbx; have k20 := cell_of_row hbx 0; have k21 := cell_of_row hbx 1; have k22 := cell_of_row hbx 2; have k23 := cell_of_row hbx 3; have k24 := cell_of_row hbx 4; have k25 := cell_of_row hbx 5; have k26 := cell_of_row hbx 6; have k27 := cell_of_row hbx 7; have k28 := cell_of_row hbx 8; have k29 := cell_of_row hbx 9; have k30 := cell_of_row hbx 10; have k31 := cell_of_row hbx 11; have k32 := cell_of_row hbx 12; simp at k8 k20 k21 k22 k23 k24 k25 k26 k27 k28 k29 k30 k31 k32; clear hm3 hb8 hbx))
   go_ret
   exact ⟨by simp, M3.out⟩
 | true =>
   go_enter Tryz.func37, Tryz.ntmps37
   go_wp2_with (first
     | (have hq := M3.out; go_at_call 31; go_loud (refine (HCL.out _ M3.out).mono ?_; (rintro e w4 ⟨rfl, hm4⟩); have M4 : Hid (Mod (fun _ => False) w w4) := Lib.hid (M3.out.trans hm4); clear hm4 hq))
     | (go_at_call 36; go_loud (refine (HGV.out _).mono ?_; (rintro e w3 ⟨rfl, hm3⟩); have M3 : Hid (Mod (fun _ => False) w w3) := Lib.hid (HMW.out.trans hm3); have hb8 := hm3.heap HB8.out (fun f => f); have hbx := hm3.heap HBX.out (fun f => f); have k8 := cell_of_row hb8 0; have zz8 := lt_of_block hb8; have zzx := lt_of_block hbx; have k20 := cell_of_row hbx 0; have k21 := cell_of_row hbx 1; have k22 := cell_of_row hbx 2; have k23 := cell_of_row hbx 3; have k24 := cell_of_row hbx 4; have k25 := cell_of_row hbx 5; have k26 := cell_of_row hbx 6; have k27 := cell_of_row hbx 7; have k28 := cell_of_row hbx 8; have k29 := cell_of_row hbx 9; have k30 := cell_of_row hbx 10; have k31 := cell_of_row hbx 11; have k32 := cell_of_row hbx 12; simp at k8 k20 k21 k22 k23 k24 k25 k26 k27 k28 k29 k30 k31 k32; clear hm3 hb8 hbx)))
   go_ret
   exact ⟨by simp, M4.out⟩
theorem firstR_some {p : Cx → Bool} {l : List Cx} {k : Nat} {x : Cx} (hx : l[k]? = some x) (hp : p x = true) (h : ∀ j, j < k → ∀ y, l[j]? = some y → p y = false) : firstR p l = some k := by
 obtain ⟨h1, h2⟩ := List.getElem?_eq_some_iff.1 hx
 unfold firstR
 rw [List.findIdx?_eq_some_iff_getElem]
 refine ⟨h1, by rw [h2]; exact hp, fun j hj => ?_⟩
 have := h j hj _ (List.getElem?_eq_getElem (by omega))
 rw [this]; simp
theorem firstR_none {p : Cx → Bool} {l : List Cx} (h : ∀ (j : Nat) (y : Cx), l[j]? = some y → p y = false) : firstR p l = none := by
 unfold firstR
 rw [List.findIdx?_eq_none_iff]
 intro y hy
 obtain ⟨j, hj⟩ := List.getElem?_of_mem hy
 exact h j y hj
set_option maxRecDepth 100000 in
set_option maxHeartbeats 4000000 in
theorem idxA_any (u : Value) (rs : List Cm) (l : List Cm) (v : Value) (b2 b7 b8 bm nm : Nat) (w : World) (hu : CRd Cm.c13 13 w u rs) (h : CV l v b2 b7 bm nm w) (h8 : w.heap[b8]? = some (.cells #[.func (.func 28) #[] #[.pointer (some ⟨b7, 0, none⟩), .pointer (some ⟨b2, 0, none⟩)]] 91 (0, 0))) :
   Calls Tryz.prog 34 #[u, .func (.func 35) #[] #[.pointer (some ⟨b8, 0, none⟩)]] w fun e w' => e = .returned (.int .i64 (placeZ (firstR (repA (l.map Cm.x)) (rs.map Cm.x)))) ∧ Mod (fun _ => False) w w' := by
 have HV := Lib.hid hu
 have H := Lib.hid h
 have H8 := Lib.hid h8
 obtain ⟨a, c, rfl, hc1, hc2, -⟩ := hu.row.shape
 obtain ⟨m, hm⟩ : ∃ m, m = rs.length := ⟨_, rfl⟩
 have HML := Lib.hid hm
 rw [← hm] at HV hc1 ⊢
 clear hu hm h h8
 go_enter Tryz.func34, Tryz.ntmps34
 go_wp2
 go_loopw [8] (fun i wr => ∃ k : Nat, i = .int .i64 (k : Int) ∧ k ≤ m ∧ Mod (fun _ => False) w wr ∧ ∀ j, j < k → ∀ y, (rs.map Cm.x)[j]? = some y → repA (l.map Cm.x) y = false) (fun i _ => m - (intOf i).toNat)
 case atStart => exact ⟨0, rfl, Nat.zero_le _, Mod.refl _ _, fun j hj => by omega⟩
 case round =>
   obtain ⟨k, rfl, hk, hkp, hok⟩ := hrel
   have HK := Lib.hid hkp
   have HOK := Lib.hid hok
   clear hkp hok
   by_cases hkm : k < m
   · obtain ⟨x, hx⟩ : ∃ x, rs[k]? = some x := ⟨_, List.getElem?_eq_getElem (by rw [← HML.out]; exact hkm)⟩
     obtain ⟨b, off, e1, hb, hcs⟩ := CRd.ent (cells := Cm.c13) (size := 13) (fun _ => rfl) (by decide) HV.out hx rfl
     subst e1
     have hxx : (rs.map Cm.x)[k]? = some x.x := by rw [List.getElem?_map, hx]; rfl
     have HXX := Lib.hid hxx
     have HRX := Lib.hid ((HV.out.at hx).keep HK.out)
     have HCL := Lib.hid (v3_any l v b2 b7 b8 bm nm x wr (H.out.keep HK.out) (HK.out.heap H8.out (fun f => f)) HRX.out)
     have hcs : ∀ j, j < 13 → ∀ u, x.c13[j]? = some u → wr.cell? ⟨b, off + (k * 13 + j), none⟩ = some u := fun j hj u hu => HK.out.cell ((hcs j hj).trans hu)
     obtain ⟨ao, co, hvo⟩ := HRX.out.vo_eq
     obtain ⟨av, cv, hvv⟩ := HRX.out.vv_eq
     obtain ⟨al, cl, hvl⟩ := HRX.out.vl_eq
     obtain ⟨bad, hbad⟩ : ∃ b, b = repA (l.map Cm.x) x.x := ⟨_, rfl⟩
     rw [← hbad] at HCL
     have HBAD := Lib.hid hbad
     clear hx hxx HRX hbad
     obtain ⟨⟨xc, xq, ⟨kind, ops, rv, rk, rd⟩, ae, ap, vals, list, fr, to_⟩, vo, vv, vl⟩ := x
     simp only at hvo hvv hvl
     subst hvo hvv hvl
     obtain ⟨no, hno⟩ : ∃ n, n = ops.length := ⟨_, rfl⟩
     obtain ⟨nv, hnv⟩ : ∃ n, n = vals.length := ⟨_, rfl⟩
     obtain ⟨nl, hnl⟩ : ∃ n, n = list.length := ⟨_, rfl⟩
     simp only [Cm.c13, ← hno, ← hnv, ← hnl] at HCL hcs
     have p0 := hcs 0 (by omega) _ rfl
     have p1 := hcs 1 (by omega) _ rfl
     have p2 := hcs 2 (by omega) _ rfl
     have p3 := hcs 3 (by omega) _ rfl
     have p4 := hcs 4 (by omega) _ rfl
     have p5 := hcs 5 (by omega) _ rfl
     have p6 := hcs 6 (by omega) _ rfl
     have p7 := hcs 7 (by omega) _ rfl
     have p8 := hcs 8 (by omega) _ rfl
     have p9 := hcs 9 (by omega) _ rfl
     have p10 := hcs 10 (by omega) _ rfl
     have p11 := hcs 11 (by omega) _ rfl
     have p12 := hcs 12 (by omega) _ rfl
     simp only [← Nat.add_assoc, Nat.add_zero] at p0 p1 p2 p3 p4 p5 p6 p7 p8 p9 p10 p11 p12
     have zb := Nat.lt_of_lt_of_le hb HK.out.size
     clear hcs hb hno hnv hnl
     cases bad with
     | true =>
       have HFI : Hid (firstR (repA (l.map Cm.x)) (rs.map Cm.x) = some k) := Lib.hid (firstR_some HXX.out HBAD.out.symm HOK.out)
       go_wp2_with (go_at_call 35; go_loud (refine HCL.out.mono ?_; (rintro e w4 ⟨rfl, hm4⟩); have HK4 := Lib.hid (HK.out.trans hm4); clear hm4))
       go_ret
       exact ⟨by rw [HFI.out]; rfl, HK4.out⟩
     | false =>
       have HOK2 : Hid (∀ j, j < k + 1 → ∀ y, (rs.map Cm.x)[j]? = some y → repA (l.map Cm.x) y = false) := Lib.hid (fun j hj y hy => by
         by_cases e : j < k
         · exact HOK.out j e y hy
         · obtain rfl : j = k := by omega
           rw [HXX.out] at hy
           injection hy with hy
           rw [← hy]; exact HBAD.out.symm)
       go_wp2_with (go_at_call 35; go_loud (refine HCL.out.mono ?_; (rintro e w4 ⟨rfl, hm4⟩); have HK4 := Lib.hid (HK.out.trans hm4); clear hm4))
       go_roundw
       case rel => exact ⟨k + 1, by go_num, by omega, HK4.out, HOK2.out⟩
       case measure => simp [intOf]; omega
   · have HFI : Hid (firstR (repA (l.map Cm.x)) (rs.map Cm.x) = none) := Lib.hid (firstR_none (fun j y hy => HOK.out j (by have := (List.getElem?_eq_some_iff.1 hy).1; rw [List.length_map, ← HML.out] at this; omega) y hy))
     go_wp2
     go_ret
     exact ⟨by rw [HFI.out]; rfl, HK.out⟩
set_option maxRecDepth 100000 in
set_option maxHeartbeats 4000000 in
theorem idxB_any (u : Value) (rs : List Cm) (l : List Cm) (v : Value) (b2 b7 b8 bm nm : Nat) (w : World) (hu : CRd Cm.c13 13 w u rs) (h : CV l v b2 b7 bm nm w) (h8 : w.heap[b8]? = some (.cells #[.func (.func 31) #[] #[.pointer (some ⟨b7, 0, none⟩)]] 91 (0, 0))) :
   Calls Tryz.prog 34 #[u, .func (.func 37) #[] #[.pointer (some ⟨b8, 0, none⟩)]] w fun e w' => e = .returned (.int .i64 (placeZ (firstR (repB (l.map Cm.x)) (rs.map Cm.x)))) ∧ Mod (fun _ => False) w w' := by
 have HV := Lib.hid hu
 have H := Lib.hid h
 have H8 := Lib.hid h8
 obtain ⟨a, c, rfl, hc1, hc2, -⟩ := hu.row.shape
 obtain ⟨m, hm⟩ : ∃ m, m = rs.length := ⟨_, rfl⟩
 have HML := Lib.hid hm
 rw [← hm] at HV hc1 ⊢
 clear hu hm h h8
 go_enter Tryz.func34, Tryz.ntmps34
 go_wp2
 go_loopw [8] (fun i wr => ∃ k : Nat, i = .int .i64 (k : Int) ∧ k ≤ m ∧ Mod (fun _ => False) w wr ∧ ∀ j, j < k → ∀ y, (rs.map Cm.x)[j]? = some y → repB (l.map Cm.x) y = false) (fun i _ => m - (intOf i).toNat)
 case atStart => exact ⟨0, rfl, Nat.zero_le _, Mod.refl _ _, fun j hj => by omega⟩
 case round =>
   obtain ⟨k, rfl, hk, hkp, hok⟩ := hrel
   have HK := Lib.hid hkp
   have HOK := Lib.hid hok
   clear hkp hok
   by_cases hkm : k < m
   · obtain ⟨x, hx⟩ : ∃ x, rs[k]? = some x := ⟨_, List.getElem?_eq_getElem (by rw [← HML.out]; exact hkm)⟩
     obtain ⟨b, off, e1, hb, hcs⟩ := CRd.ent (cells := Cm.c13) (size := 13) (fun _ => rfl) (by decide) HV.out hx rfl
     subst e1
     have hxx : (rs.map Cm.x)[k]? = some x.x := by rw [List.getElem?_map, hx]; rfl
     have HXX := Lib.hid hxx
     have HRX := Lib.hid ((HV.out.at hx).keep HK.out)
     have HCL := Lib.hid (v4_any l v b2 b7 b8 bm nm x wr (H.out.keep HK.out) (HK.out.heap H8.out (fun f => f)) HRX.out)
     have hcs : ∀ j, j < 13 → ∀ u, x.c13[j]? = some u → wr.cell? ⟨b, off + (k * 13 + j), none⟩ = some u := fun j hj u hu => HK.out.cell ((hcs j hj).trans hu)
     obtain ⟨ao, co, hvo⟩ := HRX.out.vo_eq
     obtain ⟨av, cv, hvv⟩ := HRX.out.vv_eq
     obtain ⟨al, cl, hvl⟩ := HRX.out.vl_eq
     obtain ⟨bad, hbad⟩ : ∃ b, b = repB (l.map Cm.x) x.x := ⟨_, rfl⟩
     rw [← hbad] at HCL
     have HBAD := Lib.hid hbad
     clear hx hxx HRX hbad
     obtain ⟨⟨xc, xq, ⟨kind, ops, rv, rk, rd⟩, ae, ap, vals, list, fr, to_⟩, vo, vv, vl⟩ := x
     simp only at hvo hvv hvl
     subst hvo hvv hvl
     obtain ⟨no, hno⟩ : ∃ n, n = ops.length := ⟨_, rfl⟩
     obtain ⟨nv, hnv⟩ : ∃ n, n = vals.length := ⟨_, rfl⟩
     obtain ⟨nl, hnl⟩ : ∃ n, n = list.length := ⟨_, rfl⟩
     simp only [Cm.c13, ← hno, ← hnv, ← hnl] at HCL hcs
     have p0 := hcs 0 (by omega) _ rfl
     have p1 := hcs 1 (by omega) _ rfl
     have p2 := hcs 2 (by omega) _ rfl
     have p3 := hcs 3 (by omega) _ rfl
     have p4 := hcs 4 (by omega) _ rfl
     have p5 := hcs 5 (by omega) _ rfl
     have p6 := hcs 6 (by omega) _ rfl
     have p7 := hcs 7 (by omega) _ rfl
     have p8 := hcs 8 (by omega) _ rfl
     have p9 := hcs 9 (by omega) _ rfl
     have p10 := hcs 10 (by omega) _ rfl
     have p11 := hcs 11 (by omega) _ rfl
     have p12 := hcs 12 (by omega) _ rfl
     simp only [← Nat.add_assoc, Nat.add_zero] at p0 p1 p2 p3 p4 p5 p6 p7 p8 p9 p10 p11 p12
     have zb := Nat.lt_of_lt_of_le hb HK.out.size
     clear hcs hb hno hnv hnl
     cases bad with
     | true =>
       have HFI : Hid (firstR (repB (l.map Cm.x)) (rs.map Cm.x) = some k) := Lib.hid (firstR_some HXX.out HBAD.out.symm HOK.out)
       go_wp2_with (go_at_call 37; go_loud (refine HCL.out.mono ?_; (rintro e w4 ⟨rfl, hm4⟩); have HK4 := Lib.hid (HK.out.trans hm4); clear hm4))
       go_ret
       exact ⟨by rw [HFI.out]; rfl, HK4.out⟩
     | false =>
       have HOK2 : Hid (∀ j, j < k + 1 → ∀ y, (rs.map Cm.x)[j]? = some y → repB (l.map Cm.x) y = false) := Lib.hid (fun j hj y hy => by
         by_cases e : j < k
         · exact HOK.out j e y hy
         · obtain rfl : j = k := by omega
           rw [HXX.out] at hy
           injection hy with hy
           rw [← hy]; exact HBAD.out.symm)
       go_wp2_with (go_at_call 37; go_loud (refine HCL.out.mono ?_; (rintro e w4 ⟨rfl, hm4⟩); have HK4 := Lib.hid (HK.out.trans hm4); clear hm4))
       go_roundw
       case rel => exact ⟨k + 1, by go_num, by omega, HK4.out, HOK2.out⟩
       case measure => simp [intOf]; omega
   · have HFI : Hid (firstR (repB (l.map Cm.x)) (rs.map Cm.x) = none) := Lib.hid (firstR_none (fun j y hy => HOK.out j (by have := (List.getElem?_eq_some_iff.1 hy).1; rw [List.length_map, ← HML.out] at this; omega) y hy))
     go_wp2
     go_ret
     exact ⟨by rw [HFI.out]; rfl, HK.out⟩
open Go.RowKit Go.Maps
section
variable {P : Program} {w : World} {e : TypeId}
theorem run_append_fresh (t ty : TypeId) (i : TypeInfo) (z : Value) (size bytes : Nat) (ht : P.underlying t = some (.slice e)) (hi : P.info? e = some i) (hz : i.zero = some z)
   (hsize : i.size = size) (hby : i.bytes = bytes) (hzs : z.cells.size = size) (hsz : 0 < size)
   {g : Nat} (hg : w.heap[g]? = some (.cells #[] e (0, 0))) (x : Value) (m : Nat) (news : List Value) (hx : Src w size x m news)
   (h63 : m ≤ maxLen) (hbytes : m * bytes ≤ 140737488355328) :
   ∃ v' w', (Builtin.append_ #[t, t] ty #[.slice (some ⟨g, 0, none⟩) 0 0, x]).run P w = .ok v' w' ∧ Seg w' e size v' m news ∧ Mod (fun _ => False) w w' ∧ (v'.ownBlock = some g ∨ v'.ownBlock = some w.heap.size) := by
 have hown : Seg w e size (.slice (some ⟨g, 0, none⟩) 0 0) 0 [] := ⟨by simp, by simp, .inr ⟨g, 0, 0, #[], rfl, hg, Nat.le_refl _, Nat.zero_le _, by simp, by simp⟩⟩
 obtain ⟨v', w', hr, hs, hgr, ho⟩ := run_append_seg (P := P) t ty i z size bytes ht hi hz hsize hby hzs hsz hown x m news hx (by omega) (by rw [Nat.zero_add]; exact hbytes)
 refine ⟨v', w', hr, by simpa using hs, ⟨hgr.os, hgr.tape, hgr.output, hgr.size, fun k hk _ => ?_⟩, ho⟩
 by_cases hkg : k = g
 · subst hkg
   by_cases hm : m = 0
   · subst hm
     subst hsize
     have hn : news = [] := List.eq_nil_of_length_eq_zero (by simpa using hx.1)
     subst hn
     have hr2 : (Builtin.append_ #[t, t] ty #[.slice (some ⟨k, 0, none⟩) 0 0, x]).run P w = .ok (.slice (some ⟨k, 0, none⟩) 0 0) w := by
       rcases hx.2.2 with ⟨rfl, _⟩ | ⟨a, c, rfl, hnews⟩
       · simp [Builtin.append_, run_underlying ht, sizeOf, typeInfo, hi, Builtin.lenOf, Builtin.firstCells, storeCells]
       · have hf := run_firstCells_some (P := P) w i.size 0 a 0 c [] hx.1 hnews
         simp [Builtin.append_, run_underlying ht, sizeOf, typeInfo, hi, Builtin.lenOf, storeCells, hf]
     rw [hr2] at hr
     injection hr with _ h2
     rw [← h2]
   · rcases hx.2.2 with ⟨_, h0⟩ | ⟨a, c, rfl, hnews⟩
     · exact absurd h0 hm
     · subst hsize hby
       have hr2 := run_append_grow (P := P) w t ty e i z ht hi hz ⟨k, 0, none⟩ 0 0 [] (by simp) (fun j u hu => by simp at hu) a m c news hx.1 hnews (by omega) (by simp only [maxLen] at h63; omega) (growslice_fits (by omega) (by rw [Nat.zero_add]; exact hbytes))
       rw [hr2] at hr
       injection hr with _ h2
       rw [← h2]
       exact heap_alloc_old' w.drew _ k hk
 · exact hgr.block k hk (fun e => hkg (by injection e))
theorem step_append_fresh {ops : Array Oper} {o : Oper} {a : Act} {K : Act → World → Prop} {Q : Exit → Act → World → Prop} {E : Prop} (hgd : o.guard = none) (s x : Operand) (t : TypeId)
   (ho : o.op = .call { callee := .builtin .append, args := #[s, x], argTypes := #[t, t] })
   (i : TypeInfo) (z : Value) (size bytes : Nat) (ht : P.underlying t = some (.slice e)) (hi : P.info? e = some i) (hz : i.zero = some z)
   (hsize : i.size = size) (hby : i.bytes = bytes) (hzs : z.cells.size = size) (hsz : 0 < size)
   (g : Nat) (hs : a.eval s = .slice (some ⟨g, 0, none⟩) 0 0) (hg : w.heap[g]? = some (.cells #[] e (0, 0))) (xv : Value) (m : Nat) (news : List Value) (hx : a.eval x = xv) (hsrc : Src w size xv m news)
   (h63 : m ≤ maxLen) (hbytes : m * bytes ≤ 140737488355328)
   (h : ∀ v' w', Seg w' e size v' m news → Mod (fun _ => False) w w' → (v'.ownBlock = some g ∨ v'.ownBlock = some w.heap.size) → K (a.put o.dst v') w') :
   if Region.wanted o (yielded ops a.tmps) = true then Oper.wp P o a w K Q else E := by
 have hw : Region.wanted o (yielded ops a.tmps) = true := by simp [Region.wanted, hgd]
 rw [if_pos hw]
 obtain ⟨v', w', hr, h2, h3, h4⟩ := run_append_fresh (P := P) t o.type i z size bytes ht hi hz hsize hby hzs hsz hg xv m news hsrc h63 hbytes
 unfold Oper.wp execOp
 simp only [ho, resolve, invoke, builtin, Sem.run_bind, Sem.run_pure, Result.andThen_ok, List.map_toArray, List.map_cons, List.map_nil, hs, hx, hr]
 exact h v' w' h2 h3 h4
end
structure Cm.Small (c : Cm) : Prop where
 ops : c.x.r.ops.length * 48 ≤ 140737488355328
 vals : c.x.vals.length * 32 ≤ 140737488355328
 list : c.x.list.length * 4 ≤ 140737488355328
def Cm.St (S : Nat → Prop) (w : World) (c : Cm) : Prop := ∀ w', Mod S w w' → c.Rd w'
theorem Cm.St.rd {S : Nat → Prop} {w : World} {c : Cm} (h : c.St S w) : c.Rd w := h w (Mod.refl _ _)
structure CBf (cells : Cm → List Value) (size : Nat) (t : TypeId) (w0 : World) (v : Value) (l : List Cm) (wr : World) : Prop where
 mod : Mod (fun _ => False) w0 wr
 row : Seg wr t size v l.length (l.flatMap cells)
 st : ∀ c ∈ l, c.St (fun k => v.ownBlock = some k) wr
 oa : ∀ b, v.ownBlock = some b → w0.heap.size ≤ b
section
variable {cells : Cm → List Value} {size : Nat} {t : TypeId} {w0 wr wx w3 w5 : World} {v v3 : Value} {l : List Cm}
theorem CBf.start (w0 : World) : CBf cells size t w0 (.slice none 0 0) [] w0 := ⟨Mod.refl _ _, Seg.nil _ _ _, fun c hc => by simp at hc, fun b hb => by simp [Value.ownBlock] at hb⟩
theorem CBf.crd (h : CBf cells size t w0 v l wr) : CRd cells size wr v l := ⟨h.row.rdS, fun c hc => (h.st c hc).rd⟩
theorem CBf.keep (h : CBf cells size t w0 v l wr) (m : Mod (fun _ => False) wr wx) : CBf cells size t w0 v l wx :=
 ⟨h.mod.trans m, h.row.mod m (fun _ _ f => f), fun c hc w' m' => h.st c hc w' ((m.mono (fun _ _ f => f.elim)).trans m'), h.oa⟩
theorem CBf.from (h : CBf cells size t w0 v l wr) {wa : World} (m : Mod (fun _ => False) wa w0) : CBf cells size t wa v l wr := ⟨m.trans h.mod, h.row, h.st, fun b hb => Nat.le_trans m.size (h.oa b hb)⟩
theorem CBf.next (h : CBf cells size t w0 v l w5) {c : Cm} (hc : c.St (fun k => v.ownBlock = some k) w5) (hs : Seg w3 t size v3 (l.length + 1) (l.flatMap cells ++ cells c)) (hg : w5.grownBy w3 v.ownBlock) (ho : v3.ownBlock = v.ownBlock ∨ v3.ownBlock = some w5.heap.size) : CBf cells size t w0 v3 (l ++ [c]) w3 := by
 have m53 : Mod (fun k => v.ownBlock = some k) w5 w3 := (Mod.refl _ w5).grown hg (fun b hb _ => hb)
 refine ⟨h.mod.grown hg (fun b hb hlt => by have := h.oa b hb; omega), by rw [List.length_append, List.flatMap_append]; simpa using hs, fun d hd w' m' => ?_, fun b hb => ?_⟩
 · have hd' : d.St (fun k => v.ownBlock = some k) w5 := by
     rcases List.mem_append.1 hd with hd | hd
     · exact h.st d hd
     · rw [List.mem_singleton] at hd; rw [hd]; exact hc
   refine hd' w' (m53.trans' m' (fun i hi e => ?_))
   rcases ho with e' | e'
   · exact e'.symm.trans e
   · rw [e'] at e; injection e with e; omega
 · rcases ho with e | e
   · exact h.oa b (e ▸ hb)
   · rw [e] at hb; injection hb with hb
     have := h.mod.size; omega
end
theorem Cm.st_new {S : Nat → Prop} {w : World} {c : Cm} (nm : c.x.nm.ok) (hv : c.x.r.v < 4294967296) (hf : ∀ o ∈ c.x.r.ops, o.Fits) (ho : Seg w 79 7 c.vo c.x.r.ops.length (ocells c.x.r.ops)) (hvv : Seg w 77 3 c.vv c.x.vals.length (vvcells c.x.vals)) (hvl : Seg w 32 1 c.vl c.x.list.length (c.x.list.map (keyV .u32)))
   (no : ∀ b, c.vo.ownBlock = some b → ¬ S b) (nv : ∀ b, c.vv.ownBlock = some b → ¬ S b) (nl : ∀ b, c.vl.ownBlock = some b → ¬ S b) : c.St S w := fun w' m =>
 ⟨nm, hv, ⟨(ho.mod m no).rdS, hf⟩, (hvv.mod m nv).rdS, (hvl.mod m nl).rdS⟩
theorem infoDec : (Tryz.prog.info? 67).map (fun i => (i.zero, i.size, i.bytes)) = some (some (.agg #[.int .u8 0, .int .u32 0, .int .u32 0, .int .u8 0, .int .u32 0, .int .u8 0, .slice none 0 0, .int .u32 0, .int .i64 0, .int .i64 0, .int .i64 0, .int .i64 0, .slice none 0 0, .slice none 0 0]), 14, 144) := by kernel_rfl
theorem infoRpl : (Tryz.prog.info? 74).map (fun i => (i.zero, i.size, i.bytes)) = some (some (.agg #[.int .u8 0, .int .u32 0, .int .u8 0, .slice none 0 0, .int .u32 0, .int .i64 0, .int .i64 0, .int .i64 0, .int .i64 0, .slice none 0 0, .slice none 0 0, .int .i64 0, .int .i64 0]), 13, 144) := by kernel_rfl
open Go.RowKit Go.Maps
section
open Go.ChangeShapes Go.WideShapes Go.ChangeAt
variable {H : Type} {enc : TypeId × Value → H} {W : World} {base : Nat} {v : Value} {d : DataW H} {p : List MemPlace}
end
theorem ocells_take (l : List Opr) (k : Nat) : (ocells l).take (k * 7) = ocells (l.take k) := by
 induction l generalizing k with
 | nil => simp [ocells]
 | cons s r ih =>
   cases k with
   | zero => simp [ocells]
   | succ k =>
     have : ocells (s :: r) = s.cells ++ ocells r := by simp [ocells]
     have h2 : ocells (s :: r.take k) = s.cells ++ ocells (r.take k) := by simp [ocells]
     rw [this, show (k + 1) * 7 = s.cells.length + k * 7 by rw [opr_cells s]; omega, List.take_length_add_append, List.take_succ_cons, h2, ih]
theorem ORd.to {w : World} {v : Value} {l : List Opr} (h : ORd w v l) {k : Nat} (hk : k ≤ l.length) (kk : IntKind) :
   ∃ a c, (∀ wx, (Instr.slice 31 v none (some (.int kk k)) none).run Tryz.prog wx = .ok (.slice a k c) wx) ∧ ORd w (.slice a k c) (l.take k) := by
 obtain ⟨v', h1, h2, _⟩ := h.row.cut (by omega) (lo := 0) (hi := k) (Nat.zero_le _) hk Tryz.underlying31 (e := 79) (by kernel_rfl) kk kk none (some (.int kk k)) (.inr ⟨rfl, rfl⟩) (.inl rfl)
 obtain ⟨a, c, rfl, -⟩ := h2.shape
 refine ⟨a, c, by simpa using h1, ?_, fun o ho => h.fits o (List.mem_of_mem_take ho)⟩
 rw [ocells_take] at h2
 simpa [List.length_take, Nat.min_eq_left hk] using h2
end Go.Proofs.YtpigipgoopeeoaaGreatDoor
