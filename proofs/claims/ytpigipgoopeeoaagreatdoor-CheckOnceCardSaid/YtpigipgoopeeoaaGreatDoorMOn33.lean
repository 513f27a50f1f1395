import Derived.Test.YtpigipgoopeeoaaGreatDoorMOn32
set_option linter.unusedVariables false
set_option linter.unusedSimpArgs false
namespace Go.Proofs.YtpigipgoopeeoaaGreatDoor
open Go.RowKit Go.Maps
set_option maxRecDepth 100000 in
set_option maxHeartbeats 4000000 in
theorem v2_any (l : List Cm) (v : Value) (b2 b7 bm nm : Nat) (x : Cm) (w : World) (h : CV l v b2 b7 bm nm w) (hx : x.Rd w) :
   Calls Tryz.prog 31 #[.agg x.c13.toArray, .pointer (some ⟨b7, 0, none⟩)] w fun e w' => e = .returned (.bool (placeOf (l.map Cm.x) x.x.nm).isSome) ∧ Mod (fun _ => False) w w' := by
 have H := Lib.hid h
 have HX := Lib.hid hx
 obtain ⟨ao, co, hvo⟩ := hx.vo_eq
 obtain ⟨av, cv, hvv⟩ := hx.vv_eq
 obtain ⟨al, cl, hvl⟩ := hx.vl_eq
 have HNM := Lib.hid hx.nm
 clear h hx
 obtain ⟨⟨xc, xq, ⟨kind, ops, rv, rk, rd⟩, ae, ap, vals, list, fr, to_⟩, vo, vv, vl⟩ := x
 simp only at hvo hvv hvl
 subst hvo hvv hvl
 obtain ⟨no, hno⟩ : ∃ n, n = ops.length := ⟨_, rfl⟩
 obtain ⟨nv, hnv⟩ : ∃ n, n = vals.length := ⟨_, rfl⟩
 obtain ⟨nl, hnl⟩ : ∃ n, n = list.length := ⟨_, rfl⟩
 simp only [Cm.c13, Cx.nm, ← hno, ← hnv, ← hnl] at HNM ⊢
 have HMW : Hid (Mod (fun _ => False) w (w.alloc (.cells #[.int .u8 (xc : Int), .int .u32 (xq : Int), .int .u8 (kind : Int), .slice ao no co, .int .u32 (rv : Int), .int .i64 rk, .int .i64 rd, .int .i64 ae, .int .i64 ap, .slice av nv cv, .slice al nl cl, .int .i64 fr, .int .i64 to_] 74))) := Lib.hid ((Mod.refl _ _).alloc _)
 have lk := (H.out.map.keep HMW.out).getOk (k := (xc, xq)) HNM.out
 simp only [nameV] at lk
 have q7 := cell_of_row H.out.at_ 0
 have z7 := lt_of_block H.out.at_
 simp at q7
 have n7 : ¬ b7 = w.heap.size := by omega
 clear hno hnv hnl
 have hv : (placeV (l.map Cm.x) (xc, xq)).isSome = (placeOf (l.map Cm.x) (xc, xq)).isSome := by unfold placeV; cases placeOf (l.map Cm.x) (xc, xq) <;> rfl
 rw [hv] at lk
 obtain ⟨bb, hbb⟩ : ∃ b, b = (placeOf (l.map Cm.x) (xc, xq)).isSome := ⟨_, rfl⟩
 obtain ⟨vv, hvv⟩ : ∃ v, v = (placeV (l.map Cm.x) (xc, xq)).getD (.int .i64 0) := ⟨_, rfl⟩
 rw [← hbb] at lk ⊢
 rw [← hvv] at lk
 clear hbb hvv hv
 go_enter Tryz.func31, Tryz.ntmps31
 go_wp2
 go_ret
 exact ⟨rfl, HMW.out⟩
set_option maxRecDepth 100000 in
set_option maxHeartbeats 4000000 in
theorem v3_any (l : List Cm) (v : Value) (b2 b7 b8 bm nm : Nat) (x : Cm) (w : World) (h : CV l v b2 b7 bm nm w) (h8 : w.heap[b8]? = some (.cells #[.func (.func 28) #[] #[.pointer (some ⟨b7, 0, none⟩), .pointer (some ⟨b2, 0, none⟩)]] 91 (0, 0))) (hx : x.Rd w) :
   Calls Tryz.prog 35 #[.agg x.c13.toArray, .pointer (some ⟨b8, 0, none⟩)] w fun e w' => e = .returned (.bool (repA (l.map Cm.x) x.x)) ∧ Mod (fun _ => False) w w' := by
 have H := Lib.hid h
 have HX := Lib.hid hx
 obtain ⟨ao, co, hvo⟩ := hx.vo_eq
 obtain ⟨av, cv, hvv⟩ := hx.vv_eq
 obtain ⟨al, cl, hvl⟩ := hx.vl_eq
 have HCL : Hid (∀ w', Mod (fun _ => False) w w' → Calls Tryz.prog 28 #[.agg x.c13.toArray, .pointer (some ⟨b7, 0, none⟩), .pointer (some ⟨b2, 0, none⟩)] w' fun e w'' => e = .returned (.bool (meets (l.map Cm.x) x.x)) ∧ Mod (fun _ => False) w' w'') := Lib.hid (fun w' m => v1_any l v b2 b7 bm nm x w' (H.out.keep m) (HX.out.keep m))
 have HGV : Hid (∀ w', Calls Tryz.prog 36 #[.agg #[.int .i64 x.x.e, .int .i64 x.x.p, x.vv, x.vl]] w' fun e w'' => e = .returned (.bool x.x.given) ∧ Mod (fun _ => False) w' w'') := Lib.hid (fun w' => given_any _ _ _ _ w')
 obtain ⟨bc, hbc⟩ : ∃ b, b = meets (l.map Cm.x) x.x := ⟨_, rfl⟩
 obtain ⟨bg, hbg⟩ : ∃ b, b = x.x.given := ⟨_, rfl⟩
 have HR : Hid (repA (l.map Cm.x) x.x = (!bg && !bc)) := Lib.hid (by rw [hbc, hbg]; rfl)
 rw [HR.out]
 rw [← hbc] at HCL
 rw [← hbg] at HGV
 clear HR hbc hbg h hx
 obtain ⟨⟨xc, xq, ⟨kind, ops, rv, rk, rd⟩, ae, ap, vals, list, fr, to_⟩, vo, vv, vl⟩ := x
 simp only at hvo hvv hvl
 subst hvo hvv hvl
 obtain ⟨no, hno⟩ : ∃ n, n = ops.length := ⟨_, rfl⟩
 obtain ⟨nv, hnv⟩ : ∃ n, n = vals.length := ⟨_, rfl⟩
 obtain ⟨nl, hnl⟩ : ∃ n, n = list.length := ⟨_, rfl⟩
 simp only [Cm.c13, ← hno, ← hnv, ← hnl] at HCL HGV ⊢
 have HMW : Hid (Mod (fun _ => False) w (w.alloc (.cells #[.int .u8 (xc : Int), .int .u32 (xq : Int), .int .u8 (kind : Int), .slice ao no co, .int .u32 (rv : Int), .int .i64 rk, .int .i64 rd, .int .i64 ae, .int .i64 ap, .slice av nv cv, .slice al nl cl, .int .i64 fr, .int .i64 to_] 74))) := Lib.hid ((Mod.refl _ _).alloc _)
 have HB8 : Hid ((w.alloc (.cells #[.int .u8 (xc : Int), .int .u32 (xq : Int), .int .u8 (kind : Int), .slice ao no co, .int .u32 (rv : Int), .int .i64 rk, .int .i64 rd, .int .i64 ae, .int .i64 ap, .slice av nv cv, .slice al nl cl, .int .i64 fr, .int .i64 to_] 74)).heap[b8]? = some (.cells #[.func (.func 28) #[] #[.pointer (some ⟨b7, 0, none⟩), .pointer (some ⟨b2, 0, none⟩)]] 91 (0, 0))) := Lib.hid (HMW.out.heap h8 (fun f => f))
 have HBX : Hid ((w.alloc (.cells #[.int .u8 (xc : Int), .int .u32 (xq : Int), .int .u8 (kind : Int), .slice ao no co, .int .u32 (rv : Int), .int .i64 rk, .int .i64 rd, .int .i64 ae, .int .i64 ap, .slice av nv cv, .slice al nl cl, .int .i64 fr, .int .i64 to_] 74)).heap[w.heap.size]? = some (.cells #[.int .u8 (xc : Int), .int .u32 (xq : Int), .int .u8 (kind : Int), .slice ao no co, .int .u32 (rv : Int), .int .i64 rk, .int .i64 rd, .int .i64 ae, .int .i64 ap, .slice av nv cv, .slice al nl cl, .int .i64 fr, .int .i64 to_] 74 (0, 0))) := Lib.hid (heap_alloc_new' w _)
 have z8 := lt_of_block h8
 have n8 : ¬ b8 = w.heap.size := by omega
 clear hno hnv hnl h8
 cases bg with
 | true =>
   go_enter Tryz.func35, Tryz.ntmps35
   go_wp2_with (go_at_call 36; go_loud (refine (HGV.out _).mono ?_; (rintro e w3 ⟨rfl, hm3⟩); have M3 : Hid (Mod (fun _ => False) w w3) := Lib.hid (HMW.out.trans hm3); have hb8 := hm3.heap HB8.out (fun f => f); have hbx := hm3.heap HBX.out (fun f => f); have k8 := cell_of_row hb8 0; have zz8 := lt_of_block hb8; have zzx := lt_of_block hbx; have k20 := cell_of_row hbx 0; have k21 := cell_of_row hbx 1; have k22 := cell_of_row hbx 2; have k23 := cell_of_row hbx 3; have k24 := cell_of_row hbx 4; have k25 := cell_of_row hbx 5; have k26 := cell_of_row hbx 6; have k27 := cell_of_row hbx 7; have k28 := cell_of_row hbx 8; have k29 := cell_of_row hbx 9; have k30 := cell_of_row hbx 10; have k31 := cell_of_row hbx 11; have k32 := cell_of_row hbx 12; simp at k8 k20 k21 k22 k23 k24 k25 k26 k27 k28 k29 k30 k31 k32; clear hm3 hb8 hbx))
   go_ret
   exact ⟨by simp, M3.out⟩
 | false =>
   go_enter Tryz.func35, Tryz.ntmps35
   go_wp2_with (first
     | (have hq := M3.out; go_at_call 28; go_loud (refine (HCL.out _ M3.out).mono ?_; (rintro e w4 ⟨rfl, hm4⟩); have M4 : Hid (Mod (fun _ => False) w w4) := Lib.hid (M3.out.trans hm4); clear hm4 hq))
     | (go_at_call 36; go_loud (refine (HGV.out _).mono ?_; (rintro e w3 ⟨rfl, hm3⟩); have M3 : Hid (Mod (fun _ => False) w w3) := Lib.hid (HMW.out.trans hm3); have hb8 := hm3.heap HB8.out (fun f => f); have hbx := hm3.heap HBX.out (fun f => f); have k8 := cell_of_row hb8 0; have zz8 := lt_of_block hb8; have zzx := lt_of_block hbx; have k20 := cell_of_row hbx 0; have k21 := cell_of_row hbx 1; have k22 := cell_of_row hbx 2; have k23 := cell_of_row hbx 3; have k24 := cell_of_row hbx 4; have k25 := cell_of_row hbx 5; have k26 := cell_of_row hbx 6; have k27 := cell_of_row hbx 7; have k28 := cell_of_row hbx 8; have k29 := cell_of_row hbx 9; have k30 := cell_of_row hbx 10; have k31 := cell_of_row hbx 11; have k32 := cell_of_row hbx 12; simp at k8 k20 k21 k22 k23 k24 k25 k26 k27 k28 k29 k30 k31 k32; clear hm3 hb8 hbx)))
   go_ret
   exact ⟨by simp, M4.out⟩
set_option maxRecDepth 100000 in
set_option maxHeartbeats 4000000 in
theorem v4_any (l : List Cm) (v : Value) (b2 b7 b8 bm nm : Nat) (x : Cm) (w : World) (h : CV l v b2 b7 bm nm w) (h8 : w.heap[b8]? = some (.cells #[.func (.func 31) #[] #[.pointer (some ⟨b7, 0, none⟩)]] 91 (0, 0))) (hx : x.Rd w) :
   Calls Tryz.prog 37 #[.agg x.c13.toArray, .pointer (some ⟨b8, 0, none⟩)] w fun e w' => e = .returned (.bool (repB (l.map Cm.x) x.x)) ∧ Mod (fun _ => False) w w' := by
 have H := Lib.hid h
 have HX := Lib.hid hx
 obtain ⟨ao, co, hvo⟩ := hx.vo_eq
 obtain ⟨av, cv, hvv⟩ := hx.vv_eq
 obtain ⟨al, cl, hvl⟩ := hx.vl_eq
 have HCL : Hid (∀ w', Mod (fun _ => False) w w' → Calls Tryz.prog 31 #[.agg x.c13.toArray, .pointer (some ⟨b7, 0, none⟩)] w' fun e w'' => e = .returned (.bool ((placeOf (l.map Cm.x) x.x.nm).isSome)) ∧ Mod (fun _ => False) w' w'') := Lib.hid (fun w' m => v2_any l v b2 b7 bm nm x w' (H.out.keep m) (HX.out.keep m))
 have HGV : Hid (∀ w', Calls Tryz.prog 36 #[.agg #[.int .i64 x.x.e, .int .i64 x.x.p, x.vv, x.vl]] w' fun e w'' => e = .returned (.bool x.x.given) ∧ Mod (fun _ => False) w' w'') := Lib.hid (fun w' => given_any _ _ _ _ w')
 obtain ⟨bc, hbc⟩ : ∃ b, b = (placeOf (l.map Cm.x) x.x.nm).isSome := ⟨_, rfl⟩
 obtain ⟨bg, hbg⟩ : ∃ b, b = x.x.given := ⟨_, rfl⟩
 have HR : Hid (repB (l.map Cm.x) x.x = (bg && bc)) := Lib.hid (by rw [hbc, hbg]; rfl)
 rw [HR.out]
 rw [← hbc] at HCL
 rw [← hbg] at HGV
 clear HR hbc hbg h hx
 obtain ⟨⟨xc, xq, ⟨kind, ops, rv, rk, rd⟩, ae, ap, vals, list, fr, to_⟩, vo, vv, vl⟩ := x
 simp only at hvo hvv hvl
 subst hvo hvv hvl
 obtain ⟨no, hno⟩ : ∃ n, n = ops.length := ⟨_, rfl⟩
 obtain ⟨nv, hnv⟩ : ∃ n, n = vals.length := ⟨_, rfl⟩
 obtain ⟨nl, hnl⟩ : ∃ n, n = list.length := ⟨_, rfl⟩
 simp only [Cm.c13, ← hno, ← hnv, ← hnl] at HCL HGV ⊢
 have HMW : Hid (Mod (fun _ => False) w (w.alloc (.cells #[.int .u8 (xc : Int), .int .u32 (xq : Int), .int .u8 (kind : Int), .slice ao no co, .int .u32 (rv : Int), .int .i64 rk, .int .i64 rd, .int .i64 ae, .int .i64 ap, .slice av nv cv, .slice al nl cl, .int .i64 fr, .int .i64 to_] 74))) := Lib.hid ((Mod.refl _ _).alloc _)
 have HB8 : Hid ((w.alloc (.cells #[.int .u8 (xc : Int), .int .u32 (xq : Int), .int .u8 (kind : Int), .slice ao no co, .int .u32 (rv : Int), .int .i64 rk, .int .i64 rd, .int .i64 ae, .int .i64 ap, .slice av nv cv, .slice al nl cl, .int .i64 fr, .int .i64 to_] 74)).heap[b8]? = some (.cells #[.func (.func 31) #[] #[.pointer (some ⟨b7, 0, none⟩)]] 91 (0, 0))) := Lib.hid (HMW.out.heap h8 (fun f => f))
 have HBX : Hid ((w.alloc (.cells #[.int .u8 (xc : Int), .int .u32 (xq : Int), .int .u8 (kind : Int), .slice ao no co, .int .u32 (rv : Int), .int .i64 rk, .int .i64 rd, .int .i64 ae, .int .i64 ap, .slice av nv cv, .slice al nl cl, .int .i64 fr, .int .i64 to_] 74)).heap[w.heap.size]? = some (.cells #[.int .u8 (xc : Int), .int .u32 (xq : Int), .int .u8 (kind : Int), .slice ao no co, .int .u32 (rv : Int), .int .i64 rk, .int .i64 rd, .int .i64 ae, .int .i64 ap, .slice av nv cv, .slice al nl cl, .int .i64 fr, .int .i64 to_] 74 (0, 0))) := Lib.hid (heap_alloc_new' w _)
 have z8 := lt_of_block h8
 have n8 : ¬ b8 = w.heap.size := by omega
 clear hno hnv hnl h8
 cases bg with
 | false =>
   go_enter Tryz.func37, Tryz.ntmps37
   go_wp2_with (go_at_call 36; go_loud (refine (HGV.out _).mono ?_; (rintro e w3 ⟨rfl, hm3⟩); have M3 : Hid (Mod (fun _ => False) w w3) := Lib.hid (HMW.out.trans hm3); have hb8 := hm3.heap HB8.out (fun f => f); have hbx := hm3.heap HBX.out (fun f => f); have k8 := cell_of_row hb8 0; have zz8 := lt_of_block hb8; have zzx := lt_of_block hbx; have k20 := cell_of_row hbx 0; have k21 := cell_of_row hbx 1; have k22 := cell_of_row hbx 2; have k23 := cell_of_row hbx 3; have k24 := cell_of_row hbx 4; have k25 := cell_of_row hbx 5; have k26 := cell_of_row hbx 6; have k27 := cell_of_row hbx 7; have k28 := cell_of_row hbx 8; have k29 := cell_of_row hbx 9; have k30 := cell_of_row hbx 10; have k31 := cell_of_row hbx 11; have k32 := cell_of_row hbx 12; simp at k8 k20 k21 k22 k23 k24 k25 k26 k27 k28 k29 k30 k31 k32; clear hm3 hb8 hbx))
   go_ret
   exact ⟨by simp, M3.out⟩
 | true =>
   go_enter Tryz.func37, Tryz.ntmps37
   go_wp2_with (first
     | (have hq := M3.out; go_at_call 31; go_loud (refine (HCL.out _ M3.out).mono ?_; (rintro e w4 ⟨rfl, hm4⟩); have M4 : Hid (Mod (fun _ => False) w w4) := Lib.hid (M3.out.trans hm4); clear hm4 hq))
     | (go_at_call 36; go_loud (refine (HGV.out _).mono ?_; (rintro e w3 ⟨rfl, hm3⟩); have M3 : Hid (Mod (fun _ => False) w w3) := Lib.hid (HMW.out.trans hm3); have hb8 := hm3.heap HB8.out (fun f => f); have hbx := hm3.heap HBX.out (fun f => f); have k8 := cell_of_row hb8 0; have zz8 := lt_of_block hb8; have zzx := lt_of_block hbx; have k20 := cell_of_row hbx 0; have k21 := cell_of_row hbx 1; have k22 := cell_of_row hbx 2; have k23 := cell_of_row hbx 3; have k24 := cell_of_row hbx 4; have k25 := cell_of_row hbx 5; have k26 := cell_of_row hbx 6; have k27 := cell_of_row hbx 7; have k28 := cell_of_row hbx 8; have k29 := cell_of_row hbx 9; have k30 := cell_of_row hbx 10; have k31 := cell_of_row hbx 11; have k32 := cell_of_row hbx 12; simp at k8 k20 k21 k22 k23 k24 k25 k26 k27 k28 k29 k30 k31 k32; clear hm3 hb8 hbx)))
   go_ret
   exact ⟨by simp, M4.out⟩
theorem firstR_some {p : Cx → Bool} {l : List Cx} {k : Nat} {x : Cx} (hx : l[k]? = some x) (hp : p x = true) (h : ∀ j, j < k → ∀ y, l[j]? = some y → p y = false) : firstR p l = some k := by
 obtain ⟨h1, h2⟩ := List.getElem?_eq_some_iff.1 hx
 unfold firstR
 rw [List.findIdx?_eq_some_iff_getElem]
 refine ⟨h1, by rw [h2]; exact hp, fun j hj => ?_⟩
 have := h j hj _ (List.getElem?_eq_getElem (by omega))
 rw [this]; simp
theorem firstR_none {p : Cx → Bool} {l : List Cx} (h : ∀ (j : Nat) (y : Cx), l[j]? = some y → p y = false) : firstR p l = none := by
 unfold firstR
 rw [List.findIdx?_eq_none_iff]
 intro y hy
 obtain ⟨j, hj⟩ := List.getElem?_of_mem hy
 exact h j y hj
set_option maxRecDepth 100000 in
set_option maxHeartbeats 4000000 in
theorem idxA_any (u : Value) (rs : List Cm) (l : List Cm) (v : Value) (b2 b7 b8 bm nm : Nat) (w : World) (hu : CRd Cm.c13 13 w u rs) (h : CV l v b2 b7 bm nm w) (h8 : w.heap[b8]? = some (.cells #[.func (.func 28) #[] #[.pointer (some ⟨b7, 0, none⟩), .pointer (some ⟨b2, 0, none⟩)]] 91 (0, 0))) :
   Calls Tryz.prog 34 #[u, .func (.func 35) #[] #[.pointer (some ⟨b8, 0, none⟩)]] w fun e w' => e = .returned (.int .i64 (placeZ (firstR (repA (l.map Cm.x)) (rs.map Cm.x)))) ∧ Mod (fun _ => False) w w' := by
 have HV := Lib.hid hu
 have H := Lib.hid h
 have H8 := Lib.hid h8
 obtain ⟨a, c, rfl, hc1, hc2, -⟩ := hu.row.shape
 obtain ⟨m, hm⟩ : ∃ m, m = rs.length := ⟨_, rfl⟩
 have HML := Lib.hid hm
 rw [← hm] at HV hc1 ⊢
 clear hu hm h h8
 go_enter Tryz.func34, Tryz.ntmps34
 go_wp2
 go_loopw [8] (fun i wr => ∃ k : Nat, i = .int .i64 (k : Int) ∧ k ≤ m ∧ Mod (fun _ => False) w wr ∧ ∀ j, j < k → ∀ y, (rs.map Cm.x)[j]? = some y → repA (l.map Cm.x) y = false) (fun i _ => m - (intOf i).toNat)
 case atStart => exact ⟨0, rfl, Nat.zero_le _, Mod.refl _ _, fun j hj => by omega⟩
 case round =>
   obtain ⟨k, rfl, hk, hkp, hok⟩ := hrel
   have HK := Lib.hid hkp
   have HOK := Lib.hid hok
   clear hkp hok
   by_cases hkm : k < m
   · obtain ⟨x, hx⟩ : ∃ x, rs[k]? = some x := ⟨_, List.getElem?_eq_getElem (by rw [← HML.out]; exact hkm)⟩
     obtain ⟨b, off, e1, hb, hcs⟩ := CRd.ent (cells := Cm.c13) (size := 13) (fun _ => rfl) (by decide) HV.out hx rfl
     subst e1
     have hxx : (rs.map Cm.x)[k]? = some x.x := by rw [List.getElem?_map, hx]; rfl
     have HXX := Lib.hid hxx
     have HRX := Lib.hid ((HV.out.at hx).keep HK.out)
     have HCL := Lib.hid (v3_any l v b2 b7 b8 bm nm x wr (H.out.keep HK.out) (HK.out.heap H8.out (fun f => f)) HRX.out)
     have hcs : ∀ j, j < 13 → ∀ u, x.c13[j]? = some u → wr.cell? ⟨b, off + (k * 13 + j), none⟩ = some u := fun j hj u hu => HK.out.cell ((hcs j hj).trans hu)
     obtain ⟨ao, co, hvo⟩ := HRX.out.vo_eq
     obtain ⟨av, cv, hvv⟩ := HRX.out.vv_eq
     obtain ⟨al, cl, hvl⟩ := HRX.out.vl_eq
     obtain ⟨bad, hbad⟩ : ∃ b, b = repA (l.map Cm.x) x.x := ⟨_, rfl⟩
     rw [← hbad] at HCL
     have HBAD := Lib.hid hbad
     clear hx hxx HRX hbad
     obtain ⟨⟨xc, xq, ⟨kind, ops, rv, rk, rd⟩, ae, ap, vals, list, fr, to_⟩, vo, vv, vl⟩ := x
     simp only at hvo hvv hvl
     subst hvo hvv hvl
     obtain ⟨no, hno⟩ : ∃ n, n = ops.length := ⟨_, rfl⟩
     obtain ⟨nv, hnv⟩ : ∃ n, n = vals.length := ⟨_, rfl⟩
     obtain ⟨nl, hnl⟩ : ∃ n, n = list.length := ⟨_, rfl⟩
     simp only [Cm.c13, ← hno, ← hnv, ← hnl] at HCL hcs
     have p0 := hcs 0 (by omega) _ rfl
     have p1 := hcs 1 (by omega) _ rfl
     have p2 := hcs 2 (by omega) _ rfl
     have p3 := hcs 3 (by omega) _ rfl
     have p4 := hcs 4 (by omega) _ rfl
     have p5 := hcs 5 (by omega) _ rfl
     have p6 := hcs 6 (by omega) _ rfl
     have p7 := hcs 7 (by omega) _ rfl
     have p8 := hcs 8 (by omega) _ rfl
     have p9 := hcs 9 (by omega) _ rfl
     have p10 := hcs 10 (by omega) _ rfl
     have p11 := hcs 11 (by omega) _ rfl
     have p12 := hcs 12 (by omega) _ rfl
     simp only [← Nat.add_assoc, Nat.add_zero] at p0 p1 p2 p3 p4 p5 p6 p7 p8 p9 p10 p11 p12
     have zb := Nat.lt_of_lt_of_le hb HK.out.size
     clear hcs hb hno hnv hnl
     cases bad with
     | true =>
       have HFI : Hid (firstR (repA (l.map Cm.x)) (rs.map Cm.x) = some k) := Lib.hid (firstR_some HXX.out HBAD.out.symm HOK.out)
       go_wp2_with (go_at_call 35; go_loud (refine HCL.out.mono ?_; (rintro e w4 ⟨rfl, hm4⟩); have HK4 := Lib.hid (HK.out.trans hm4); clear hm4))
       go_ret
       exact ⟨by rw [HFI.out]; rfl, HK4.out⟩
     | false =>
       have HOK2 : Hid (∀ j, j < k + 1 → ∀ y, (rs.map Cm.x)[j]? = some y → repA (l.map Cm.x) y = false) := Lib.hid (fun j hj y hy => by
         by_cases e : j < k
         · exact HOK.out j e y hy
         · obtain rfl : j = k := by omega
           rw [HXX.out] at hy
           injection hy with hy
           rw [← hy]; exact HBAD.out.symm)
       go_wp2_with (go_at_call 35; go_loud (refine HCL.out.mono ?_; (rintro e w4 ⟨rfl, hm4⟩); have HK4 := Lib.hid (HK.out.trans hm4); clear hm4))
       go_roundw
       case rel => exact ⟨k + 1, by go_num, by omega, HK4.out, HOK2.out⟩
       case measure => simp [intOf]; omega
   · have HFI : Hid (firstR (repA (l.map Cm.x)) (rs.map Cm.x) = none) := Lib.hid (firstR_none (fun j y hy => HOK.out j (by have := (List.getElem?_eq_some_iff.1 hy).1; rw [List.length_map, ← HML.out] at this; omega) y hy))
     go_wp2
     go_ret
     exact ⟨by rw [HFI.out]; rfl, HK.out⟩
set_option maxRecDepth 100000 in
set_option maxHeartbeats 4000000 in
theorem idxB_any (u : Value) (rs : List Cm) (l : List Cm) (v : Value) (b2 b7 b8 bm nm : Nat) (w : World) (hu : CRd Cm.c13 13 w u rs) (h : CV l v b2 b7 bm nm w) (h8 : w.heap[b8]? = some (.cells #[.func (.func 31) #[] #[.pointer (some ⟨b7, 0, none⟩)]] 91 (0, 0))) :
   Calls Tryz.prog 34 #[u, .func (.func 37) #[] #[.pointer (some ⟨b8, 0, none⟩)]] w fun e w' => e = .returned (.int .i64 (placeZ (firstR (repB (l.map Cm.x)) (rs.map Cm.x)))) ∧ Mod (fun _ => False) w w' := by
 have HV := Lib.hid hu
 have H := Lib.hid h
 have H8 := Lib.hid h8
 obtain ⟨a, c, rfl, hc1, hc2, -⟩ := hu.row.shape
 obtain ⟨m, hm⟩ : ∃ m, m = rs.length := ⟨_, rfl⟩
 have HML := Lib.hid hm
 rw [← hm] at HV hc1 ⊢
 clear hu hm h h8
 go_enter Tryz.func34, Tryz.ntmps34
 go_wp2
 go_loopw [8] (fun i wr => ∃ k : Nat, i = .int .i64 (k : Int) ∧ k ≤ m ∧ Mod (fun _ => False) w wr ∧ ∀ j, j < k → ∀ y, (rs.map Cm.x)[j]? = some y → repB (l.map Cm.x) y = false) (fun i _ => m - (intOf i).toNat)
 case atStart => exact ⟨0, rfl, Nat.zero_le _, Mod.refl _ _, fun j hj => by omega⟩
 case round =>
   obtain ⟨k, rfl, hk, hkp, hok⟩ := hrel
   have HK := Lib.hid hkp
   have HOK := Lib.hid hok
   clear hkp hok
   by_cases hkm : k < m
   · obtain ⟨x, hx⟩ : ∃ x, rs[k]? = some x := ⟨_, List.getElem?_eq_getElem (by rw [← HML.out]; exact hkm)⟩
     obtain ⟨b, off, e1, hb, hcs⟩ := CRd.ent (cells := Cm.c13) (size := 13) (fun _ => rfl) (by decide) HV.out hx rfl
     subst e1
     have hxx : (rs.map Cm.x)[k]? = some x.x := by rw [List.getElem?_map, hx]; rfl
     have HXX := Lib.hid hxx
     have HRX := Lib.hid ((HV.out.at hx).keep HK.out)
     have HCL := Lib.hid (v4_any l v b2 b7 b8 bm nm x wr (H.out.keep HK.out) (HK.out.heap H8.out (fun f => f)) HRX.out)
     have hcs : ∀ j, j < 13 → ∀ u, x.c13[j]? = some u → wr.cell? ⟨b, off + (k * 13 + j), none⟩ = some u := fun j hj u hu => HK.out.cell ((hcs j hj).trans hu)
     obtain ⟨ao, co, hvo⟩ := HRX.out.vo_eq
     obtain ⟨av, cv, hvv⟩ := HRX.out.vv_eq
     obtain ⟨al, cl, hvl⟩ := HRX.out.vl_eq
     obtain ⟨bad, hbad⟩ : ∃ b, b = repB (l.map Cm.x) x.x := ⟨_, rfl⟩
     rw [← hbad] at HCL
     have HBAD := Lib.hid hbad
     clear hx hxx HRX hbad
     obtain ⟨⟨xc, xq, ⟨kind, ops, rv, rk, rd⟩, ae, ap, vals, list, fr, to_⟩, vo, vv, vl⟩ := x
     simp only at hvo hvv hvl
     subst hvo hvv hvl
     obtain ⟨no, hno⟩ : ∃ n, n = ops.length := ⟨_, rfl⟩
     obtain ⟨nv, hnv⟩ : ∃ n, n = vals.length := ⟨_, rfl⟩
     obtain ⟨nl, hnl⟩ : ∃ n, n = list.length := ⟨_, rfl⟩
     simp only [Cm.c13, ← hno, ← hnv, ← hnl] at HCL hcs
     have p0 := hcs 0 (by omega) _ rfl
     have p1 := hcs 1 (by omega) _ rfl
     have p2 := hcs 2 (by omega) _ rfl
     have p3 := hcs 3 (by omega) _ rfl
     have p4 := hcs 4 (by omega) _ rfl
     have p5 := hcs 5 (by omega) _ rfl
     have p6 := hcs 6 (by omega) _ rfl
     have p7 := hcs 7 (by omega) _ rfl
     have p8 := hcs 8 (by omega) _ rfl
     have p9 := hcs 9 (by omega) _ rfl
     have p10 := hcs 10 (by omega) _ rfl
     have p11 := hcs 11 (by omega) _ rfl
     have p12 := hcs 12 (by omega) _ rfl
     simp only [← Nat.add_assoc, Nat.add_zero] at p0 p1 p2 p3 p4 p5 p6 p7 p8 p9 p10 p11 p12
     have zb := Nat.lt_of_lt_of_le hb HK.out.size
     clear hcs hb hno hnv hnl
     cases bad with
     | true =>
       have HFI : Hid (firstR (repB (l.map Cm.x)) (rs.map Cm.x) = some k) := Lib.hid (firstR_some HXX.out HBAD.out.symm HOK.out)
       go_wp2_with (go_at_call 37; go_loud (refine HCL.out.mono ?_; (rintro e w4 ⟨rfl, hm4⟩); have HK4 := Lib.hid (HK.out.trans hm4); clear hm4))
       go_ret
       exact ⟨by rw [HFI.out]; rfl, HK4.out⟩
     | false =>
       have HOK2 : Hid (∀ j, j < k + 1 → ∀ y, (rs.map Cm.x)[j]? = some y → repB (l.map Cm.x) y = false) := Lib.hid (fun j hj y hy => by
         by_cases e : j < k
         · exact HOK.out j e y hy
         · obtain rfl : j = k := by omega
           rw [HXX.out] at hy
           injection hy with hy
           rw [← hy]; exact HBAD.out.symm)
       go_wp2_with (go_at_call 37; go_loud (refine HCL.out.mono ?_; (rintro e w4 ⟨rfl, hm4⟩); have HK4 := Lib.hid (HK.out.trans hm4); clear hm4))
       go_roundw
       case rel => exact ⟨k + 1, by go_num, by omega, HK4.out, HOK2.out⟩
       case measure => simp [intOf]; omega
   · have HFI : Hid (firstR (repB (l.map Cm.x)) (rs.map Cm.x) = none) := Lib.hid (firstR_none (fun j y hy => HOK.out j (by have := (List.getElem?_eq_some_iff.1 hy).1; rw [List.length_map, ← HML.out] at this; omega) y hy))
     go_wp2
     go_ret
     exact ⟨by rw [HFI.out]; rfl, HK.out⟩
open Go.RowKit Go.Maps
theorem oneG_e (L : Gr) (o : Opr) : (oneG L o).e ≤ 10 := by
 unfold oneG
 repeat' split
 all_goals simp
theorem failG_le : ∀ (ops : List Opr) (L : Gr) (i : Nat), (failG L i ops).1 ≤ 10 ∧ (failG L i ops).2 ≤ i + ops.length
 | [], L, i => by simp [failG]
 | o :: r, L, i => by
   unfold failG
   split
   · have h := failG_le r (oneG L o).g (i + 1)
     exact ⟨h.1, by have := h.2; simp only [List.length_cons]; omega⟩
   · exact ⟨oneG_e L o, by simp only [List.length_cons]; omega⟩
theorem checkR_le (r : Rqt) : checkR r ≤ 3 := by
 unfold checkR
 repeat' split
 all_goals omega
theorem doG_e (L : Gr) (r : Rqt) : (doG L r).2.e ≤ 10 ∧ (doG L r).2.at_ ≤ r.ops.length := by
 unfold doG
 split
 · exact ⟨Nat.le_trans (checkR_le r) (by decide), Nat.zero_le _⟩
 · split
   · split
     · exact ⟨by show 0 ≤ 10; decide, Nat.zero_le _⟩
     · have h := failG_le r.ops L 0
       exact ⟨h.1, by have := h.2; simp only at this ⊢; omega⟩
   · split
     · exact ⟨by show 6 ≤ 10; decide, Nat.zero_le _⟩
     · split
       · exact ⟨by show 0 ≤ 10; decide, Nat.zero_le _⟩
       · exact ⟨by show 0 ≤ 10; decide, Nat.zero_le _⟩
theorem okRun_vals (L : Gr) : ∀ (ops : List Opr) (p : Gr × List Val), okRun L ops = some p → p.2.length ≤ ops.length := by
 have key : ∀ (ops : List Opr) (L' : Gr) (us : List Val) (p : Gr × List Val), ops.foldl okStep (some (L', us)) = some p → p.2.length ≤ us.length + ops.length := by
   intro ops
   induction ops with
   | nil => intro L' us p h; simp at h; subst h; simp
   | cons o r ih =>
     intro L' us p h
     rw [List.foldl_cons] at h
     by_cases he : (oneG L' o).e = 0
     · have e : okStep (some (L', us)) o = some ((oneG L' o).g, us ++ (oneG L' o).vals) := by simp [okStep, he]
       rw [e] at h
       have := ih _ _ p h
       have h1 := one_vals L' o
       rw [List.length_append] at this
       simp only [List.length_cons]; omega
     · have e : okStep (some (L', us)) o = none := by simp [okStep, he]
       rw [e, okStep_none] at h
       cases h
 intro ops p h
 have := key ops L [] p h
 simpa using this
theorem doG_sizes {L : Gr} (hL : Good L) (r : Rqt) : (doG L r).2.vals.length ≤ 6 ∧ (doG L r).2.list.length ≤ 40 := by
 unfold doG
 split
 · exact ⟨by show 0 ≤ 6; decide, by show 0 ≤ 40; decide⟩
 · rename_i hc
   split
   · rename_i hk
     split
     · rename_i p hp
       have h1 := okRun_vals L r.ops p hp
       have h2 := checkR_tx (r := r) (by simpa using hc) hk
       exact ⟨Nat.le_trans h1 h2.2.2, by show 0 ≤ 40; decide⟩
     · exact ⟨by show 0 ≤ 6; decide, by show 0 ≤ 40; decide⟩
   · split
     · exact ⟨by show 0 ≤ 6; decide, by show 0 ≤ 40; decide⟩
     · split
       · refine ⟨by show 0 ≤ 6; decide, ?_⟩
         show (withinG L r.v r.k.toNat).length ≤ 40
         unfold withinG
         rw [List.length_map]
         exact Nat.le_trans (List.length_filter_le _ _) hL.short
       · exact ⟨by show 0 ≤ 6; decide, by show 0 ≤ 40; decide⟩
theorem ansBad_app {C : List Cx} {x : Cx} {i : Nat} (h : i < C.length) : ansBad (C ++ [x]) i = ansBad C i := by
 have e : C = (C ++ [x]).take C.length := by simp
 conv => rhs; rw [e]
 exact (ansBad_take h).symm
theorem graphTo_app {C : List Cx} {x : Cx} : graphTo (C ++ [x]) C.length = graphTo C C.length := by
 unfold graphTo
 simp
open Go.RowKit Go.Maps
structure HistUp (C : List Cx) : Prop where
 each : ∀ (i : Nat) (x : Cx), C[i]? = some x → ansBad C i = false ∧ x.given = false
 up : ∀ (i j : Nat) (x y : Cx), i < j → C[i]? = some x → C[j]? = some y → x.sq < y.sq
theorem HistUp.nil : HistUp [] := ⟨fun i x h => by simp at h, fun i j x y _ h => by simp at h⟩
theorem HistUp.snoc {C : List Cx} (h : HistUp C) {x : Cx} (hs : ∀ y ∈ C, y.sq < x.sq) (ha : x.ansIs (doG (graphTo C C.length) x.r).2 = true) (hg : x.given = false) : HistUp (C ++ [x]) := by
 have last : ∀ i y, ¬ i < C.length → (C ++ [x])[i]? = some y → i = C.length ∧ y = x := fun i y hi hy => by
   have hlt := (List.getElem?_eq_some_iff.1 hy).1
   rw [List.length_append, List.length_singleton] at hlt
   obtain rfl : i = C.length := by omega
   exact ⟨rfl, by simpa using hy.symm⟩
 refine ⟨fun i y hy => ?_, fun i j y z hij hy hz => ?_⟩
 · by_cases hi : i < C.length
   · rw [List.getElem?_append_left hi] at hy
     obtain ⟨h1, h2⟩ := h.each i y hy
     exact ⟨(ansBad_app hi).trans h1, h2⟩
   · obtain ⟨rfl, rfl⟩ := last i y hi hy
     exact ⟨by rw [ansBad_at hy, graphTo_app, ha]; rfl, hg⟩
 · by_cases hj : j < C.length
   · rw [List.getElem?_append_left (by omega)] at hy
     rw [List.getElem?_append_left hj] at hz
     exact h.up i j y z hij hy hz
   · obtain ⟨rfl, rfl⟩ := last j z hj hz
     rw [List.getElem?_append_left hij] at hy
     exact hs y (List.mem_of_getElem? hy)
theorem lastOf_lt {l : List Cx} {k : Nat} (h : ∀ y ∈ l, y.sq < k) {c s : Nat} (hs : lastOf l c = some s) : s < k := by
 have key : ∀ (l : List Cx) (o : Option Nat) (c s : Nat), (∀ y ∈ l, y.sq < k) → (∀ s, o = some s → s < k) → l.foldl (fun o x => if x.cl = c then some x.sq else o) o = some s → s < k := by
   intro l
   induction l with
   | nil => intro o c s _ ho h; exact ho s h
   | cons x r ih =>
     intro o c s hl ho h
     rw [List.foldl_cons] at h
     refine ih _ c s (fun y hy => hl y (by simp [hy])) ?_ h
     intro t ht
     split at ht
     · injection ht with ht; rw [← ht]; exact hl x (by simp)
     · exact ho t ht
 exact key l none c s h (by simp) hs
theorem HistUp.num {C : List Cx} (h : HistUp C) {i : Nat} : numBad C i = false := by
 unfold numBad
 cases hx : C[i]? with
 | none => rfl
 | some x =>
   simp only
   cases hl : lastOf (C.take i) x.cl with
   | none => rfl
   | some s =>
     simp only
     have := lastOf_lt (l := C.take i) (k := x.sq) (fun y hy => by
       obtain ⟨j, hj⟩ := List.getElem?_of_mem hy
       have hji : j < i := by have := (List.getElem?_eq_some_iff.1 hj).1; rw [List.length_take] at this; omega
       rw [take_get hji] at hj
       exact h.up j i y x hji hj hx) hl
     simp; omega
theorem HistUp.place {C : List Cx} (h : HistUp C) {i : Nat} {x : Cx} (hx : C[i]? = some x) : placeOf C x.nm = some i := by
 refine firstR_some (p := fun c => c.nm == x.nm) hx (by simp) (fun j hj y hy => ?_)
 have h1 := h.up j i y x hj hy hx
 rw [beq_eq_false_iff_ne]
 intro e
 have := congrArg Prod.snd e
 simp only [Cx.nm] at this
 omega
theorem one_verdict {C : List Cx} (h : HistUp C) (z : Cx) : verdict C [z] = if repA C z = true then some (3, 0) else if repB C z = true then some (4, 0) else none := by
 have h1 : firstI C.length (ansBad C) = none := firstI_eq_none.2 (fun i hi => (h.each i _ (List.getElem?_eq_getElem hi)).1)
 have h2 : firstI C.length (numBad C) = none := firstI_eq_none.2 (fun i hi => h.num)
 have h3 : ∀ p : Cx → Bool, firstR p [z] = if p z = true then some 0 else none := fun p => by
   unfold firstR
   by_cases hp : p z = true <;> simp [List.findIdx?_cons, hp]
 unfold verdict
 rw [h1, h2, h3, h3]
 by_cases ha : repA C z = true
 · rw [if_pos ha, if_pos ha]; rfl
 · rw [if_neg ha, if_neg ha]
   by_cases hb : repB C z = true
   · rw [if_pos hb, if_pos hb]; rfl
   · rw [if_neg hb, if_neg hb]; rfl
theorem meets_at {C : List Cx} (h : HistUp C) {k : Nat} {x : Cx} (hx : C[k]? = some x) (fr to_ : Int) : meets C { x with fr := fr, to_ := to_ } = (decide (fr ≤ (k : Int)) && decide ((k : Int) < to_)) := by
 unfold meets
 have hp : placeOf C (Cx.nm { x with fr := fr, to_ := to_ }) = some k := (show placeOf C x.nm = some k from h.place hx)
 rw [hp]
 simp only
 rw [hx]
 have hs : sameC x { x with fr := fr, to_ := to_ } = true := by unfold sameC; simp
 simp only [hs, decide_true, Bool.and_true]
theorem told_law {C : List Cx} (h : HistUp C) {k : Nat} {x : Cx} (hx : C[k]? = some x) (fr to_ : Int) : verdict C [{ x with fr := fr, to_ := to_ }] = if fr ≤ (k : Int) ∧ (k : Int) < to_ then none else some (3, 0) := by
 have hg : Cx.given { x with fr := fr, to_ := to_ } = false := (h.each k x hx).2
 rw [one_verdict h]
 unfold repA repB
 rw [hg, meets_at h hx]
 by_cases h1 : fr ≤ (k : Int) <;> by_cases h2 : (k : Int) < to_ <;> simp [h1, h2]
theorem lone_law {C : List Cx} (h : HistUp C) {k : Nat} {x : Cx} (hx : C[k]? = some x) (n : Nat) (hn : ∀ y ∈ C, y.sq ≠ n) (fr to_ : Int) : verdict C [{ x with sq := n, fr := fr, to_ := to_ }] = some (3, 0) := by
 have hg : Cx.given { x with sq := n, fr := fr, to_ := to_ } = false := (h.each k x hx).2
 have hp : placeOf C (Cx.nm { x with sq := n, fr := fr, to_ := to_ }) = none := by
   unfold placeOf
   rw [List.findIdx?_eq_none_iff]
   intro y hy
   rw [beq_eq_false_iff_ne]
   intro e
   exact hn y hy (congrArg Prod.snd e)
 have hm : meets C { x with sq := n, fr := fr, to_ := to_ } = false := by
   unfold meets
   rw [hp]
 rw [one_verdict h]
 unfold repA
 rw [hg, hm]
 rfl
theorem given_law {C : List Cx} (h : HistUp C) {k : Nat} {x : Cx} (hx : C[k]? = some x) (p : Int) (vals : List Val) (list : List Nat) (fr to_ : Int) : verdict C [{ x with e := 13, p := p, vals := vals, list := list, fr := fr, to_ := to_ }] = some (4, 0) := by
 have hg : Cx.given { x with e := 13, p := p, vals := vals, list := list, fr := fr, to_ := to_ } = true := by unfold Cx.given; simp
 have hp : placeOf C (Cx.nm { x with e := 13, p := p, vals := vals, list := list, fr := fr, to_ := to_ }) = some k := (show placeOf C x.nm = some k from h.place hx)
 rw [one_verdict h]
 unfold repA repB
 rw [hg, hp]
 rfl
theorem numBad_app {C : List Cx} {x : Cx} {i : Nat} (h : i < C.length) : numBad (C ++ [x]) i = numBad C i := by
 have e : C = (C ++ [x]).take C.length := by simp
 conv => rhs; rw [e]
 exact (numBad_take h).symm
theorem twice_com_law {C : List Cx} (h : HistUp C) {k : Nat} {x y : Cx} (hx : C[k]? = some x) (hc : y.cl = x.cl) (hs : y.sq = x.sq) (ha : y.ansIs (doG (graphTo C C.length) y.r).2 = true) : verdict (C ++ [y]) [] = some (2, C.length) := by
 have hy : (C ++ [y])[C.length]? = some y := by simp
 have hl : (C ++ [y]).length = C.length + 1 := by simp
 have h1 : firstI (C ++ [y]).length (ansBad (C ++ [y])) = none := firstI_eq_none.2 (fun i hi => by
   rw [hl] at hi
   by_cases hi2 : i < C.length
   · rw [ansBad_app hi2]; exact (h.each i _ (List.getElem?_eq_getElem hi2)).1
   · obtain rfl : i = C.length := by omega
     rw [ansBad_at hy, graphTo_app, ha]; rfl)
 have hlow : ∀ j, j < C.length → numBad (C ++ [y]) j = false := fun j hj => by rw [numBad_app hj]; exact h.num
 have h2 : firstI (C ++ [y]).length (numBad (C ++ [y])) = some C.length := by
   refine firstI_some (by omega) hlow ?_
   rw [numBad_eq _ _ (by omega) hlow]
   unfold numBad2
   rw [hy]
   simp only
   rw [List.any_eq_true]
   refine ⟨x, ?_, by simp [hc, hs]⟩
   rw [List.take_append_of_le_length (Nat.le_refl _), List.take_length]
   exact List.mem_of_getElem? hx
 unfold verdict
 rw [h1, h2]
 rfl
end Go.Proofs.YtpigipgoopeeoaaGreatDoor
