import Derived.Test.YtpigipgoopeeoaaGreatDoorMCVer05
set_option linter.unusedVariables false
set_option linter.unusedSimpArgs false
namespace Go.Proofs.YtpigipgoopeeoaaGreatDoor
open Go.RowKit Go.Maps
def finalG (l : List Cx) : Gr := graphTo l l.length
set_option maxRecDepth 100000 in
set_option maxHeartbeats 8000000 in
theorem cfinal_any (v : Value) (l : List Cm) (w : World) (hv : CRd Cm.c14 14 w v l) (hl : l.length ≤ 4096) (hg : ErrT w) :
   Calls Tryz.prog 15 #[v] w fun e w' => ∃ a n c bl, e = .returned (.tuple #[.slice a n c, .int .i64 0]) ∧ LRd w' (.slice a n c) bl ∧ bl.map Vs.x = finalG (l.map Cm.x) ∧ Mod (fun _ => False) w w' := by
 have HV := Lib.hid hv
 have HE := Lib.hid hg
 obtain ⟨a, c, rfl, hc1, hc2, -⟩ := hv.row.shape
 obtain ⟨m, hm⟩ : ∃ m, m = l.length := ⟨_, rfl⟩
 have HML := Lib.hid hm
 rw [← hm] at HV hc1 hl ⊢
 have hl1 : ¬ (4096 : Int) < (m : Int) := by omega
 clear hv hm hg
 go_enter Tryz.func15, Tryz.ntmps15
 go_wp2_with (go_at_call 40; refine (snew_any w w (Mod.refl _ _)).mono ?_; (rintro e w2 ⟨rfl, hm2, hst, hz2⟩); have HST0 := Lib.hid hst; clear hm2 hst hz2)
 go_loopw [16] (fun i wr => ∃ k : Nat, i = .int .i64 (k : Int) ∧ k ≤ m ∧ GSt w (w.heap.size + 1) w.heap.size (graphTo (l.map Cm.x) k) wr) (fun i _ => m - (intOf i).toNat)
 case atStart => exact ⟨0, rfl, Nat.zero_le _, HST0.out⟩
 case round =>
   obtain ⟨k, rfl, hk, hst⟩ := hrel
   have HST := Lib.hid hst
   have HK := Lib.hid hst.mod
   clear hst HST0
   by_cases hkm : k < m
   · skip
     obtain ⟨x, hx⟩ : ∃ x, l[k]? = some x := ⟨_, List.getElem?_eq_getElem (by rw [← HML.out]; exact hkm)⟩
     obtain ⟨b, off, e1, hb, hcs⟩ := CRd.ent (cells := Cm.c14) (size := 14) (fun _ => rfl) (by decide) HV.out hx rfl
     obtain rfl := e1
     have hxx : (l.map Cm.x)[k]? = some x.x := by rw [List.getElem?_map, hx]; rfl
     have HXX := Lib.hid hxx
     have HRX := Lib.hid ((HV.out.at hx).keep HK.out)
     have hcs : ∀ j, j < 14 → ∀ u, x.c14[j]? = some u → wr.cell? ⟨b, off + (k * 14 + j), none⟩ = some u := fun j hj u hu => HK.out.cell ((hcs j hj).trans hu)
     obtain ⟨ao, co, hvo⟩ := HRX.out.vo_eq
     obtain ⟨av, cv, hvv⟩ := HRX.out.vv_eq
     obtain ⟨al, cl, hvl⟩ := HRX.out.vl_eq
     have HNX := graphTo_succ hxx
     obtain ⟨wQ, hwQ⟩ : ∃ wQ, wQ = wr.alloc (.cells x.c14.toArray 67) := ⟨_, rfl⟩
     have HMQ : Hid (Mod (fun _ => False) wr wQ) := Lib.hid (by rw [hwQ]; exact (Mod.refl _ _).alloc _)
     have HDO := Lib.hid (sgdo_any (w.heap.size + 1) w.heap.size (graphTo (l.map Cm.x) k) x.x.r x.vo w wQ (HST.out.keep HMQ.out) (HRX.out.keep HMQ.out).ops HRX.out.v HE.out)
     have HDN : Hid (∀ e w', SDoE w (w.heap.size + 1) w.heap.size (graphTo (l.map Cm.x) k) x.x.r wQ e w' → ∃ u, e = .returned u ∧ GSt w (w.heap.size + 1) w.heap.size (graphTo (l.map Cm.x) (k + 1)) w') := Lib.hid (fun e w' ⟨vv, vl, he, hs⟩ => ⟨_, he, by rw [HNX]; exact hs.st⟩)
     clear HNX
     clear hx hxx
     obtain ⟨⟨xc, xq, ⟨kind, ops, rv, rk, rd⟩, ae, ap, vals, list, fr, to_⟩, vo, vv, vl⟩ := x
     simp only at hvo hvv hvl
     subst hvo hvv hvl
     obtain ⟨no, hno⟩ : ∃ n, n = ops.length := ⟨_, rfl⟩
     obtain ⟨nv, hnv⟩ : ∃ n, n = vals.length := ⟨_, rfl⟩
     obtain ⟨nl, hnl⟩ : ∃ n, n = list.length := ⟨_, rfl⟩
     simp only [Cm.c14, ← hno, ← hnv, ← hnl] at hcs
     have p0 := hcs 0 (by omega) _ rfl
     have p1 := hcs 1 (by omega) _ rfl
     have p2 := hcs 2 (by omega) _ rfl
     have p3 := hcs 3 (by omega) _ rfl
     have p4 := hcs 4 (by omega) _ rfl
     have p5 := hcs 5 (by omega) _ rfl
     have p6 := hcs 6 (by omega) _ rfl
     have p7 := hcs 7 (by omega) _ rfl
     have p8 := hcs 8 (by omega) _ rfl
     have p9 := hcs 9 (by omega) _ rfl
     have p10 := hcs 10 (by omega) _ rfl
     have p11 := hcs 11 (by omega) _ rfl
     have p12 := hcs 12 (by omega) _ rfl
     have p13 := hcs 13 (by omega) _ rfl
     simp only [← Nat.add_assoc, Nat.add_zero] at p0 p1 p2 p3 p4 p5 p6 p7 p8 p9 p10 p11 p12 p13
     have zb := Nat.lt_of_lt_of_le hb HK.out.size
     clear hcs hb
     simp only [Cm.c14, rqV, ← hno, ← hnv, ← hnl] at HDO hwQ
     subst hwQ
     clear hno hnv hnl HRX
     go_wp2_with (go_at_call 41; go_loud (refine HDO.out.mono ?_; (intro e w5 h5); (obtain ⟨u5, rfl, hs5⟩ := HDN.out e w5 h5); have HS5 := Lib.hid hs5; clear hs5 h5))
     go_roundw
     case rel => exact ⟨k + 1, by go_num, by omega, HS5.out⟩
     case measure => simp [intOf]; omega
   · have HKM : Hid (k = m) := Lib.hid (by omega)
     have HFL : Hid (graphTo (l.map Cm.x) k = finalG (l.map Cm.x)) := Lib.hid (by rw [HKM.out, HML.out]; unfold finalG; rw [List.length_map])
     obtain ⟨L, hL⟩ : ∃ L, L = graphTo (l.map Cm.x) k := ⟨_, rfl⟩
     rw [← hL] at HFL HST
     clear hL
     obtain ⟨mL, hmL⟩ : ∃ m, m = L.length := ⟨_, rfl⟩
     have HMLL := Lib.hid hmL
     have HLI := Lib.hid (slist_any _ _ L w wr HST.out)
     clear hmL
     go_wp2_with (go_at_call 42; refine HLI.out.mono ?_; (rintro e w3 ⟨vl3, rfl, hs3⟩); have hr3 := hs3.seg.rdS; have HG2 := Lib.hid (HST.out.keep hs3.mod); rw [List.length_map, ← HMLL.out] at hr3; (obtain ⟨ai, ci, rfl, hci, hci2, -⟩ := hr3.shape); have HR2 := Lib.hid hr3; clear hs3 hr3)
     obtain ⟨i0, hi, hz0, hz1, hz2⟩ := info_parts infoVtx
     have HI : Hid (Tryz.prog.info? 104 = some i0 ∧ i0.zero = some (.agg #[.int .u32 0, .bool false, .slice none 0 0, .slice none 0 0]) ∧ i0.size = 4 ∧ i0.bytes = 56) := ⟨hi, hz0, hz1, hz2⟩
     clear hi hz0 hz1 hz2
     have HM40 : Hid (mL ≤ 40) := Lib.hid (by have := HG2.out.good.short; have := HMLL.out; omega)
     go_loopw [28, 7] (fun i u wx => ∃ (j : Nat) (bl : List Vs), i = .int .i64 (j : Int) ∧ j ≤ mL ∧ BfAt w3 u bl wx ∧ bl.map Vs.x = L.take j) (fun i _ _ => mL - (intOf i).toNat)
     case atStart => exact ⟨0, [], rfl, Nat.zero_le _, BfAt.start _, by simp⟩
     case round =>
       obtain ⟨wx, hwx⟩ : ∃ wx : World, wx = wr := ⟨_, rfl⟩
       subst hwx
       obtain ⟨j, bl, rfl, hj, hbf, hbx⟩ := hrel
       have HBF := Lib.hid hbf
       have HBX := Lib.hid hbx
       have HBL : Hid (bl.length = j) := Lib.hid (by have := congrArg List.length hbx; rw [List.length_map, List.length_take] at this; have := HMLL.out; omega)
       obtain ⟨ab, cb, hcb, hcb2, hub⟩ : ∃ a c, j ≤ c ∧ c ≤ 9223372036854775807 ∧ _ = Value.slice a j c := by
         obtain ⟨a, c, e, h1, h2, _⟩ := hbf.la.row.rdS.shape
         rw [HBL.out] at e h1
         exact ⟨a, c, h1, h2, e⟩
       subst hub
       clear hbf hbx
       by_cases hjm : j < mL
       · obtain ⟨x, hx⟩ : ∃ x, L[j]? = some x := ⟨_, List.getElem?_eq_getElem (by rw [← HMLL.out]; exact hjm)⟩
         obtain ⟨bi, offi, e0, hbi, r0⟩ := num_ent HR2.out (i := j) (x := x.id) (by rw [List.getElem?_map, hx]; rfl) rfl
         subst e0
         replace r0 := HBF.out.mod.cell r0
         have zbi : bi < wx.heap.size := Nat.lt_of_lt_of_le hbi HBF.out.mod.size
         have hxm := List.mem_of_getElem? hx
         have HVX : Hid (∀ w', Mod (fun _ => False) wx w' → Calls Tryz.prog 43 #[.pointer (some ⟨w.heap.size + 1, 0, none⟩), .int .u32 (x.id : Int)] w' (Twins w' x)) := Lib.hid (fun w' mm => by
           have := svertex_any _ _ L x.id w w' (HG2.out.keep (HBF.out.mod.trans mm)) (by have := (HG2.out.good.each x hxm).id; omega)
           rwa [tellV_mem HG2.out.good.rise hxm] at this)
         have HTK : Hid (L.take (j + 1) = L.take j ++ [x]) := Lib.hid (by
           obtain ⟨h1, h2⟩ := List.getElem?_eq_some_iff.1 hx
           rw [List.take_succ_eq_append_getElem h1, h2])
         clear hx hbi hxm
         obtain ⟨id, there, xs, ys⟩ := x
         simp only at r0 HVX
         go_wp2_with (first
           | (at_builtin; refine wpList_append_seg rfl (.tmp 32) (.tmp 36) 26 rfl i0 _ 4 56 Tryz.underlying26 HI.out.1 HI.out.2.1 HI.out.2.2.1 HI.out.2.2.2 rfl (by decide) rfl (HBL.out ▸ HB5.out.la.row) _ 1 _ rfl HSR.out (by have := HM40.out; unfold maxLen; omega) (by have := HM40.out; omega) ?_; intro v9 w9 hs9 hg9 ho9; have H3 := Lib.hid (HB5.out.next HV5.out (by rw [HBL.out]; exact hs9) hg9 ho9); (obtain ⟨a3, c3, n3, rfl⟩ : ∃ a c n, v9 = .slice a n c := (by obtain ⟨a, c, e, _⟩ := hs9.shape; exact ⟨_, _, _, e⟩)); clear hs9 hg9 ho9)
           | (go_at_call 43; go_loud (refine (HVX.out _ (Mod.refl _ _)).mono ?_; (rintro e w4 ⟨vp4, vh4, rfl, hm4, hn4⟩); (obtain ⟨a5, c5, n5, rfl⟩ : ∃ a c n, vp4 = .slice a n c := (by obtain ⟨a, c, e, _⟩ := hn4.props.shape; exact ⟨_, _, _, e⟩)); (obtain ⟨a6, c6, n6, rfl⟩ : ∃ a c n, vh4 = .slice a n c := (by obtain ⟨a, c, e, _⟩ := hn4.halves.shape; exact ⟨_, _, _, e⟩)); have HB5 := Lib.hid ((HBF.out.keep hm4).keep ((Mod.refl (fun _ => False) w4).alloc (.cells #[.int .u32 (id : Int), .bool there, .slice a5 n5 c5, .slice a6 n6 c6] 104))); have HV5 := Lib.hid (hn4.vown.mod ((Mod.refl (fun _ => False) w4).alloc (.cells #[.int .u32 (id : Int), .bool there, .slice a5 n5 c5, .slice a6 n6 c6] 104)) ⟨fun _ _ f => f, fun _ _ f => f⟩); have HSR := Lib.hid (src_cells (w := w4) rfl (size := 4) 104 #[.int .u32 (id : Int), .bool there, .slice a5 n5 c5, .slice a6 n6 c6] rfl (by simp [Value.oneCell'])); clear hm4 hn4)))
         go_roundw
         case rel => exact ⟨j + 1, bl ++ [⟨⟨id, there, xs, ys⟩, .slice a5 n5 c5, .slice a6 n6 c6⟩], by go_num, by omega, H3.out, by rw [List.map_append, HBX.out, HTK.out]; rfl⟩
         case measure => simp [intOf]; omega
       · obtain rfl : j = mL := by omega
         replace HBX : Hid (bl.map Vs.x = L) := Lib.hid (by have h := HBX.out; rwa [List.take_of_length_le (by have := HMLL.out; omega)] at h)
         go_wp2
         exact bodyPost_ret (v := .tuple #[.slice ab j cb, .int .i64 0]) (by simp [results, Tryz.results15, go_sem]) rfl ⟨ab, j, cb, bl, rfl, HBF.out.la.rd, HBX.out.trans HFL.out, HG2.out.mod.trans HBF.out.mod⟩
set_option maxRecDepth 100000 in
set_option maxHeartbeats 8000000 in
theorem rfinal_any (v : Value) (l : List Cm) (w : World) (hv : CRd Cm.c11 11 w v l) :
   Calls Tryz.prog 17 #[v] w fun e w' => e = .returned (.pointer (some ⟨w.heap.size, 0, none⟩)) ∧ RSt w w.heap.size (finalG (l.map Cm.x)) w' := by
 have HV := Lib.hid hv
 obtain ⟨a, c, rfl, hc1, hc2, -⟩ := hv.row.shape
 obtain ⟨m, hm⟩ : ∃ m, m = l.length := ⟨_, rfl⟩
 have HML := Lib.hid hm
 rw [← hm] at HV hc1 ⊢
 have HST0 : Hid (RSt w w.heap.size [] (w.alloc (.cells #[.slice none 0 0] 28))) := Lib.hid ⟨(Mod.refl _ _).alloc _, ⟨_, [], ⟨heap_alloc_new' _ _, ⟨RdS.none _ _, by simp⟩⟩, rfl⟩, Good.nil, Nat.le_refl _⟩
 clear hv hm
 go_enter Tryz.func17, Tryz.ntmps17
 go_wp2
 go_loopw [10] (fun i wr => ∃ k : Nat, i = .int .i64 (k : Int) ∧ k ≤ m ∧ RSt w w.heap.size (graphTo (l.map Cm.x) k) wr) (fun i _ => m - (intOf i).toNat)
 case atStart => exact ⟨0, rfl, Nat.zero_le _, HST0.out⟩
 case round =>
   obtain ⟨k, rfl, hk, hst⟩ := hrel
   have HST := Lib.hid hst
   have HK := Lib.hid hst.mod
   clear hst HST0
   by_cases hkm : k < m
   · skip
     obtain ⟨x, hx⟩ : ∃ x, l[k]? = some x := ⟨_, List.getElem?_eq_getElem (by rw [← HML.out]; exact hkm)⟩
     obtain ⟨b, off, e1, hb, hcs⟩ := CRd.ent (cells := Cm.c11) (size := 11) (fun _ => rfl) (by decide) HV.out hx rfl
     obtain rfl := e1
     have hxx : (l.map Cm.x)[k]? = some x.x := by rw [List.getElem?_map, hx]; rfl
     have HXX := Lib.hid hxx
     have HRX := Lib.hid ((HV.out.at hx).keep HK.out)
     have hcs : ∀ j, j < 11 → ∀ u, x.c11[j]? = some u → wr.cell? ⟨b, off + (k * 11 + j), none⟩ = some u := fun j hj u hu => HK.out.cell ((hcs j hj).trans hu)
     obtain ⟨ao, co, hvo⟩ := HRX.out.vo_eq
     obtain ⟨av, cv, hvv⟩ := HRX.out.vv_eq
     obtain ⟨al, cl, hvl⟩ := HRX.out.vl_eq
     have HNX := Lib.hid (graphTo_succ hxx)
     have HDO : Hid (∀ w', Mod (fun _ => False) wr w' → Calls Tryz.prog 9 #[.pointer (some ⟨w.heap.size, 0, none⟩), rqV x.x.r x.vo] w' fun e w'' => ∃ u, e = .returned u ∧ RSt w w.heap.size (graphTo (l.map Cm.x) (k + 1)) w'') := Lib.hid (fun w' mm => (rdo_any w.heap.size (graphTo (l.map Cm.x) k) x.x.r x.vo w' (HST.out.keep mm).rf HST.out.good (HRX.out.keep mm).ops).mono (by
       rintro e w'' ⟨vv, vl, rfl, hd⟩
       exact ⟨_, rfl, by rw [HNX.out]; exact (HST.out.keep mm).do hd⟩))
     clear hx hxx
     obtain ⟨⟨xc, xq, ⟨kind, ops, rv, rk, rd⟩, ae, ap, vals, list, fr, to_⟩, vo, vv, vl⟩ := x
     simp only at hvo hvv hvl
     subst hvo hvv hvl
     obtain ⟨no, hno⟩ : ∃ n, n = ops.length := ⟨_, rfl⟩
     obtain ⟨nv, hnv⟩ : ∃ n, n = vals.length := ⟨_, rfl⟩
     obtain ⟨nl, hnl⟩ : ∃ n, n = list.length := ⟨_, rfl⟩
     simp only [Cm.c11, ← hno, ← hnv, ← hnl] at hcs
     have p0 := hcs 0 (by omega) _ rfl
     have p1 := hcs 1 (by omega) _ rfl
     have p2 := hcs 2 (by omega) _ rfl
     have p3 := hcs 3 (by omega) _ rfl
     have p4 := hcs 4 (by omega) _ rfl
     have p5 := hcs 5 (by omega) _ rfl
     have p6 := hcs 6 (by omega) _ rfl
     have p7 := hcs 7 (by omega) _ rfl
     have p8 := hcs 8 (by omega) _ rfl
     have p9 := hcs 9 (by omega) _ rfl
     have p10 := hcs 10 (by omega) _ rfl
     simp only [← Nat.add_assoc, Nat.add_zero] at p0 p1 p2 p3 p4 p5 p6 p7 p8 p9 p10
     have zb := Nat.lt_of_lt_of_le hb HK.out.size
     clear hcs hb
     simp only [rqV, ← hno] at HDO
     clear hno hnv hnl HRX HNX
     have HMQ : Hid (Mod (fun _ => False) wr (wr.alloc (.cells #[.int .u8 (xc : Int), .int .u32 (xq : Int), .int .u8 (kind : Int), .slice ao no co, .int .u32 (rv : Int), .int .i64 rk, .int .i64 rd, .int .i64 ae, .int .i64 ap, .slice av nv cv, .slice al nl cl] 42))) := Lib.hid ((Mod.refl _ _).alloc _)
     go_wp2_with (go_at_call 9; go_loud (refine (HDO.out _ HMQ.out).mono ?_; (rintro e w5 ⟨u5, rfl, hs5⟩); have HS5 := Lib.hid hs5; clear hs5))
     go_roundw
     case rel => exact ⟨k + 1, by go_num, by omega, HS5.out⟩
     case measure => simp [intOf]; omega
   · have HKM : Hid (k = m) := Lib.hid (by omega)
     have HFL : Hid (graphTo (l.map Cm.x) k = finalG (l.map Cm.x)) := Lib.hid (by rw [HKM.out, HML.out]; unfold finalG; rw [List.length_map])
     rw [HFL.out] at HST
     go_wp2
     go_ret
     exact ⟨rfl, HST.out⟩
set_option maxRecDepth 100000 in
set_option maxHeartbeats 4000000 in
theorem samelist_any (v u : Value) (l r : List Vs) (w : World) (hv : LRd w v l) (hu : LRd w u r) (hx : l.map Vs.x = r.map Vs.x) :
   Calls Tryz.prog 16 #[v, u] w fun e w' => e = .returned (.bool true) ∧ Mod (fun _ => False) w w' := by
 have HV := Lib.hid hv
 have HU := Lib.hid hu
 have HX := Lib.hid hx
 obtain ⟨a, c, rfl, hc1, hc2, -⟩ := hv.row.shape
 obtain ⟨a', c', hue, hc1', hc2', -⟩ := hu.row.shape
 have hlen : r.length = l.length := by have := congrArg List.length hx; simpa using this.symm
 obtain ⟨m, hm⟩ : ∃ m, m = l.length := ⟨_, rfl⟩
 have HML := Lib.hid hm
 have HMR : Hid (m = r.length) := Lib.hid (by rw [hlen, hm])
 rw [hlen] at hue hc1'
 subst hue
 rw [← hm] at HV HU hc1 hc1' ⊢
 clear hv hu hx hlen hm
 go_enter Tryz.func16, Tryz.ntmps16
 go_wp2
 go_loopw [13] (fun i wr => ∃ k : Nat, i = .int .i64 (k : Int) ∧ k ≤ m ∧ Mod (fun _ => False) w wr) (fun i _ => m - (intOf i).toNat)
 case atStart => exact ⟨0, rfl, Nat.zero_le _, Mod.refl _ _⟩
 case round =>
   obtain ⟨k, rfl, hk, hmk⟩ := hrel
   have HK := Lib.hid hmk
   clear hmk
   by_cases hkm : k < m
   · obtain ⟨x, hx⟩ : ∃ x, l[k]? = some x := ⟨_, List.getElem?_eq_getElem (by rw [← HML.out]; exact hkm)⟩
     obtain ⟨y, hy⟩ : ∃ y, r[k]? = some y := ⟨_, List.getElem?_eq_getElem (by rw [← HMR.out]; exact hkm)⟩
     have hxy : x.x = y.x := by
       have h := congrArg (fun q => q[k]?) HX.out
       simp only [List.getElem?_map, hx, hy, Option.map_some] at h
       injection h
     obtain ⟨b, off, e1, hb, p0, p1, p2, p3⟩ := HV.out.ent hx rfl
     obtain ⟨b', off', e2, hb', q0, q1, q2, q3⟩ := HU.out.ent hy rfl
     obtain rfl := e1
     obtain rfl := e2
     have HSV : Hid (∀ x' : MW wr, Calls Tryz.prog 44 #[vtxV x.x x.vp x.vh, vtxV y.x y.vp y.vh] x'.w fun e w'' => e = .returned (.bool true) ∧ ∃ x'' : MW wr, w'' = x''.w) := Lib.hid (fun x' => Calls.quietM (by
       rw [← hxy]
       exact vsame_yes x.x x.vp x.vh y.vp y.vh x'.w ((HV.out.at hx).keep (HK.out.trans x'.mod)) (by rw [hxy]; exact (HU.out.at hy).keep (HK.out.trans x'.mod))))
     clear hx hy hxy
     obtain ⟨⟨xi, xt, xp, xh⟩, xvp, xvh⟩ := x
     obtain ⟨⟨yi, yt, yp, yh⟩, yvp, yvh⟩ := y
     simp only [vtxV] at HSV p0 p1 p2 p3 q0 q1 q2 q3
     have p0 : ∀ x : MW wr, x.w.cell? _ = some _ := fun x => x.cell (HK.out.cell p0)
     have p1 : ∀ x : MW wr, x.w.cell? _ = some _ := fun x => x.cell (HK.out.cell p1)
     have p2 : ∀ x : MW wr, x.w.cell? _ = some _ := fun x => x.cell (HK.out.cell p2)
     have p3 : ∀ x : MW wr, x.w.cell? _ = some _ := fun x => x.cell (HK.out.cell p3)
     have q0 : ∀ x : MW wr, x.w.cell? _ = some _ := fun x => x.cell (HK.out.cell q0)
     have q1 : ∀ x : MW wr, x.w.cell? _ = some _ := fun x => x.cell (HK.out.cell q1)
     have q2 : ∀ x : MW wr, x.w.cell? _ = some _ := fun x => x.cell (HK.out.cell q2)
     have q3 : ∀ x : MW wr, x.w.cell? _ = some _ := fun x => x.cell (HK.out.cell q3)
     clear hb hb'
     go_wp2_with fail
     refine wp_region_quietM (by kernel_rfl) (by kernel_rfl) ?_
     repeat (go_big_quiet_step ((go_at_call 44; exact HSV.out _)))
     refine wpQuiet_nil ?_
     intro w3 hm3
     have M3 : Hid (Mod (fun _ => False) w w3) := Lib.hid (HK.out.trans (MW.mod_of hm3))
     clear hm3 p0 p1 p2 p3 q0 q1 q2 q3
     go_wp2
     go_roundw
     case rel => exact ⟨k + 1, by go_num, by omega, M3.out⟩
     case measure => simp [intOf]; omega
   · go_wp2
     go_ret
     exact ⟨rfl, HK.out⟩
end Go.Proofs.YtpigipgoopeeoaaGreatDoor
