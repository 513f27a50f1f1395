import Derived.Test.YtpigipgoopeeoaaGreatDoorMOn34
import Derived.Laws.EntriesVeiled
set_option linter.unusedVariables false
set_option linter.unusedSimpArgs false
namespace Go.Proofs.YtpigipgoopeeoaaGreatDoor
open Go.RowKit Go.Maps
def finalG (l : List Cx) : Gr := graphTo l l.length
set_option maxRecDepth 100000 in
set_option maxHeartbeats 8000000 in
theorem cfinal_any (v : Value) (l : List Cm) (w : World) (hv : CRd Cm.c14 14 w v l) (hl : l.length ≤ 4096) (hg : ErrT w) :
   Calls Tryz.prog 15 #[v] w fun e w' => ∃ a n c bl, e = .returned (.tuple #[.slice a n c, .int .i64 0]) ∧ LRd w' (.slice a n c) bl ∧ bl.map Vs.x = finalG (l.map Cm.x) ∧ Mod (fun _ => False) w w' := by
 have HV := Lib.hid hv
 have HE := Lib.hid hg
 obtain ⟨a, c, rfl, hc1, hc2, -⟩ := hv.row.shape
 obtain ⟨m, hm⟩ : ∃ m, m = l.length := ⟨_, rfl⟩
 have HML := Lib.hid hm
 rw [← hm] at HV hc1 hl ⊢
 have hl1 : ¬ (4096 : Int) < (m : Int) := by omega
 clear hv hm hg
 go_enter Tryz.func15, Tryz.ntmps15
 go_wp2_with (go_at_call 40; refine (snew_any w w (Mod.refl _ _)).mono ?_; (rintro e w2 ⟨rfl, hm2, hst, hz2⟩); have HST0 := Lib.hid hst; clear hm2 hst hz2)
 go_loopw [16] (fun i wr => ∃ k : Nat, i = .int .i64 (k : Int) ∧ k ≤ m ∧ GSt w (w.heap.size + 1) w.heap.size (graphTo (l.map Cm.x) k) wr) (fun i _ => m - (intOf i).toNat)
 case atStart => exact ⟨0, rfl, Nat.zero_le _, HST0.out⟩
 case round =>
   obtain ⟨k, rfl, hk, hst⟩ := hrel
   have HST := Lib.hid hst
   have HK := Lib.hid hst.mod
   clear hst HST0
   by_cases hkm : k < m
   · skip
     obtain ⟨x, hx⟩ : ∃ x, l[k]? = some x := ⟨_, List.getElem?_eq_getElem (by rw [← HML.out]; exact hkm)⟩
     obtain ⟨b, off, e1, hb, hcs⟩ := CRd.ent (cells := Cm.c14) (size := 14) (fun _ => rfl) (by decide) HV.out hx rfl
     obtain rfl := e1
     have hxx : (l.map Cm.x)[k]? = some x.x := by rw [List.getElem?_map, hx]; rfl
     have HXX := Lib.hid hxx
     have HRX := Lib.hid ((HV.out.at hx).keep HK.out)
     have hcs : ∀ j, j < 14 → ∀ u, x.c14[j]? = some u → wr.cell? ⟨b, off + (k * 14 + j), none⟩ = some u := fun j hj u hu => HK.out.cell ((hcs j hj).trans hu)
     obtain ⟨ao, co, hvo⟩ := HRX.out.vo_eq
     obtain ⟨av, cv, hvv⟩ := HRX.out.vv_eq
     obtain ⟨al, cl, hvl⟩ := HRX.out.vl_eq
     have HNX := graphTo_succ hxx
     obtain ⟨wQ, hwQ⟩ : ∃ wQ, wQ = wr.alloc (.cells x.c14.toArray 67) := ⟨_, rfl⟩
     have HMQ : Hid (Mod (fun _ => False) wr wQ) := Lib.hid (by rw [hwQ]; exact (Mod.refl _ _).alloc _)
     have HDO := Lib.hid (sgdo_any (w.heap.size + 1) w.heap.size (graphTo (l.map Cm.x) k) x.x.r x.vo w wQ (HST.out.keep HMQ.out) (HRX.out.keep HMQ.out).ops HRX.out.v HE.out)
     have HDN : Hid (∀ e w', SDoE w (w.heap.size + 1) w.heap.size (graphTo (l.map Cm.x) k) x.x.r wQ e w' → ∃ u, e = .returned u ∧ GSt w (w.heap.size + 1) w.heap.size (graphTo (l.map Cm.x) (k + 1)) w') := Lib.hid (fun e w' ⟨vv, vl, he, hs⟩ => ⟨_, he, by rw [HNX]; exact hs.st⟩)
     clear HNX
     clear hx hxx
     obtain ⟨⟨xc, xq, ⟨kind, ops, rv, rk, rd⟩, ae, ap, vals, list, fr, to_⟩, vo, vv, vl⟩ := x
     simp only at hvo hvv hvl
     subst hvo hvv hvl
     obtain ⟨no, hno⟩ : ∃ n, n = ops.length := ⟨_, rfl⟩
     obtain ⟨nv, hnv⟩ : ∃ n, n = vals.length := ⟨_, rfl⟩
     obtain ⟨nl, hnl⟩ : ∃ n, n = list.length := ⟨_, rfl⟩
     simp only [Cm.c14, ← hno, ← hnv, ← hnl] at hcs
     have p0 := hcs 0 (by omega) _ rfl
     have p1 := hcs 1 (by omega) _ rfl
     have p2 := hcs 2 (by omega) _ rfl
     have p3 := hcs 3 (by omega) _ rfl
     have p4 := hcs 4 (by omega) _ rfl
     have p5 := hcs 5 (by omega) _ rfl
     have p6 := hcs 6 (by omega) _ rfl
     have p7 := hcs 7 (by omega) _ rfl
     have p8 := hcs 8 (by omega) _ rfl
     have p9 := hcs 9 (by omega) _ rfl
     have p10 := hcs 10 (by omega) _ rfl
     have p11 := hcs 11 (by omega) _ rfl
     have p12 := hcs 12 (by omega) _ rfl
     have p13 := hcs 13 (by omega) _ rfl
     simp only [← Nat.add_assoc, Nat.add_zero] at p0 p1 p2 p3 p4 p5 p6 p7 p8 p9 p10 p11 p12 p13
     have zb := Nat.lt_of_lt_of_le hb HK.out.size
     clear hcs hb
     simp only [Cm.c14, rqV, ← hno, ← hnv, ← hnl] at HDO hwQ
     subst hwQ
     clear hno hnv hnl HRX
     go_wp2_with (go_at_call 41; go_loud (refine HDO.out.mono ?_; (intro e w5 h5); (obtain ⟨u5, rfl, hs5⟩ := HDN.out e w5 h5); have HS5 := Lib.hid hs5; clear hs5 h5))
     go_roundw
     case rel => exact ⟨k + 1, by go_num, by omega, HS5.out⟩
     case measure => simp [intOf]; omega
   · have HKM : Hid (k = m) := Lib.hid (by omega)
     have HFL : Hid (graphTo (l.map Cm.x) k = finalG (l.map Cm.x)) := Lib.hid (by rw [HKM.out, HML.out]; unfold finalG; rw [List.length_map])
     obtain ⟨L, hL⟩ : ∃ L, L = graphTo (l.map Cm.x) k := ⟨_, rfl⟩
     rw [← hL] at HFL HST
     clear hL
     obtain ⟨mL, hmL⟩ : ∃ m, m = L.length := ⟨_, rfl⟩
     have HMLL := Lib.hid hmL
     have HLI := Lib.hid (slist_any _ _ L w wr HST.out)
     clear hmL
     go_wp2_with (go_at_call 42; refine HLI.out.mono ?_; (rintro e w3 ⟨vl3, rfl, hs3⟩); have hr3 := hs3.seg.rdS; have HG2 := Lib.hid (HST.out.keep hs3.mod); rw [List.length_map, ← HMLL.out] at hr3; (obtain ⟨ai, ci, rfl, hci, hci2, -⟩ := hr3.shape); have HR2 := Lib.hid hr3; clear hs3 hr3)
     obtain ⟨i0, hi, hz0, hz1, hz2⟩ := info_parts infoVtx
     have HI : Hid (Tryz.prog.info? 104 = some i0 ∧ i0.zero = some (.agg #[.int .u32 0, .bool false, .slice none 0 0, .slice none 0 0]) ∧ i0.size = 4 ∧ i0.bytes = 56) := ⟨hi, hz0, hz1, hz2⟩
     clear hi hz0 hz1 hz2
     have HM40 : Hid (mL ≤ 40) := Lib.hid (by have := HG2.out.good.short; have := HMLL.out; omega)
     go_loopw [28, 7] (fun i u wx => ∃ (j : Nat) (bl : List Vs), i = .int .i64 (j : Int) ∧ j ≤ mL ∧ BfAt w3 u bl wx ∧ bl.map Vs.x = L.take j) (fun i _ _ => mL - (intOf i).toNat)
     case atStart => exact ⟨0, [], rfl, Nat.zero_le _, BfAt.start _, by simp⟩
     case round =>
       obtain ⟨wx, hwx⟩ : ∃ wx : World, wx = wr := ⟨_, rfl⟩
       subst hwx
       obtain ⟨j, bl, rfl, hj, hbf, hbx⟩ := hrel
       have HBF := Lib.hid hbf
       have HBX := Lib.hid hbx
       have HBL : Hid (bl.length = j) := Lib.hid (by have := congrArg List.length hbx; rw [List.length_map, List.length_take] at this; have := HMLL.out; omega)
       obtain ⟨ab, cb, hcb, hcb2, hub⟩ : ∃ a c, j ≤ c ∧ c ≤ 9223372036854775807 ∧ _ = Value.slice a j c := by
         obtain ⟨a, c, e, h1, h2, _⟩ := hbf.la.row.rdS.shape
         rw [HBL.out] at e h1
         exact ⟨a, c, h1, h2, e⟩
       subst hub
       clear hbf hbx
       by_cases hjm : j < mL
       · obtain ⟨x, hx⟩ : ∃ x, L[j]? = some x := ⟨_, List.getElem?_eq_getElem (by rw [← HMLL.out]; exact hjm)⟩
         obtain ⟨bi, offi, e0, hbi, r0⟩ := num_ent HR2.out (i := j) (x := x.id) (by rw [List.getElem?_map, hx]; rfl) rfl
         subst e0
         replace r0 := HBF.out.mod.cell r0
         have zbi : bi < wx.heap.size := Nat.lt_of_lt_of_le hbi HBF.out.mod.size
         have hxm := List.mem_of_getElem? hx
         have HVX : Hid (∀ w', Mod (fun _ => False) wx w' → Calls Tryz.prog 43 #[.pointer (some ⟨w.heap.size + 1, 0, none⟩), .int .u32 (x.id : Int)] w' (Twins w' x)) := Lib.hid (fun w' mm => by
           have := svertex_any _ _ L x.id w w' (HG2.out.keep (HBF.out.mod.trans mm)) (by have := (HG2.out.good.each x hxm).id; omega)
           rwa [tellV_mem HG2.out.good.rise hxm] at this)
         have HTK : Hid (L.take (j + 1) = L.take j ++ [x]) := Lib.hid (by
           obtain ⟨h1, h2⟩ := List.getElem?_eq_some_iff.1 hx
           rw [List.take_succ_eq_append_getElem h1, h2])
         clear hx hbi hxm
         obtain ⟨id, there, xs, ys⟩ := x
         simp only at r0 HVX
         go_wp2_with (first
           | (at_builtin; refine wpList_append_seg rfl (.tmp 32) (.tmp 36) 26 rfl i0 _ 4 56 Tryz.underlying26 HI.out.1 HI.out.2.1 HI.out.2.2.1 HI.out.2.2.2 rfl (by decide) rfl (HBL.out ▸ HB5.out.la.row) _ 1 _ rfl HSR.out (by have := HM40.out; unfold maxLen; omega) (by have := HM40.out; omega) ?_; intro v9 w9 hs9 hg9 ho9; have H3 := Lib.hid (HB5.out.next HV5.out (by rw [HBL.out]; exact hs9) hg9 ho9); (obtain ⟨a3, c3, n3, rfl⟩ : ∃ a c n, v9 = .slice a n c := (by obtain ⟨a, c, e, _⟩ := hs9.shape; exact ⟨_, _, _, e⟩)); clear hs9 hg9 ho9)
           | (go_at_call 43; go_loud (refine (HVX.out _ (Mod.refl _ _)).mono ?_; (rintro e w4 ⟨vp4, vh4, rfl, hm4, hn4⟩); (obtain ⟨a5, c5, n5, rfl⟩ : ∃ a c n, vp4 = .slice a n c := (by obtain ⟨a, c, e, _⟩ := hn4.props.shape; exact ⟨_, _, _, e⟩)); (obtain ⟨a6, c6, n6, rfl⟩ : ∃ a c n, vh4 = .slice a n c := (by obtain ⟨a, c, e, _⟩ := hn4.halves.shape; exact ⟨_, _, _, e⟩)); have HB5 := Lib.hid ((HBF.out.keep hm4).keep ((Mod.refl (fun _ => False) w4).alloc (.cells #[.int .u32 (id : Int), .bool there, .slice a5 n5 c5, .slice a6 n6 c6] 104))); have HV5 := Lib.hid (hn4.vown.mod ((Mod.refl (fun _ => False) w4).alloc (.cells #[.int .u32 (id : Int), .bool there, .slice a5 n5 c5, .slice a6 n6 c6] 104)) ⟨fun _ _ f => f, fun _ _ f => f⟩); have HSR := Lib.hid (src_cells (w := w4) rfl (size := 4) 104 #[.int .u32 (id : Int), .bool there, .slice a5 n5 c5, .slice a6 n6 c6] rfl (by simp [Value.oneCell'])); clear hm4 hn4)))
         go_roundw
         case rel => exact ⟨j + 1, bl ++ [⟨⟨id, there, xs, ys⟩, .slice a5 n5 c5, .slice a6 n6 c6⟩], by go_num, by omega, H3.out, by rw [List.map_append, HBX.out, HTK.out]; rfl⟩
         case measure => simp [intOf]; omega
       · obtain rfl : j = mL := by omega
         replace HBX : Hid (bl.map Vs.x = L) := Lib.hid (by have h := HBX.out; rwa [List.take_of_length_le (by have := HMLL.out; omega)] at h)
         go_wp2
         exact bodyPost_ret (v := .tuple #[.slice ab j cb, .int .i64 0]) (by simp [results, Tryz.results15, go_sem]) rfl ⟨ab, j, cb, bl, rfl, HBF.out.la.rd, HBX.out.trans HFL.out, HG2.out.mod.trans HBF.out.mod⟩
open Go.RowKit Go.Maps
def verdV : Option (Nat × Nat) → Value
 | none => .tuple #[.agg #[.int .i64 0, .int .i64 0], .bool true, .int .i64 0]
 | some (k, i) => .tuple #[.agg #[.int .i64 (k : Int), .int .i64 (i : Int)], .bool false, .int .i64 0]
theorem placeZ_neg {o : Option Nat} (h : ¬ 0 ≤ placeZ o) : o = none := by
 cases o with
 | none => rfl
 | some i => exact absurd (Int.natCast_nonneg i) h
theorem placeZ_pos {o : Option Nat} (h : 0 ≤ placeZ o) : ∃ i : Nat, o = some i ∧ placeZ o = (i : Int) := by
 cases o with
 | none => exact absurd h (by decide)
 | some i => exact ⟨i, rfl, rfl⟩
set_option maxRecDepth 100000 in
set_option maxHeartbeats 16000000 in
theorem cverify_any (v u : Value) (l rs : List Cm) (w : World) (hv : CRd Cm.c14 14 w v l) (hu : CRd Cm.c13 13 w u rs) (hl : l.length ≤ 4096) (hr : rs.length ≤ 4096) (hg : ErrT w) :
   Calls Tryz.prog 10 #[v, u] w fun e w' => e = .returned (verdV (verdict (l.map Cm.x) (rs.map Cm.x))) ∧ Mod (fun _ => False) w w' := by
 have HV := Lib.hid hv
 have HU := Lib.hid hu
 obtain ⟨z1, hz1⟩ : ∃ z, z = placeZ (firstI l.length (ansBad (l.map Cm.x))) := ⟨_, rfl⟩
 obtain ⟨z2, hz2⟩ : ∃ z, z = placeZ (firstI l.length (numBad (l.map Cm.x))) := ⟨_, rfl⟩
 obtain ⟨z3, hz3⟩ : ∃ z, z = placeZ (firstR (repA (l.map Cm.x)) (rs.map Cm.x)) := ⟨_, rfl⟩
 obtain ⟨z4, hz4⟩ : ∃ z, z = placeZ (firstR (repB (l.map Cm.x)) (rs.map Cm.x)) := ⟨_, rfl⟩
 have HPL : Hid (∀ w', Mod (fun _ => False) w w' → Calls Tryz.prog 27 #[v] w' fun e w'' => ∃ b n, e = .returned (.map (some b)) ∧ Mod (fun _ => False) w' w'' ∧ w'.heap.size ≤ b ∧ NMap Tryz.prog 90 w'' b n (placeV (l.map Cm.x))) := Lib.hid (fun w' m => places_any v l w' (hv.keep m) hl)
 have HC1 : Hid (∀ w', Mod (fun _ => False) w w' → Calls Tryz.prog 32 #[v] w' fun e w'' => e = .returned (.int .i64 z1) ∧ Mod (fun _ => False) w' w'') := Lib.hid (fun w' m => by rw [hz1]; exact answers_any v l w' (hv.keep m) (hg.keep m (fun f => f)))
 have HC2 : Hid (∀ w', Mod (fun _ => False) w w' → Calls Tryz.prog 33 #[v] w' fun e w'' => e = .returned (.int .i64 z2) ∧ Mod (fun _ => False) w' w'') := Lib.hid (fun w' m => by rw [hz2]; exact numbers_any v l w' (hv.keep m) hl)
 have HC3 : Hid (∀ b2 b7 b8 bm nm w', CV l v b2 b7 bm nm w' → CRd Cm.c13 13 w' u rs → w'.heap[b8]? = some (.cells #[.func (.func 28) #[] #[.pointer (some ⟨b7, 0, none⟩), .pointer (some ⟨b2, 0, none⟩)]] 91 (0, 0)) → Calls Tryz.prog 34 #[u, .func (.func 35) #[] #[.pointer (some ⟨b8, 0, none⟩)]] w' fun e w'' => e = .returned (.int .i64 z3) ∧ Mod (fun _ => False) w' w'') := Lib.hid (fun b2 b7 b8 bm nm w' h1 h2 h3 => by rw [hz3]; exact idxA_any u rs l v b2 b7 b8 bm nm w' h2 h1 h3)
 have HC4 : Hid (∀ b2 b7 b8 bm nm w', CV l v b2 b7 bm nm w' → CRd Cm.c13 13 w' u rs → w'.heap[b8]? = some (.cells #[.func (.func 31) #[] #[.pointer (some ⟨b7, 0, none⟩)]] 91 (0, 0)) → Calls Tryz.prog 34 #[u, .func (.func 37) #[] #[.pointer (some ⟨b8, 0, none⟩)]] w' fun e w'' => e = .returned (.int .i64 z4) ∧ Mod (fun _ => False) w' w'') := Lib.hid (fun b2 b7 b8 bm nm w' h1 h2 h3 => by rw [hz4]; exact idxB_any u rs l v b2 b7 b8 bm nm w' h2 h1 h3)
 have HZ1 := Lib.hid hz1
 have HZ2 := Lib.hid hz2
 have HZ3 := Lib.hid hz3
 have HZ4 := Lib.hid hz4
 have HVD : Hid (verdict (l.map Cm.x) (rs.map Cm.x) = pick4 (firstI l.length (ansBad (l.map Cm.x))) (firstI l.length (numBad (l.map Cm.x))) (firstR (repA (l.map Cm.x)) (rs.map Cm.x)) (firstR (repB (l.map Cm.x)) (rs.map Cm.x))) := Lib.hid (by unfold verdict; rw [List.length_map])
 obtain ⟨a, c, hva, hc1, hc2, -⟩ := hv.row.shape
 obtain ⟨a', c', hua, hc1', hc2', -⟩ := hu.row.shape
 obtain ⟨m, hm⟩ : ∃ m, m = l.length := ⟨_, rfl⟩
 obtain ⟨m', hm'⟩ : ∃ m, m = rs.length := ⟨_, rfl⟩
 rw [← hm] at hl hva hc1
 rw [← hm'] at hr hua hc1'
 subst hva hua
 have hl1 : ¬ (4096 : Int) < (m : Int) := by omega
 have hr1 : ¬ (4096 : Int) < (m' : Int) := by omega
 have HBX : Hid (((w.alloc (.cells #[.slice a m c] 49)).alloc (.cells #[.int .i64 0, .int .i64 0] 46)).heap[w.heap.size]? = some (.cells #[.slice a m c] 49 (0, 0))) := Lib.hid (heap_alloc_old (heap_alloc_new' w _))
 have HFX : Hid (((w.alloc (.cells #[.slice a m c] 49)).alloc (.cells #[.int .i64 0, .int .i64 0] 46)).heap[w.heap.size + 1]? = some (.cells #[.int .i64 0, .int .i64 0] 46 (0, 0))) := Lib.hid (by
   have h := heap_alloc_new' (w.alloc (.cells #[.slice a m c] 49)) (.cells #[.int .i64 0, .int .i64 0] 46)
   simpa using h)
 have HM0 : Hid (Mod (fun _ => False) w ((w.alloc (.cells #[.slice a m c] 49)).alloc (.cells #[.int .i64 0, .int .i64 0] 46))) := Lib.hid (((Mod.refl _ _).alloc _).alloc _)
 clear hv hu hz1 hz2 hz3 hz4 hg hm hm'
 go_enter Tryz.func10, Tryz.ntmps10
 go_upto_region 6 with (go_at_call 27; go_loud (refine (HPL.out _ HM0.out).mono ?_; (rintro e w3 ⟨bm, nm, rfl, hm3, hlo, hN⟩); have HM3 := Lib.hid (HM0.out.trans hm3); have HN := Lib.hid hN; have HB3 := Lib.hid (hm3.heap HBX.out (fun f => f)); have HF3 := Lib.hid (hm3.heap HFX.out (fun f => f)); clear hm3 hlo hN))
 obtain ⟨W6, hW6⟩ : ∃ W6, W6 = ((w3.alloc (.cells #[.map (some bm)] 86)).alloc (.cells #[.func (.func 28) #[] #[.pointer (some ⟨w3.heap.size, 0, none⟩), .pointer (some ⟨w.heap.size, 0, none⟩)]] 91)).alloc (.cells #[.func (.func 31) #[] #[.pointer (some ⟨w3.heap.size, 0, none⟩)]] 91) := ⟨_, rfl⟩
 have HM36 : Hid (Mod (fun _ => False) w3 W6) := Lib.hid (by rw [hW6]; exact (((Mod.refl _ _).alloc _).alloc _).alloc _)
 have HX7 : Hid (W6.heap[w3.heap.size]? = some (.cells #[.map (some bm)] 86 (0, 0))) := Lib.hid (by rw [hW6]; exact heap_alloc_old (heap_alloc_old (heap_alloc_new' w3 _)))
 have HX8 : Hid (W6.heap[w3.heap.size + 1]? = some (.cells #[.func (.func 28) #[] #[.pointer (some ⟨w3.heap.size, 0, none⟩), .pointer (some ⟨w.heap.size, 0, none⟩)]] 91 (0, 0))) := Lib.hid (by
   rw [hW6]
   refine heap_alloc_old ?_
   have h := heap_alloc_new' (w3.alloc (.cells #[.map (some bm)] 86)) (.cells #[.func (.func 28) #[] #[.pointer (some ⟨w3.heap.size, 0, none⟩), .pointer (some ⟨w.heap.size, 0, none⟩)]] 91)
   simpa using h)
 have HX9 : Hid (W6.heap[w3.heap.size + 2]? = some (.cells #[.func (.func 31) #[] #[.pointer (some ⟨w3.heap.size, 0, none⟩)]] 91 (0, 0))) := Lib.hid (by
   rw [hW6]
   have h := heap_alloc_new' ((w3.alloc (.cells #[.map (some bm)] 86)).alloc (.cells #[.func (.func 28) #[] #[.pointer (some ⟨w3.heap.size, 0, none⟩), .pointer (some ⟨w.heap.size, 0, none⟩)]] 91)) (.cells #[.func (.func 31) #[] #[.pointer (some ⟨w3.heap.size, 0, none⟩)]] 91)
   simpa using h)
 have HM6 : Hid (Mod (fun _ => False) w W6) := Lib.hid (HM3.out.trans HM36.out)
 have HCV : Hid (CV l (.slice a m c) w.heap.size w3.heap.size bm nm W6) := Lib.hid ⟨HV.out.keep HM6.out, HM36.out.heap HB3.out (fun f => f), HX7.out, HN.out.keep HM36.out⟩
 have HF6 : Hid (W6.heap[w.heap.size + 1]? = some (.cells #[.int .i64 0, .int .i64 0] 46 (0, 0))) := Lib.hid (HM36.out.heap HF3.out (fun f => f))
 rw [← hW6]
 clear hW6
 have HM : Hid (Mod (fun _ => False) W6 W6.drew) := Lib.hid (Mod.refl _ _).drew
 have HKEEP : Hid (∀ w', Mod (fun _ => False) W6 w' → (fun w' : World => w'.cell? ⟨w.heap.size, 0, none⟩ = some (.slice a m c)) w') := Lib.hid (fun w' m => cell_of_row (m.heap HCV.out.box (fun f => f)) 0)
 have k0 := HKEEP.out W6.drew HM.out
 go_cut [10] (fun p wx => ∃ b, p = .slice (some ⟨b, 0, none⟩) 4 4 ∧ wx.heap[b]? = some (.cells #[.int .i64 z1, .int .i64 z2, .int .i64 z3, .int .i64 z4] 3 (0, 0)) ∧ Mod (fun _ => False) W6 wx)
 case first =>
   go_wp2_with fail
   go_region_held3 (fun w' => w'.cell? ⟨w.heap.size, 0, none⟩ = some (.slice a m c))
     (first
       | go_keep
       | exact HKEEP.out _ HM.out)
     ((first
       | (go_at_call 32; refine (HC1.out _ (HM6.out.trans HM.out)).mono ?_; (rintro e w9 ⟨rfl, hm9⟩); replace HM := Lib.hid (HM.out.trans hm9); clear hm9)
       | (go_at_call 33; refine (HC2.out _ (HM6.out.trans HM.out)).mono ?_; (rintro e w9 ⟨rfl, hm9⟩); replace HM := Lib.hid (HM.out.trans hm9); clear hm9)
       | (go_at_call 34; (first | (with_reducible refine (HC3.out _ _ _ bm nm _ (HCV.out.keep HM.out) (HU.out.keep (HM6.out.trans HM.out)) (HM.out.heap HX8.out (fun f => f))).mono ?_) | (with_reducible refine (HC4.out _ _ _ bm nm _ (HCV.out.keep HM.out) (HU.out.keep (HM6.out.trans HM.out)) (HM.out.heap HX9.out (fun f => f))).mono ?_)); (rintro e w9 ⟨rfl, hm9⟩); replace HM := Lib.hid (HM.out.trans hm9); clear hm9)))
   all_goals
     go_step
     go_step
     go_meet
     exact ⟨_, rfl, heap_alloc_new' _ _, HM.out.alloc _⟩
 case rest =>
   obtain ⟨b, rfl, hb, hmc⟩ := hcut
   have HB := Lib.hid hb
   have HMC := Lib.hid hmc
   have q0 := cell_of_row hb 0
   have q1 := cell_of_row hb 1
   have q2 := cell_of_row hb 2
   have q3 := cell_of_row hb 3
   have zb := lt_of_block hb
   have hf := hmc.heap HF6.out (fun f => f)
   have f0 := cell_of_row hf 0
   have f1 := cell_of_row hf 1
   have g0 := free_of_row hf 0
   have g1 := free_of_row hf 1
   have zf := lt_of_block hf
   simp at q0 q1 q2 q3 f0 f1
   have HMW : Hid (Mod (fun _ => False) w wc) := Lib.hid (HM6.out.trans hmc)
   have hne : ¬ b = w.heap.size + 1 := fun e => by
     rw [e, hf] at hb
     injection hb with hb
     injection hb with _ hb _
     exact absurd hb (by decide)
   clear hb hmc hf k0 HM
   go_wp2
   go_loop [39] (fun i => ∃ k : Nat, i = .int .i64 (k : Int) ∧ k ≤ 4 ∧ (0 < k → ¬ 0 ≤ z1) ∧ (1 < k → ¬ 0 ≤ z2) ∧ (2 < k → ¬ 0 ≤ z3) ∧ (3 < k → ¬ 0 ≤ z4)) (fun i => 4 - (intOf i).toNat)
   case atStart => exact ⟨0, rfl, by omega, by omega, by omega, by omega, by omega⟩
   case round =>
     obtain ⟨k, rfl, hk, n1, n2, n3, n4⟩ := hrel
     have HN : Hid ((0 < k → ¬ 0 ≤ z1) ∧ (1 < k → ¬ 0 ≤ z2) ∧ (2 < k → ¬ 0 ≤ z3) ∧ (3 < k → ¬ 0 ≤ z4)) := Lib.hid ⟨n1, n2, n3, n4⟩
     clear n1 n2 n3 n4
     have hkk : k = 0 ∨ k = 1 ∨ k = 2 ∨ k = 3 ∨ k = 4 := by omega
     rcases hkk with rfl | rfl | rfl | rfl | rfl
     · by_cases hz : 0 ≤ z1
       · obtain ⟨i, hi, hzi⟩ := placeZ_pos (o := firstI l.length (ansBad (l.map Cm.x))) (by rw [← HZ1.out]; exact hz)
         have HR : Hid (verdict (l.map Cm.x) (rs.map Cm.x) = some (1, i)) := Lib.hid (by rw [HVD.out]; rw [hi]; rfl)
         rw [← HZ1.out] at hzi
         clear hi HN HVD HZ1 HZ2 HZ3 HZ4
         subst hzi
         go_wp2
         refine bodyPost_ret (v := .tuple #[.agg #[.int .i64 1, .int .i64 (i : Int)], .bool false, .int .i64 0]) (by simp [results, Tryz.results10, go_sem, f0, f1, zf]) rfl ⟨by rw [HR.out]; rfl, ?_⟩
         repeat (with_reducible (first | exact HMW.out | refine Mod.drew ?_ | refine Mod.alloc ?_ _ | refine Mod.setCell ?_ (fun h => absurd h (by simp)) _))
       · go_wp2
         go_round
         case rel => exact ⟨1, by first | rfl | go_num, by omega, fun _ => hz, by omega, by omega, by omega⟩
         case measure => simp [intOf]
     · by_cases hz : 0 ≤ z2
       · obtain ⟨i, hi, hzi⟩ := placeZ_pos (o := firstI l.length (numBad (l.map Cm.x))) (by rw [← HZ2.out]; exact hz)
         have HR : Hid (verdict (l.map Cm.x) (rs.map Cm.x) = some (2, i)) := Lib.hid (by rw [HVD.out]; rw [placeZ_neg (o := firstI l.length (ansBad (l.map Cm.x))) (by rw [← HZ1.out]; exact HN.out.1 (by omega))]; rw [hi]; rfl)
         rw [← HZ2.out] at hzi
         clear hi HN HVD HZ1 HZ2 HZ3 HZ4
         subst hzi
         go_wp2
         refine bodyPost_ret (v := .tuple #[.agg #[.int .i64 2, .int .i64 (i : Int)], .bool false, .int .i64 0]) (by simp [results, Tryz.results10, go_sem, f0, f1, zf]) rfl ⟨by rw [HR.out]; rfl, ?_⟩
         repeat (with_reducible (first | exact HMW.out | refine Mod.drew ?_ | refine Mod.alloc ?_ _ | refine Mod.setCell ?_ (fun h => absurd h (by simp)) _))
       · go_wp2
         go_round
         case rel => exact ⟨2, by first | rfl | go_num, by omega, fun _ => HN.out.1 (by omega), fun _ => hz, by omega, by omega⟩
         case measure => simp [intOf]
     · by_cases hz : 0 ≤ z3
       · obtain ⟨i, hi, hzi⟩ := placeZ_pos (o := firstR (repA (l.map Cm.x)) (rs.map Cm.x)) (by rw [← HZ3.out]; exact hz)
         have HR : Hid (verdict (l.map Cm.x) (rs.map Cm.x) = some (3, i)) := Lib.hid (by rw [HVD.out]; rw [placeZ_neg (o := firstI l.length (ansBad (l.map Cm.x))) (by rw [← HZ1.out]; exact HN.out.1 (by omega))]; rw [placeZ_neg (o := firstI l.length (numBad (l.map Cm.x))) (by rw [← HZ2.out]; exact HN.out.2.1 (by omega))]; rw [hi]; rfl)
         rw [← HZ3.out] at hzi
         clear hi HN HVD HZ1 HZ2 HZ3 HZ4
         subst hzi
         go_wp2
         refine bodyPost_ret (v := .tuple #[.agg #[.int .i64 3, .int .i64 (i : Int)], .bool false, .int .i64 0]) (by simp [results, Tryz.results10, go_sem, f0, f1, zf]) rfl ⟨by rw [HR.out]; rfl, ?_⟩
         repeat (with_reducible (first | exact HMW.out | refine Mod.drew ?_ | refine Mod.alloc ?_ _ | refine Mod.setCell ?_ (fun h => absurd h (by simp)) _))
       · go_wp2
         go_round
         case rel => exact ⟨3, by first | rfl | go_num, by omega, fun _ => HN.out.1 (by omega), fun _ => HN.out.2.1 (by omega), fun _ => hz, by omega⟩
         case measure => simp [intOf]
     · by_cases hz : 0 ≤ z4
       · obtain ⟨i, hi, hzi⟩ := placeZ_pos (o := firstR (repB (l.map Cm.x)) (rs.map Cm.x)) (by rw [← HZ4.out]; exact hz)
         have HR : Hid (verdict (l.map Cm.x) (rs.map Cm.x) = some (4, i)) := Lib.hid (by rw [HVD.out]; rw [placeZ_neg (o := firstI l.length (ansBad (l.map Cm.x))) (by rw [← HZ1.out]; exact HN.out.1 (by omega))]; rw [placeZ_neg (o := firstI l.length (numBad (l.map Cm.x))) (by rw [← HZ2.out]; exact HN.out.2.1 (by omega))]; rw [placeZ_neg (o := firstR (repA (l.map Cm.x)) (rs.map Cm.x)) (by rw [← HZ3.out]; exact HN.out.2.2.1 (by omega))]; rw [hi]; rfl)
         rw [← HZ4.out] at hzi
         clear hi HN HVD HZ1 HZ2 HZ3 HZ4
         subst hzi
         go_wp2
         refine bodyPost_ret (v := .tuple #[.agg #[.int .i64 4, .int .i64 (i : Int)], .bool false, .int .i64 0]) (by simp [results, Tryz.results10, go_sem, f0, f1, zf]) rfl ⟨by rw [HR.out]; rfl, ?_⟩
         repeat (with_reducible (first | exact HMW.out | refine Mod.drew ?_ | refine Mod.alloc ?_ _ | refine Mod.setCell ?_ (fun h => absurd h (by simp)) _))
       · go_wp2
         go_round
         case rel => exact ⟨4, by first | rfl | go_num, by omega, fun _ => HN.out.1 (by omega), fun _ => HN.out.2.1 (by omega), fun _ => HN.out.2.2.1 (by omega), fun _ => hz⟩
         case measure => simp [intOf]
     · have HR : Hid (verdict (l.map Cm.x) (rs.map Cm.x) = none) := Lib.hid (by rw [HVD.out]; rw [placeZ_neg (o := firstI l.length (ansBad (l.map Cm.x))) (by rw [← HZ1.out]; exact HN.out.1 (by omega))]; rw [placeZ_neg (o := firstI l.length (numBad (l.map Cm.x))) (by rw [← HZ2.out]; exact HN.out.2.1 (by omega))]; rw [placeZ_neg (o := firstR (repA (l.map Cm.x)) (rs.map Cm.x)) (by rw [← HZ3.out]; exact HN.out.2.2.1 (by omega))]; rw [placeZ_neg (o := firstR (repB (l.map Cm.x)) (rs.map Cm.x)) (by rw [← HZ4.out]; exact HN.out.2.2.2 (by omega))]; rfl)
       clear HN HVD HZ1 HZ2 HZ3 HZ4
       go_wp2
       refine bodyPost_ret (v := .tuple #[.agg #[.int .i64 0, .int .i64 0], .bool true, .int .i64 0]) (by simp [results, Tryz.results10, go_sem, f0, f1, zf]) rfl ⟨by rw [HR.out]; rfl, ?_⟩
       repeat (with_reducible (first | exact HMW.out | refine Mod.drew ?_ | refine Mod.alloc ?_ _ | refine Mod.setCell ?_ (fun h => absurd h (by simp)) _))
open Go.RowKit
theorem lit_ops (cs : Array Value) (l : List Opr) (w : World) (hc : cs.toList = ocells l) (hs : cs.size = l.length * 7) (h1 : l.length ≤ maxLen) (hf : ∀ o ∈ l, o.Fits) : ORd (w.alloc (.cells cs 79)) (.slice (some ⟨w.heap.size, 0, none⟩) l.length l.length) l := by
 have h := Seg.lit (e := 79) (size := 7) w cs l.length hs h1 (by rw [hc]; exact ocells_ones l)
 rw [hc] at h
 exact ⟨h.rdS, hf⟩
end Go.Proofs.YtpigipgoopeeoaaGreatDoor
