import Derived.Test.YtpigipgoopeeoaaGreatDoorMCVer06
set_option linter.unusedVariables false
set_option linter.unusedSimpArgs false
namespace Go.Proofs.YtpigipgoopeeoaaGreatDoor
open Go.RowKit Go.Maps
theorem pick4_pos {a b c d : Option Nat} {k i : Nat} (h : pick4 a b c d = some (k, i)) : k ≠ 0 := by
 unfold pick4 at h
 split at h
 · injection h with h; injection h with h _; omega
 · split at h
   · injection h with h; injection h with h _; omega
   · split at h
     · injection h with h; injection h with h _; omega
     · split at h
       · injection h with h; injection h with h _; omega
       · cases h
theorem verd_cases (c r : List Cx) : (verdict c r = none ∧ verdV (verdict c r) = .tuple #[.agg #[.int .i64 0, .int .i64 0], .bool true, .int .i64 0] ∧ refV (verdict c r) = .tuple #[.int .i64 0, .int .i64 0]) ∨ ∃ k i : Nat, k ≠ 0 ∧ verdict c r = some (k, i) ∧ verdV (verdict c r) = .tuple #[.agg #[.int .i64 (k : Int), .int .i64 (i : Int)], .bool false, .int .i64 0] ∧ refV (verdict c r) = .tuple #[.int .i64 (k : Int), .int .i64 (i : Int)] := by
 cases h : verdict c r with
 | none => exact .inl ⟨rfl, rfl, rfl⟩
 | some p =>
   obtain ⟨k, i⟩ := p
   exact .inr ⟨k, i, pick4_pos h, rfl, rfl, rfl⟩
set_option maxRecDepth 100000 in
set_option maxHeartbeats 16000000 in
theorem cverifies_main (v u : Value) (l rs : List Cm) (w : World) (hv : CRd Cm.c11 11 w v l) (hu : CRd Cm.c13 13 w u rs) (hs : ∀ c ∈ l, c.Small) (hs' : ∀ c ∈ rs, c.Small) (hl : l.length ≤ 9223372036854775807) (hg : ErrT w) :
   Calls Tryz.prog 5 #[v, u] w fun e w' => e = .returned (.bool true) ∧ Mod (fun _ => False) w w' := by
 obtain ⟨X, hX⟩ : ∃ X, X = (l.take 60).map (fun x => cutX x.x) := ⟨_, rfl⟩
 obtain ⟨R, hR⟩ : ∃ R, R = (rs.take 60).map Cm.x := ⟨_, rfl⟩
 have HAW := Lib.hid (cawake_any w hg)
 have HXL : Hid (X.length ≤ 60) := Lib.hid (by rw [hX, List.length_map, List.length_take]; omega)
 have HRL : Hid (R.length ≤ 60) := Lib.hid (by rw [hR, List.length_map, List.length_take]; omega)
 have HCUT : Hid (∀ w', Mod (fun _ => False) w w' → Calls Tryz.prog 13 #[v, u] w' fun e w'' => ∃ a c ms a' n' c' rs', e = .returned (.tuple #[.slice a ms.length c, .slice a' n' c']) ∧ Mod (fun _ => False) w' w'' ∧ CRd Cm.c11 11 w'' (.slice a ms.length c) ms ∧ ms.map Cm.x = X ∧ (∀ c ∈ ms, c.Small) ∧ CRd Cm.c13 13 w'' (.slice a' n' c') rs' ∧ rs'.map Cm.x = R ∧ ∀ c ∈ rs', c.Small) := Lib.hid (fun w' m => (cut_any v u l rs w' (hv.keep m) (hu.keep m) hs hl).mono (by
   rintro e w'' ⟨a, n, c, ms, a', n', c', rfl, h1, h2, h3, h4⟩
   obtain ⟨_, _, e, _⟩ := h1.row.rdS.shape
   injection e with _ e _
   subst e
   exact ⟨a, c, ms, a', n', c', _, rfl, h1.mod, h1.crd, by rw [h2, hX], h3, h4, hR.symm, fun c hc => hs' c (List.mem_of_mem_take hc)⟩))
 have HCOM : Hid (∀ v ms w', CRd Cm.c11 11 w' v ms → (∀ c ∈ ms, c.Small) → ms.map Cm.x = X → Calls Tryz.prog 11 #[v] w' fun e w'' => ∃ a c ms', e = .returned (.slice a ms'.length c) ∧ Mod (fun _ => False) w' w'' ∧ CRd Cm.c14 14 w'' (.slice a ms'.length c) ms' ∧ ms'.map Cm.x = X) := Lib.hid (fun v ms w' h1 h2 h3 => (commits_any v ms w' h1 h2 (by have := congrArg List.length h3; rw [List.length_map] at this; have := HXL.out; omega)).mono (by
   rintro e w'' ⟨u, ms', rfl, h4, h5⟩
   obtain ⟨a, c, rfl, -⟩ := h4.row.rdS.shape
   exact ⟨a, c, ms', rfl, h4.mod, h4.crd, by rw [h5, h3]⟩))
 have HREP : Hid (∀ v ms w', CRd Cm.c13 13 w' v ms → (∀ c ∈ ms, c.Small) → ms.map Cm.x = R → Calls Tryz.prog 12 #[v] w' fun e w'' => ∃ a c ms', e = .returned (.slice a ms'.length c) ∧ Mod (fun _ => False) w' w'' ∧ CRd Cm.c13 13 w'' (.slice a ms'.length c) ms' ∧ ms'.map Cm.x = R) := Lib.hid (fun v ms w' h1 h2 h3 => (replies_any v ms w' h1 h2 (by have := congrArg List.length h3; rw [List.length_map] at this; have := HRL.out; omega)).mono (by
   rintro e w'' ⟨u, ms', rfl, h4, h5⟩
   obtain ⟨a, c, rfl, -⟩ := h4.row.rdS.shape
   exact ⟨a, c, ms', rfl, h4.mod, h4.crd, by rw [h5, h3]⟩))
 have HFIN : Hid (∀ v ms w', Mod (fun _ => False) w w' → CRd Cm.c14 14 w' v ms → ms.map Cm.x = X → Calls Tryz.prog 15 #[v] w' fun e w'' => ∃ a n c bl, e = .returned (.tuple #[.slice a n c, .int .i64 0]) ∧ LRd w'' (.slice a n c) bl ∧ bl.map Vs.x = finalG X ∧ Mod (fun _ => False) w' w'') := Lib.hid (fun v ms w' m h1 h2 => by
   have h := cfinal_any v ms w' h1 (by have := congrArg List.length h2; rw [List.length_map] at this; have := HXL.out; omega) (hg.keep m (fun f => f))
   rwa [h2] at h)
 have HRFI : Hid (∀ v ms w', CRd Cm.c11 11 w' v ms → ms.map Cm.x = X → Calls Tryz.prog 17 #[v] w' fun e w'' => ∃ gv l, e = .returned (.pointer (some ⟨w'.heap.size, 0, none⟩)) ∧ Mod (fun _ => False) w' w'' ∧ w''.heap[w'.heap.size]? = some (.cells #[gv] 28 (0, 0)) ∧ LRd w'' gv l ∧ l.map Vs.x = finalG X) := Lib.hid (fun v ms w' h1 h2 => (rfinal_any v ms w' h1).mono (by
   rintro e w'' ⟨rfl, hst⟩
   rw [h2] at hst
   obtain ⟨gv, l, h3, h4⟩ := hst.rf
   exact ⟨gv, l, rfl, hst.mod, h3.box, h3.lst, h4⟩))
 have HSAM : Hid (∀ (y x : Cm) w', y.Rd w' → x.Rd w' → y.x = x.x → Calls Tryz.prog 18 #[rqV y.x.r y.vo, rqV x.x.r x.vo] w' fun e w'' => e = .returned (.bool true) ∧ Mod (fun _ => False) w' w'') := Lib.hid (fun y x w' hy hx h => by
   have h1 := reqsame_any y.x.r x.x.r y.vo x.vo w' hy.ops hx.ops
   rwa [show decide (y.x.r = x.x.r) = true by rw [h]; simp] at h1)
 have HSAN : Hid (∀ (y x : Cm) w', y.Rd w' → x.Rd w' → y.x = x.x → Calls Tryz.prog 19 #[.agg #[.int .i64 y.x.e, .int .i64 y.x.p, y.vv, y.vl], .agg #[.int .i64 x.x.e, .int .i64 x.x.p, x.vv, x.vl]] w' fun e w'' => e = .returned (.bool true) ∧ Mod (fun _ => False) w' w'') := Lib.hid (fun y x w' hy hx h => by
   have h1 := anssame_any y.x.e y.x.p x.x.e x.x.p y.x.vals x.x.vals y.x.list x.x.list y.vv y.vl x.vv x.vl w' hy.vals hx.vals hy.list hx.list
   rwa [show decide (y.x.e = x.x.e ∧ y.x.p = x.x.p ∧ y.x.vals = x.x.vals ∧ y.x.list = x.x.list) = true by rw [h]; simp] at h1)
 have HVER0 : Hid (∀ v u ms rs w', Mod (fun _ => False) w w' → CRd Cm.c14 14 w' v ms → CRd Cm.c13 13 w' u rs → ms.map Cm.x = X → rs.map Cm.x = R → Calls Tryz.prog 10 #[v, u] w' fun e w'' => e = .returned (verdV (verdict X R)) ∧ Mod (fun _ => False) w' w'') := Lib.hid (fun v u ms rs w' m h1 h2 h3 h4 => by
   have h := cverify_any v u ms rs w' h1 h2 (by have := congrArg List.length h3; rw [List.length_map] at this; have := HXL.out; omega) (by have := congrArg List.length h4; rw [List.length_map] at this; have := HRL.out; omega) (hg.keep m (fun f => f))
   rwa [h3, h4] at h)
 have HRVE0 : Hid (∀ v u ms rs w', CRd Cm.c11 11 w' v ms → CRd Cm.c13 13 w' u rs → ms.map Cm.x = X → rs.map Cm.x = R → Calls Tryz.prog 14 #[v, u] w' fun e w'' => e = .returned (refV (verdict X R)) ∧ Mod (fun _ => False) w' w'') := Lib.hid (fun v u ms rs w' h1 h2 h3 h4 => by
   have h := rverify_any v u ms rs w' h1 h2
   rwa [h3, h4] at h)
 obtain ⟨k, i, ok, hk, hVV, hRV⟩ : ∃ (k i : Nat) (ok : Bool), (ok = true ∧ k = 0 ∨ ok = false ∧ k ≠ 0) ∧ verdV (verdict X R) = .tuple #[.agg #[.int .i64 (k : Int), .int .i64 (i : Int)], .bool ok, .int .i64 0] ∧ refV (verdict X R) = .tuple #[.int .i64 (k : Int), .int .i64 (i : Int)] := by
   rcases verd_cases X R with ⟨_, h1, h2⟩ | ⟨k, i, hk, _, h1, h2⟩
   · exact ⟨0, 0, true, .inl ⟨rfl, rfl⟩, h1, h2⟩
   · exact ⟨k, i, false, .inr ⟨rfl, hk⟩, h1, h2⟩
 rw [hVV] at HVER0
 rw [hRV] at HRVE0
 obtain ⟨av_, cv_, hva, hvc1, hvc2, -⟩ := hv.row.shape
 obtain ⟨au_, cu_, hua, huc1, huc2, -⟩ := hu.row.shape
 subst hva hua
 obtain ⟨m0, hm0⟩ : ∃ m, m = l.length := ⟨_, rfl⟩
 obtain ⟨m1, hm1⟩ : ∃ m, m = rs.length := ⟨_, rfl⟩
 simp only [← hm0, ← hm1] at HCUT ⊢
 clear hv hu hs hs' hl hg hX hR hVV hRV hvc1 hvc2 huc1 huc2 hm0 hm1
 rcases hk with ⟨rfl, rfl⟩ | ⟨rfl, hk⟩
 · rw [show ((0 : Nat) : Int) = 0 from rfl] at HVER0 HRVE0
   go_enter Tryz.func5, Tryz.ntmps5
   go_wp2_with (first
     | (have hq := HRF.out; go_at_call 16; go_loud (refine (samelist_any _ _ _ _ _ (HFI.out.1.keep HRF.out.1) HRF.out.2.1 (by rw [HFI.out.2, HRF.out.2.2])).mono ?_; (rintro e w10 ⟨rfl, hm10⟩); have HM10 := Lib.hid (HMF.out.trans (HRF.out.1.trans hm10)); have HMC2 : Hid (Mod (fun _ => False) w2 w10) := Lib.hid (HMC.out.trans (HRF.out.1.trans hm10)); have HMG2 : Hid (Mod (fun _ => False) w3 w10) := Lib.hid (HMG.out.trans (HRF.out.1.trans hm10)); clear hm10 hq))
     | (go_at_call 17; go_loud (refine (HRFI.out _ _ _ (HCR.out.1.keep HMC.out) HCR.out.2.1).mono ?_; (rintro e w9 ⟨gv, lg, rfl, hm9, hb9, hl9, hx9⟩); (obtain ⟨ag, cg, rfl, -⟩ := hl9.row.shape); have y0 := cell_of_row hb9 0; have zy := lt_of_block hb9; simp at y0; have HRF := Lib.hid (And.intro hm9 (And.intro hl9 hx9)); clear hm9 hb9 hl9 hx9))
     | (go_at_call 15; go_loud (refine (HFIN.out _ _ _ (HMA.out.trans HMV.out) (HCO.out.1.keep HMR.out) HCO.out.2).mono ?_; (rintro e w8 ⟨af, nf, cf, bf, rfl, hl8, hx8, hm8⟩); have HFI := Lib.hid (And.intro hl8 hx8); have HMF : Hid (Mod (fun _ => False) w w8) := Lib.hid ((HMA.out.trans HMV.out).trans hm8); have HMC : Hid (Mod (fun _ => False) w2 w8) := Lib.hid (HM2.out.trans (HMV.out.trans hm8)); have HMG : Hid (Mod (fun _ => False) w3 w8) := Lib.hid (HMR.out.trans hm8); have f0 := cell_of_row (hm8.heap HFB.out (fun f => f)) 0; have f1 := cell_of_row (hm8.heap HFB.out (fun f => f)) 1; have zf := lt_of_block (hm8.heap HFB.out (fun f => f)); simp at f0 f1; clear hl8 hx8 hm8))
     | (go_at_call 14; go_loud (refine (HRVE0.out _ _ _ _ _ (HCR.out.1.keep (HM2.out.trans HMV0.out)) (HCR.out.2.2.1.keep (HM2.out.trans HMV0.out)) HCR.out.2.1 HCR.out.2.2.2.1).mono ?_; (rintro e w7 ⟨rfl, hm7⟩); have HMV : Hid (Mod (fun _ => False) w4 w7) := Lib.hid (HMV0.out.trans hm7); have HMR : Hid (Mod (fun _ => False) w3 w7) := Lib.hid (HM34.out.trans (HMV0.out.trans hm7)); have HFB : Hid (w7.heap[w6.heap.size]? = some (.cells #[.int .i64 0, .int .i64 (i : Int)] 46 (0, 0))) := Lib.hid (hm7.heap (heap_alloc_new' w6 _) (fun f => f)); clear hm7))
     | (go_at_call 10; go_loud (refine (HVER0.out _ _ _ _ _ HMA.out (HCO.out.1.keep HM34.out) HRE.out.1 HCO.out.2 HRE.out.2).mono ?_; (rintro e w6 ⟨rfl, hm6⟩); have HMV0 : Hid (Mod (fun _ => False) w4 (w6.alloc (.cells #[.int .i64 0, .int .i64 (i : Int)] 46))) := Lib.hid (hm6.alloc _); clear hm6))
     | (go_at_call 12; go_loud (refine (HREP.out _ _ _ (HCR.out.2.2.1.keep HM23.out) HCR.out.2.2.2.2.2 HCR.out.2.2.2.1).mono ?_; (rintro e w4 ⟨a4, c4, ms4, rfl, hm4, hc4, hx4⟩); have HRE := Lib.hid (And.intro hc4 hx4); have HM34 := Lib.hid hm4; have HM2 : Hid (Mod (fun _ => False) w2 w4) := Lib.hid (HM23.out.trans hm4); have HMA : Hid (Mod (fun _ => False) w w4) := Lib.hid (HMW2.out.trans (HM23.out.trans hm4)); clear hm4 hc4 hx4))
     | (go_at_call 11; go_loud (refine (HCOM.out _ _ _ HCR.out.1 HCR.out.2.2.2.2.1 HCR.out.2.1).mono ?_; (rintro e w3 ⟨a3, c3, ms3, rfl, hm3, hc3, hx3⟩); have HCO := Lib.hid (And.intro hc3 hx3); have HM23 := Lib.hid hm3; clear hm3 hc3 hx3))
     | (go_at_call 13; go_loud (refine (HCUT.out _ HM1.out).mono ?_; (rintro e w2 ⟨a2, c2, ms2, b2, n2, d2, rs2, rfl, hm2, hc2, hx2, hs2, hr2, hy2, ht2⟩); have HMW2 : Hid (Mod (fun _ => False) w w2) := Lib.hid (HM1.out.trans hm2); have HCR := Lib.hid (And.intro hc2 (And.intro hx2 (And.intro hr2 (And.intro hy2 (And.intro hs2 ht2))))); clear hm2 hc2 hx2 hs2 hr2 hy2 ht2))
     | (go_at_call 8; go_loud (refine HAW.out.mono ?_; (rintro e w1 ⟨rfl, hm1⟩); have HM1 := Lib.hid hm1; clear hm1)))
   obtain ⟨n2', hn2⟩ : ∃ n, n = ms2.length := ⟨_, rfl⟩
   obtain ⟨n3', hn3⟩ : ∃ n, n = ms3.length := ⟨_, rfl⟩
   have HNN : Hid (n2' = n3') := Lib.hid (by
     have h := congrArg List.length (HCR.out.2.1.trans HCO.out.2.symm)
     rw [List.length_map, List.length_map] at h
     rw [hn2, hn3]; exact h)
   have HN2 := Lib.hid hn2
   have HN3 := Lib.hid hn3
   have hc23 : n2' ≤ c2 ∧ n3' ≤ c3 := by
     obtain ⟨_, _, e1, h1, _⟩ := HCR.out.1.row.shape
     obtain ⟨_, _, e2, h2, _⟩ := HCO.out.1.row.shape
     injection e1 with _ _ e1
     injection e2 with _ _ e2
     omega
   obtain ⟨hc2a, hc3a⟩ := hc23
   have hh : n2' ≤ n3' := by have := HNN.out; omega
   have hn60 : n2' ≤ 60 := by have h := congrArg List.length HCR.out.2.1; rw [List.length_map] at h; have := HXL.out; omega
   rw [← hn2] at HCR ⊢
   rw [← hn3] at HCO ⊢
   clear hn2 hn3 y0 zy f0 f1 zf
   go_loopw [76] (fun i wr => ∃ j : Nat, i = .int .i64 (j : Int) ∧ j ≤ n2' ∧ Mod (fun _ => False) w10 wr) (fun i _ => n2' - (intOf i).toNat)
   case atStart => exact ⟨0, rfl, Nat.zero_le _, Mod.refl _ _⟩
   case round =>
     obtain ⟨j, rfl, hj, hmj⟩ := hrel
     have HMJ := Lib.hid hmj
     clear hmj
     by_cases hjn : j < n2'
     · obtain ⟨x, hx⟩ : ∃ x, ms2[j]? = some x := ⟨_, List.getElem?_eq_getElem (by rw [← HN2.out]; exact hjn)⟩
       obtain ⟨y, hy⟩ : ∃ y, ms3[j]? = some y := ⟨_, List.getElem?_eq_getElem (by rw [← HN3.out]; omega)⟩
       have hxy : y.x = x.x := by
         have h := congrArg (fun q => q[j]?) (HCR.out.2.1.trans HCO.out.2.symm)
         simp only [List.getElem?_map, hx, hy, Option.map_some] at h
         injection h with h
         exact h.symm
       have hj3 : j < n3' := by omega
       obtain ⟨b, off, e1, hb, hcs⟩ := CRd.ent (cells := Cm.c11) (size := 11) (fun _ => rfl) (by decide) HCR.out.1 hx rfl
       obtain ⟨b3, off3, e3, hb3, hcs3⟩ := CRd.ent (cells := Cm.c14) (size := 14) (fun _ => rfl) (by decide) HCO.out.1 hy rfl
       subst e1 e3
       have hrx := (HCR.out.1.at hx).keep HMC2.out
       have hry := (HCO.out.1.at hy).keep HMG2.out
       have HAQ : Hid (∀ x' : MW wr, Calls Tryz.prog 18 #[rqV y.x.r y.vo, rqV x.x.r x.vo] x'.w fun e w'' => e = .returned (.bool true) ∧ ∃ x'' : MW wr, w'' = x''.w) := Lib.hid (fun x' => Calls.quietM (HSAM.out y x x'.w (hry.keep (HMJ.out.trans x'.mod)) (hrx.keep (HMJ.out.trans x'.mod)) hxy))
       have HSQ : Hid (∀ x' : MW wr, Calls Tryz.prog 19 #[.agg #[.int .i64 y.x.e, .int .i64 y.x.p, y.vv, y.vl], .agg #[.int .i64 x.x.e, .int .i64 x.x.p, x.vv, x.vl]] x'.w fun e w'' => e = .returned (.bool true) ∧ ∃ x'' : MW wr, w'' = x''.w) := Lib.hid (fun x' => Calls.quietM (HSAN.out y x x'.w (hry.keep (HMJ.out.trans x'.mod)) (hrx.keep (HMJ.out.trans x'.mod)) hxy))
       obtain ⟨ao, co, hvo⟩ := hrx.vo_eq
       obtain ⟨av, cv, hvv⟩ := hrx.vv_eq
       obtain ⟨al, cl, hvl⟩ := hrx.vl_eq
       obtain ⟨yo, yoc, gvo⟩ := hry.vo_eq
       obtain ⟨yv, yvc, gvv⟩ := hry.vv_eq
       obtain ⟨yl, ylc, gvl⟩ := hry.vl_eq
       clear hx hy hxy hrx hry
       obtain ⟨⟨xc, xq, ⟨kind, ops, rv, rk, rd⟩, ae, ap, vals, list, fr, to_⟩, vo, vv, vl⟩ := x
       obtain ⟨⟨yc, yq, ⟨ykind, yops, yrv, yrk, yrd⟩, ye, yp, yvals, ylist, yfr, yto⟩, yvo, yvv, yvl⟩ := y
       simp only at hvo hvv hvl gvo gvv gvl
       subst hvo hvv hvl gvo gvv gvl
       obtain ⟨no, hno⟩ : ∃ n, n = ops.length := ⟨_, rfl⟩
       obtain ⟨nv, hnv⟩ : ∃ n, n = vals.length := ⟨_, rfl⟩
       obtain ⟨nl, hnl⟩ : ∃ n, n = list.length := ⟨_, rfl⟩
       obtain ⟨yno, hyno⟩ : ∃ n, n = yops.length := ⟨_, rfl⟩
       obtain ⟨ynv, hynv⟩ : ∃ n, n = yvals.length := ⟨_, rfl⟩
       obtain ⟨ynl, hynl⟩ : ∃ n, n = ylist.length := ⟨_, rfl⟩
       simp only [Cm.c11, Cm.c14, rqV, ← hno, ← hnv, ← hnl, ← hyno, ← hynv, ← hynl] at HAQ HSQ hcs hcs3
       have q2 := hcs 2 (by omega)
       have q3 := hcs 3 (by omega)
       have q4 := hcs 4 (by omega)
       have q5 := hcs 5 (by omega)
       have q6 := hcs 6 (by omega)
       have q7 := hcs 7 (by omega)
       have q8 := hcs 8 (by omega)
       have q9 := hcs 9 (by omega)
       have q10 := hcs 10 (by omega)
       have p5 := hcs3 5 (by omega)
       have p6 := hcs3 6 (by omega)
       have p7 := hcs3 7 (by omega)
       have p8 := hcs3 8 (by omega)
       have p9 := hcs3 9 (by omega)
       have p10 := hcs3 10 (by omega)
       have p11 := hcs3 11 (by omega)
       have p12 := hcs3 12 (by omega)
       have p13 := hcs3 13 (by omega)
       simp only [List.getElem?_cons_succ, List.getElem?_cons_zero, ← Nat.add_assoc] at q2 q3 q4 q5 q6 q7 q8 q9 q10 p5 p6 p7 p8 p9 p10 p11 p12 p13
       have q2 : ∀ x : MW wr, x.w.cell? _ = some _ := fun x => x.cell ((HMC2.out.trans HMJ.out).cell q2)
       have q3 : ∀ x : MW wr, x.w.cell? _ = some _ := fun x => x.cell ((HMC2.out.trans HMJ.out).cell q3)
       have q4 : ∀ x : MW wr, x.w.cell? _ = some _ := fun x => x.cell ((HMC2.out.trans HMJ.out).cell q4)
       have q5 : ∀ x : MW wr, x.w.cell? _ = some _ := fun x => x.cell ((HMC2.out.trans HMJ.out).cell q5)
       have q6 : ∀ x : MW wr, x.w.cell? _ = some _ := fun x => x.cell ((HMC2.out.trans HMJ.out).cell q6)
       have q7 : ∀ x : MW wr, x.w.cell? _ = some _ := fun x => x.cell ((HMC2.out.trans HMJ.out).cell q7)
       have q8 : ∀ x : MW wr, x.w.cell? _ = some _ := fun x => x.cell ((HMC2.out.trans HMJ.out).cell q8)
       have q9 : ∀ x : MW wr, x.w.cell? _ = some _ := fun x => x.cell ((HMC2.out.trans HMJ.out).cell q9)
       have q10 : ∀ x : MW wr, x.w.cell? _ = some _ := fun x => x.cell ((HMC2.out.trans HMJ.out).cell q10)
       have p5 : ∀ x : MW wr, x.w.cell? _ = some _ := fun x => x.cell ((HMG2.out.trans HMJ.out).cell p5)
       have p6 : ∀ x : MW wr, x.w.cell? _ = some _ := fun x => x.cell ((HMG2.out.trans HMJ.out).cell p6)
       have p7 : ∀ x : MW wr, x.w.cell? _ = some _ := fun x => x.cell ((HMG2.out.trans HMJ.out).cell p7)
       have p8 : ∀ x : MW wr, x.w.cell? _ = some _ := fun x => x.cell ((HMG2.out.trans HMJ.out).cell p8)
       have p9 : ∀ x : MW wr, x.w.cell? _ = some _ := fun x => x.cell ((HMG2.out.trans HMJ.out).cell p9)
       have p10 : ∀ x : MW wr, x.w.cell? _ = some _ := fun x => x.cell ((HMG2.out.trans HMJ.out).cell p10)
       have p11 : ∀ x : MW wr, x.w.cell? _ = some _ := fun x => x.cell ((HMG2.out.trans HMJ.out).cell p11)
       have p12 : ∀ x : MW wr, x.w.cell? _ = some _ := fun x => x.cell ((HMG2.out.trans HMJ.out).cell p12)
       have p13 : ∀ x : MW wr, x.w.cell? _ = some _ := fun x => x.cell ((HMG2.out.trans HMJ.out).cell p13)
       have zb := Nat.lt_of_lt_of_le hb (HMC2.out.trans HMJ.out).size
       have zb3 := Nat.lt_of_lt_of_le hb3 (HMG2.out.trans HMJ.out).size
       clear hcs hcs3 hb hb3 hno hnv hnl hyno hynv hynl
       go_wp2_with fail
       refine wp_region_quietM (by kernel_rfl) (by kernel_rfl) ?_
       repeat (go_big_quiet_step (first | (go_at_call 19; exact HSQ.out _) | (go_at_call 18; exact HAQ.out _)))
       refine wpQuiet_nil ?_
       intro wz hmz
       have MZ : Hid (Mod (fun _ => False) w10 wz) := Lib.hid (HMJ.out.trans (MW.mod_of hmz))
       clear hmz q2 q3 q4 q5 q6 q7 q8 q9 q10 p5 p6 p7 p8 p9 p10 p11 p12 p13
       go_wp2
       go_roundw
       case rel => exact ⟨j + 1, by go_num, by omega, MZ.out⟩
       case measure => simp [intOf]; omega
     · go_wp2
       go_ret
       exact ⟨rfl, HM10.out.trans HMJ.out⟩
 · have hk0 : ((k : Int) == 0) = false := by simp; omega
   have hk1 : ¬ (k : Int) = 0 := by omega
   go_enter Tryz.func5, Tryz.ntmps5
   go_wp2_with (first
     | (have hq := HRF.out; go_at_call 16; go_loud (refine (samelist_any _ _ _ _ _ (HFI.out.1.keep HRF.out.1) HRF.out.2.1 (by rw [HFI.out.2, HRF.out.2.2])).mono ?_; (rintro e w10 ⟨rfl, hm10⟩); have HM10 := Lib.hid (HMF.out.trans (HRF.out.1.trans hm10)); have HMC2 : Hid (Mod (fun _ => False) w2 w10) := Lib.hid (HMC.out.trans (HRF.out.1.trans hm10)); have HMG2 : Hid (Mod (fun _ => False) w3 w10) := Lib.hid (HMG.out.trans (HRF.out.1.trans hm10)); clear hm10 hq))
     | (go_at_call 17; go_loud (refine (HRFI.out _ _ _ (HCR.out.1.keep HMC.out) HCR.out.2.1).mono ?_; (rintro e w9 ⟨gv, lg, rfl, hm9, hb9, hl9, hx9⟩); (obtain ⟨ag, cg, rfl, -⟩ := hl9.row.shape); have y0 := cell_of_row hb9 0; have zy := lt_of_block hb9; simp at y0; have HRF := Lib.hid (And.intro hm9 (And.intro hl9 hx9)); clear hm9 hb9 hl9 hx9))
     | (go_at_call 15; go_loud (refine (HFIN.out _ _ _ (HMA.out.trans HMV.out) (HCO.out.1.keep HMR.out) HCO.out.2).mono ?_; (rintro e w8 ⟨af, nf, cf, bf, rfl, hl8, hx8, hm8⟩); have HFI := Lib.hid (And.intro hl8 hx8); have HMF : Hid (Mod (fun _ => False) w w8) := Lib.hid ((HMA.out.trans HMV.out).trans hm8); have HMC : Hid (Mod (fun _ => False) w2 w8) := Lib.hid (HM2.out.trans (HMV.out.trans hm8)); have HMG : Hid (Mod (fun _ => False) w3 w8) := Lib.hid (HMR.out.trans hm8); have f0 := cell_of_row (hm8.heap HFB.out (fun f => f)) 0; have f1 := cell_of_row (hm8.heap HFB.out (fun f => f)) 1; have zf := lt_of_block (hm8.heap HFB.out (fun f => f)); simp at f0 f1; clear hl8 hx8 hm8))
     | (go_at_call 14; go_loud (refine (HRVE0.out _ _ _ _ _ (HCR.out.1.keep (HM2.out.trans HMV0.out)) (HCR.out.2.2.1.keep (HM2.out.trans HMV0.out)) HCR.out.2.1 HCR.out.2.2.2.1).mono ?_; (rintro e w7 ⟨rfl, hm7⟩); have HMV : Hid (Mod (fun _ => False) w4 w7) := Lib.hid (HMV0.out.trans hm7); have HMR : Hid (Mod (fun _ => False) w3 w7) := Lib.hid (HM34.out.trans (HMV0.out.trans hm7)); have HFB : Hid (w7.heap[w6.heap.size]? = some (.cells #[.int .i64 (k : Int), .int .i64 (i : Int)] 46 (0, 0))) := Lib.hid (hm7.heap (heap_alloc_new' w6 _) (fun f => f)); clear hm7))
     | (go_at_call 10; go_loud (refine (HVER0.out _ _ _ _ _ HMA.out (HCO.out.1.keep HM34.out) HRE.out.1 HCO.out.2 HRE.out.2).mono ?_; (rintro e w6 ⟨rfl, hm6⟩); have HMV0 : Hid (Mod (fun _ => False) w4 (w6.alloc (.cells #[.int .i64 (k : Int), .int .i64 (i : Int)] 46))) := Lib.hid (hm6.alloc _); clear hm6))
     | (go_at_call 12; go_loud (refine (HREP.out _ _ _ (HCR.out.2.2.1.keep HM23.out) HCR.out.2.2.2.2.2 HCR.out.2.2.2.1).mono ?_; (rintro e w4 ⟨a4, c4, ms4, rfl, hm4, hc4, hx4⟩); have HRE := Lib.hid (And.intro hc4 hx4); have HM34 := Lib.hid hm4; have HM2 : Hid (Mod (fun _ => False) w2 w4) := Lib.hid (HM23.out.trans hm4); have HMA : Hid (Mod (fun _ => False) w w4) := Lib.hid (HMW2.out.trans (HM23.out.trans hm4)); clear hm4 hc4 hx4))
     | (go_at_call 11; go_loud (refine (HCOM.out _ _ _ HCR.out.1 HCR.out.2.2.2.2.1 HCR.out.2.1).mono ?_; (rintro e w3 ⟨a3, c3, ms3, rfl, hm3, hc3, hx3⟩); have HCO := Lib.hid (And.intro hc3 hx3); have HM23 := Lib.hid hm3; clear hm3 hc3 hx3))
     | (go_at_call 13; go_loud (refine (HCUT.out _ HM1.out).mono ?_; (rintro e w2 ⟨a2, c2, ms2, b2, n2, d2, rs2, rfl, hm2, hc2, hx2, hs2, hr2, hy2, ht2⟩); have HMW2 : Hid (Mod (fun _ => False) w w2) := Lib.hid (HM1.out.trans hm2); have HCR := Lib.hid (And.intro hc2 (And.intro hx2 (And.intro hr2 (And.intro hy2 (And.intro hs2 ht2))))); clear hm2 hc2 hx2 hs2 hr2 hy2 ht2))
     | (go_at_call 8; go_loud (refine HAW.out.mono ?_; (rintro e w1 ⟨rfl, hm1⟩); have HM1 := Lib.hid hm1; clear hm1)))
   obtain ⟨n2', hn2⟩ : ∃ n, n = ms2.length := ⟨_, rfl⟩
   obtain ⟨n3', hn3⟩ : ∃ n, n = ms3.length := ⟨_, rfl⟩
   have HNN : Hid (n2' = n3') := Lib.hid (by
     have h := congrArg List.length (HCR.out.2.1.trans HCO.out.2.symm)
     rw [List.length_map, List.length_map] at h
     rw [hn2, hn3]; exact h)
   have HN2 := Lib.hid hn2
   have HN3 := Lib.hid hn3
   have hc23 : n2' ≤ c2 ∧ n3' ≤ c3 := by
     obtain ⟨_, _, e1, h1, _⟩ := HCR.out.1.row.shape
     obtain ⟨_, _, e2, h2, _⟩ := HCO.out.1.row.shape
     injection e1 with _ _ e1
     injection e2 with _ _ e2
     omega
   obtain ⟨hc2a, hc3a⟩ := hc23
   have hh : n2' ≤ n3' := by have := HNN.out; omega
   have hn60 : n2' ≤ 60 := by have h := congrArg List.length HCR.out.2.1; rw [List.length_map] at h; have := HXL.out; omega
   rw [← hn2] at HCR ⊢
   rw [← hn3] at HCO ⊢
   clear hn2 hn3 y0 zy f0 f1 zf
   go_loopw [76] (fun i wr => ∃ j : Nat, i = .int .i64 (j : Int) ∧ j ≤ n2' ∧ Mod (fun _ => False) w10 wr) (fun i _ => n2' - (intOf i).toNat)
   case atStart => exact ⟨0, rfl, Nat.zero_le _, Mod.refl _ _⟩
   case round =>
     obtain ⟨j, rfl, hj, hmj⟩ := hrel
     have HMJ := Lib.hid hmj
     clear hmj
     by_cases hjn : j < n2'
     · obtain ⟨x, hx⟩ : ∃ x, ms2[j]? = some x := ⟨_, List.getElem?_eq_getElem (by rw [← HN2.out]; exact hjn)⟩
       obtain ⟨y, hy⟩ : ∃ y, ms3[j]? = some y := ⟨_, List.getElem?_eq_getElem (by rw [← HN3.out]; omega)⟩
       have hxy : y.x = x.x := by
         have h := congrArg (fun q => q[j]?) (HCR.out.2.1.trans HCO.out.2.symm)
         simp only [List.getElem?_map, hx, hy, Option.map_some] at h
         injection h with h
         exact h.symm
       have hj3 : j < n3' := by omega
       obtain ⟨b, off, e1, hb, hcs⟩ := CRd.ent (cells := Cm.c11) (size := 11) (fun _ => rfl) (by decide) HCR.out.1 hx rfl
       obtain ⟨b3, off3, e3, hb3, hcs3⟩ := CRd.ent (cells := Cm.c14) (size := 14) (fun _ => rfl) (by decide) HCO.out.1 hy rfl
       subst e1 e3
       have hrx := (HCR.out.1.at hx).keep HMC2.out
       have hry := (HCO.out.1.at hy).keep HMG2.out
       have HAQ : Hid (∀ x' : MW wr, Calls Tryz.prog 18 #[rqV y.x.r y.vo, rqV x.x.r x.vo] x'.w fun e w'' => e = .returned (.bool true) ∧ ∃ x'' : MW wr, w'' = x''.w) := Lib.hid (fun x' => Calls.quietM (HSAM.out y x x'.w (hry.keep (HMJ.out.trans x'.mod)) (hrx.keep (HMJ.out.trans x'.mod)) hxy))
       have HSQ : Hid (∀ x' : MW wr, Calls Tryz.prog 19 #[.agg #[.int .i64 y.x.e, .int .i64 y.x.p, y.vv, y.vl], .agg #[.int .i64 x.x.e, .int .i64 x.x.p, x.vv, x.vl]] x'.w fun e w'' => e = .returned (.bool true) ∧ ∃ x'' : MW wr, w'' = x''.w) := Lib.hid (fun x' => Calls.quietM (HSAN.out y x x'.w (hry.keep (HMJ.out.trans x'.mod)) (hrx.keep (HMJ.out.trans x'.mod)) hxy))
       obtain ⟨ao, co, hvo⟩ := hrx.vo_eq
       obtain ⟨av, cv, hvv⟩ := hrx.vv_eq
       obtain ⟨al, cl, hvl⟩ := hrx.vl_eq
       obtain ⟨yo, yoc, gvo⟩ := hry.vo_eq
       obtain ⟨yv, yvc, gvv⟩ := hry.vv_eq
       obtain ⟨yl, ylc, gvl⟩ := hry.vl_eq
       clear hx hy hxy hrx hry
       obtain ⟨⟨xc, xq, ⟨kind, ops, rv, rk, rd⟩, ae, ap, vals, list, fr, to_⟩, vo, vv, vl⟩ := x
       obtain ⟨⟨yc, yq, ⟨ykind, yops, yrv, yrk, yrd⟩, ye, yp, yvals, ylist, yfr, yto⟩, yvo, yvv, yvl⟩ := y
       simp only at hvo hvv hvl gvo gvv gvl
       subst hvo hvv hvl gvo gvv gvl
       obtain ⟨no, hno⟩ : ∃ n, n = ops.length := ⟨_, rfl⟩
       obtain ⟨nv, hnv⟩ : ∃ n, n = vals.length := ⟨_, rfl⟩
       obtain ⟨nl, hnl⟩ : ∃ n, n = list.length := ⟨_, rfl⟩
       obtain ⟨yno, hyno⟩ : ∃ n, n = yops.length := ⟨_, rfl⟩
       obtain ⟨ynv, hynv⟩ : ∃ n, n = yvals.length := ⟨_, rfl⟩
       obtain ⟨ynl, hynl⟩ : ∃ n, n = ylist.length := ⟨_, rfl⟩
       simp only [Cm.c11, Cm.c14, rqV, ← hno, ← hnv, ← hnl, ← hyno, ← hynv, ← hynl] at HAQ HSQ hcs hcs3
       have q2 := hcs 2 (by omega)
       have q3 := hcs 3 (by omega)
       have q4 := hcs 4 (by omega)
       have q5 := hcs 5 (by omega)
       have q6 := hcs 6 (by omega)
       have q7 := hcs 7 (by omega)
       have q8 := hcs 8 (by omega)
       have q9 := hcs 9 (by omega)
       have q10 := hcs 10 (by omega)
       have p5 := hcs3 5 (by omega)
       have p6 := hcs3 6 (by omega)
       have p7 := hcs3 7 (by omega)
       have p8 := hcs3 8 (by omega)
       have p9 := hcs3 9 (by omega)
       have p10 := hcs3 10 (by omega)
       have p11 := hcs3 11 (by omega)
       have p12 := hcs3 12 (by omega)
       have p13 := hcs3 13 (by omega)
       simp only [List.getElem?_cons_succ, List.getElem?_cons_zero, ← Nat.add_assoc] at q2 q3 q4 q5 q6 q7 q8 q9 q10 p5 p6 p7 p8 p9 p10 p11 p12 p13
       have q2 : ∀ x : MW wr, x.w.cell? _ = some _ := fun x => x.cell ((HMC2.out.trans HMJ.out).cell q2)
       have q3 : ∀ x : MW wr, x.w.cell? _ = some _ := fun x => x.cell ((HMC2.out.trans HMJ.out).cell q3)
       have q4 : ∀ x : MW wr, x.w.cell? _ = some _ := fun x => x.cell ((HMC2.out.trans HMJ.out).cell q4)
       have q5 : ∀ x : MW wr, x.w.cell? _ = some _ := fun x => x.cell ((HMC2.out.trans HMJ.out).cell q5)
       have q6 : ∀ x : MW wr, x.w.cell? _ = some _ := fun x => x.cell ((HMC2.out.trans HMJ.out).cell q6)
       have q7 : ∀ x : MW wr, x.w.cell? _ = some _ := fun x => x.cell ((HMC2.out.trans HMJ.out).cell q7)
       have q8 : ∀ x : MW wr, x.w.cell? _ = some _ := fun x => x.cell ((HMC2.out.trans HMJ.out).cell q8)
       have q9 : ∀ x : MW wr, x.w.cell? _ = some _ := fun x => x.cell ((HMC2.out.trans HMJ.out).cell q9)
       have q10 : ∀ x : MW wr, x.w.cell? _ = some _ := fun x => x.cell ((HMC2.out.trans HMJ.out).cell q10)
       have p5 : ∀ x : MW wr, x.w.cell? _ = some _ := fun x => x.cell ((HMG2.out.trans HMJ.out).cell p5)
       have p6 : ∀ x : MW wr, x.w.cell? _ = some _ := fun x => x.cell ((HMG2.out.trans HMJ.out).cell p6)
       have p7 : ∀ x : MW wr, x.w.cell? _ = some _ := fun x => x.cell ((HMG2.out.trans HMJ.out).cell p7)
       have p8 : ∀ x : MW wr, x.w.cell? _ = some _ := fun x => x.cell ((HMG2.out.trans HMJ.out).cell p8)
       have p9 : ∀ x : MW wr, x.w.cell? _ = some _ := fun x => x.cell ((HMG2.out.trans HMJ.out).cell p9)
       have p10 : ∀ x : MW wr, x.w.cell? _ = some _ := fun x => x.cell ((HMG2.out.trans HMJ.out).cell p10)
       have p11 : ∀ x : MW wr, x.w.cell? _ = some _ := fun x => x.cell ((HMG2.out.trans HMJ.out).cell p11)
       have p12 : ∀ x : MW wr, x.w.cell? _ = some _ := fun x => x.cell ((HMG2.out.trans HMJ.out).cell p12)
       have p13 : ∀ x : MW wr, x.w.cell? _ = some _ := fun x => x.cell ((HMG2.out.trans HMJ.out).cell p13)
       have zb := Nat.lt_of_lt_of_le hb (HMC2.out.trans HMJ.out).size
       have zb3 := Nat.lt_of_lt_of_le hb3 (HMG2.out.trans HMJ.out).size
       clear hcs hcs3 hb hb3 hno hnv hnl hyno hynv hynl
       go_wp2_with fail
       refine wp_region_quietM (by kernel_rfl) (by kernel_rfl) ?_
       repeat (go_big_quiet_step (first | (go_at_call 19; exact HSQ.out _) | (go_at_call 18; exact HAQ.out _)))
       refine wpQuiet_nil ?_
       intro wz hmz
       have MZ : Hid (Mod (fun _ => False) w10 wz) := Lib.hid (HMJ.out.trans (MW.mod_of hmz))
       clear hmz q2 q3 q4 q5 q6 q7 q8 q9 q10 p5 p6 p7 p8 p9 p10 p11 p12 p13
       go_wp2
       go_roundw
       case rel => exact ⟨j + 1, by go_num, by omega, MZ.out⟩
       case measure => simp [intOf]; omega
     · go_wp2
       go_ret
       exact ⟨rfl, HM10.out.trans HMJ.out⟩
open Go.RowKit Go.ChangeShapes Go.WideShapes Go.ChangeAt
section
variable {H : Type} {enc : TypeId × Value → H} {W : World} {base : Nat} {v : Value} {d : DataW H} {p : List MemPlace}
end
theorem cverifies_all (v0 v1 : Value) (w : World) (hg : ErrT w) (h0 : InCommits w v0) (h1 : InReplies w v1) : Calls Tryz.prog 5 #[v0, v1] w fun e w' => e = .returned (.bool true) ∧ Below w.heap.size w w' := by
 obtain ⟨l, a1, a2, a3⟩ := h0
 obtain ⟨rs, b1, b2⟩ := h1
 exact Calls.mono (R := fun e w' => e = .returned (.bool true) ∧ Mod (fun _ => False) w w') (cverifies_main v0 v1 l rs w a1 b1 a2 b2 a3 hg) (fun _ _ ⟨h, m⟩ => ⟨h, m.toBelow (Nat.le_refl _) (fun _ _ f => f)⟩)
end Go.Proofs.YtpigipgoopeeoaaGreatDoor
