import Derived.Test.YtpigipgoopeeoaaGreatDoorMCBegCHol00
import Derived.Test.YtpigipgoopeeoaaGreatDoorMCBegCVer00
set_option linter.unusedVariables false
set_option linter.unusedSimpArgs false
namespace Go.Proofs.YtpigipgoopeeoaaGreatDoor
open Go.RowKit Go.Maps
theorem numBad_take {c : List Cx} {k i : Nat} (h : i < k) : numBad (c.take k) i = numBad c i := by
 unfold numBad
 rw [take_get h, List.take_take, Nat.min_eq_left (by omega)]
theorem placeOf_take {c : List Cx} {k i : Nat} {m : Nm} (h : placeOf c m = some i) (hi : i < k) : placeOf (c.take k) m = some i := by
 unfold placeOf at h ⊢
 rw [List.findIdx?_eq_some_iff_getElem] at h ⊢
 obtain ⟨h1, h2, h3⟩ := h
 refine ⟨by rw [List.length_take]; omega, by rw [List.getElem_take]; exact h2, fun j hj => ?_⟩
 rw [List.getElem_take]
 exact h3 j hj
theorem begins_law {c r : List Cx} (h : verdict c r = none) (k : Nat) : verdict (c.take k) (r.filter (within k)) = none := by
 rw [verdict_none] at h ⊢
 obtain ⟨h1, h2, h3, h4⟩ := h
 refine ⟨fun i hi => ?_, fun i hi => ?_, fun x hx => ?_, fun x hx => ?_⟩
 · rw [List.length_take] at hi
   rw [ansBad_take (by omega)]; exact h1 i (by omega)
 · rw [List.length_take] at hi
   rw [numBad_take (by omega)]; exact h2 i (by omega)
 · rw [List.mem_filter] at hx
   obtain ⟨hx, hw⟩ := hx
   unfold within at hw
   simp only [Bool.and_eq_true, decide_eq_true_eq, Bool.not_eq_true', decide_eq_false_iff_not] at hw
   obtain ⟨hw1, hw2, hw3⟩ := hw
   have h3 := h3 x hx
   unfold repA at h3 ⊢
   have hg : x.given = false := by unfold Cx.given; simp [hw2, hw3]
   rw [hg] at h3 ⊢
   simp only [Bool.not_false, Bool.true_and, Bool.not_eq_false'] at h3 ⊢
   unfold meets at h3 ⊢
   cases hp : placeOf c x.nm with
   | none => rw [hp] at h3; cases h3
   | some i =>
     rw [hp] at h3
     simp only at h3
     cases hy : c[i]? with
     | none => rw [hy] at h3; cases h3
     | some y =>
       rw [hy] at h3
       simp only [Bool.and_eq_true, decide_eq_true_eq] at h3
       have hik : i < k := by have := h3.2.1; omega
       rw [placeOf_take hp hik]
       simp only
       rw [take_get hik, hy]
       simp only [Bool.and_eq_true, decide_eq_true_eq]
       exact h3
 · rw [List.mem_filter] at hx
   obtain ⟨hx, hw⟩ := hx
   unfold within at hw
   simp only [Bool.and_eq_true, decide_eq_true_eq, Bool.not_eq_true', decide_eq_false_iff_not] at hw
   unfold repB
   have hg : x.given = false := by unfold Cx.given; simp [hw.2.1, hw.2.2]
   rw [hg]; rfl
open Go.RowKit Go.Maps
set_option maxRecDepth 100000 in
set_option maxHeartbeats 16000000 in
theorem cbegins_main (v u : Value) (l rs : List Cm) (kb : Nat) (hkb : kb < 256) (w : World) (hv : CRd Cm.c11 11 w v l) (hu : CRd Cm.c13 13 w u rs) (hs : ∀ c ∈ l, c.Small) (hs' : ∀ c ∈ rs, c.Small) (hl : l.length ≤ 9223372036854775807) (hg : ErrT w) :
   Calls Tryz.prog 4 #[v, u, .int .u8 (kb : Int)] w fun e w' => e = .returned (.bool true) ∧ Mod (fun _ => False) w w' := by
 have HAW : Hid (∀ w', Mod (fun _ => False) w w' → Calls Tryz.prog 8 #[] w' fun e w'' => e = .returned (.bool true) ∧ Mod (fun _ => False) w' w'') := Lib.hid (fun w' m => cawake_any w' (hg.keep m (fun f => f)))
 have HCOM : Hid (∀ v ms w', CRd Cm.c11 11 w' v ms → (∀ c ∈ ms, c.Small) → ms.length ≤ 4096 → Calls Tryz.prog 11 #[v] w' fun e w'' => ∃ a c ms', e = .returned (.slice a ms'.length c) ∧ Mod (fun _ => False) w' w'' ∧ CRd Cm.c14 14 w'' (.slice a ms'.length c) ms' ∧ ms'.map Cm.x = ms.map Cm.x) := Lib.hid (fun v ms w' h1 h2 h3 => (commits_any v ms w' h1 h2 h3).mono (by
   rintro e w'' ⟨u, ms', rfl, h4, h5⟩
   obtain ⟨a, c, rfl, -⟩ := h4.row.rdS.shape
   exact ⟨a, c, ms', rfl, h4.mod, h4.crd, h5⟩))
 have HREP : Hid (∀ v ms w', CRd Cm.c13 13 w' v ms → (∀ c ∈ ms, c.Small) → ms.length ≤ 4096 → Calls Tryz.prog 12 #[v] w' fun e w'' => ∃ a c ms', e = .returned (.slice a ms'.length c) ∧ Mod (fun _ => False) w' w'' ∧ CRd Cm.c13 13 w'' (.slice a ms'.length c) ms' ∧ ms'.map Cm.x = ms.map Cm.x) := Lib.hid (fun v ms w' h1 h2 h3 => (replies_any v ms w' h1 h2 h3).mono (by
   rintro e w'' ⟨u, ms', rfl, h4, h5⟩
   obtain ⟨a, c, rfl, -⟩ := h4.row.rdS.shape
   exact ⟨a, c, ms', rfl, h4.mod, h4.crd, h5⟩))
 have HVER : Hid (∀ v u ms rs w' X R, Mod (fun _ => False) w w' → CRd Cm.c14 14 w' v ms → CRd Cm.c13 13 w' u rs → ms.map Cm.x = X → rs.map Cm.x = R → X.length ≤ 4096 → R.length ≤ 4096 → Calls Tryz.prog 10 #[v, u] w' fun e w'' => e = .returned (verdV (verdict X R)) ∧ Mod (fun _ => False) w' w'') := Lib.hid (fun v u ms rs w' X R m h1 h2 h3 h4 h5 h6 => by
   subst h3 h4
   rw [List.length_map] at h5 h6
   exact cverify_any v u ms rs w' h1 h2 h5 h6 (hg.keep m (fun f => f)))
 have HCUT : Hid (∀ w', Mod (fun _ => False) w w' → Calls Tryz.prog 13 #[v, u] w' fun e w'' => ∃ a c ms a' c' rs', e = .returned (.tuple #[.slice a ms.length c, .slice a' rs'.length c']) ∧ Mod (fun _ => False) w' w'' ∧ CRd Cm.c11 11 w'' (.slice a ms.length c) ms ∧ ms.length ≤ 60 ∧ (∀ c ∈ ms, c.Small) ∧ CRd Cm.c13 13 w'' (.slice a' rs'.length c') rs' ∧ rs'.length ≤ 60 ∧ ∀ c ∈ rs', c.Small) := Lib.hid (fun w' m => (cut_any v u l rs w' (hv.keep m) (hu.keep m) hs hl).mono (by
   rintro e w'' ⟨a, n, c, ms, a', n', c', rfl, h1, h2, h3, h4⟩
   obtain ⟨_, _, e, _⟩ := h1.row.rdS.shape
   obtain ⟨_, _, e', _⟩ := h4.row.shape
   obtain rfl := (Value.slice.inj e).2.1
   obtain rfl := (Value.slice.inj e').2.1
   have hl2 := congrArg List.length h2
   rw [List.length_map, List.length_map, List.length_take] at hl2
   exact ⟨a, c, ms, a', c', _, rfl, h1.mod, h1.crd, by omega, h3, h4, by rw [List.length_take]; omega, fun c hc => hs' c (List.mem_of_mem_take hc)⟩))
 obtain ⟨av_, cv_, hva, hvc1, hvc2, -⟩ := hv.row.shape
 obtain ⟨au_, cu_, hua, huc1, huc2, -⟩ := hu.row.shape
 subst hva hua
 obtain ⟨m0, hm0⟩ : ∃ m, m = l.length := ⟨_, rfl⟩
 obtain ⟨m1, hm1⟩ : ∃ m, m = rs.length := ⟨_, rfl⟩
 simp only [← hm0, ← hm1] at HCUT ⊢
 obtain ⟨i0, hi, hz0, hz1, hz2⟩ := info_parts (show (Tryz.prog.info? 44).map (fun i => (i.zero, i.size, i.bytes)) = some (some (.agg #[.int .u8 0, .int .u32 0, .int .u8 0, .slice none 0 0, .int .u32 0, .int .i64 0, .int .i64 0, .int .i64 0, .int .i64 0, .slice none 0 0, .slice none 0 0, .int .i64 0, .int .i64 0]), 13, 144) by kernel_rfl)
 have HI : Hid (Tryz.prog.info? 44 = some i0 ∧ i0.zero = some (.agg #[.int .u8 0, .int .u32 0, .int .u8 0, .slice none 0 0, .int .u32 0, .int .i64 0, .int .i64 0, .int .i64 0, .int .i64 0, .slice none 0 0, .slice none 0 0, .int .i64 0, .int .i64 0]) ∧ i0.size = 13 ∧ i0.bytes = 144) := ⟨hi, hz0, hz1, hz2⟩
 clear hi hz0 hz1 hz2 hv hu hs hs' hl hg hvc1 hvc2 huc1 huc2 hm0 hm1
 go_enter Tryz.func4, Tryz.ntmps4
 go_upto_region 5 with (first
   | (go_at_call 10; go_loud (refine (HVER.out _ _ _ _ _ (ms2.map Cm.x) (rs2.map Cm.x) HMW4.out (HCO.out.1.keep HM34.out) HRE.out.1 HCO.out.2 HRE.out.2 (by rw [List.length_map]; have := HCR.out.2.1; omega) (by rw [List.length_map]; have := HCR.out.2.2.2.2.1; omega)).mono ?_; (rintro e w5 ⟨rfl, hm5⟩); have HMW5 : Hid (Mod (fun _ => False) w2 w5) := Lib.hid (HM24.out.trans hm5); clear hm5; (obtain ⟨k, i, ok, hk, hVV⟩ : ∃ (k i : Nat) (ok : Bool), (ok = true ∧ verdict (ms2.map Cm.x) (rs2.map Cm.x) = none ∨ ok = false) ∧ verdV (verdict (ms2.map Cm.x) (rs2.map Cm.x)) = .tuple #[.agg #[.int .i64 (k : Int), .int .i64 (i : Int)], .bool ok, .int .i64 0] := (by rcases hvd : verdict (ms2.map Cm.x) (rs2.map Cm.x) with _ | ⟨k, i⟩; exact ⟨0, 0, true, .inl ⟨rfl, rfl⟩, rfl⟩; exact ⟨k, i, false, .inr rfl, rfl⟩)); rw [hVV]; have HOK := Lib.hid hk; clear hVV hk))
   | (go_at_call 12; go_loud (refine (HREP.out _ _ _ (HCR.out.2.2.2.1.keep HM23.out) HCR.out.2.2.2.2.2 (by have := HCR.out.2.2.2.2.1; omega)).mono ?_; (rintro e w4 ⟨a4, c4, ms4, rfl, hm4, hc4, hx4⟩); have HRE := Lib.hid (And.intro hc4 hx4); have HM34 := Lib.hid hm4; have HM24 : Hid (Mod (fun _ => False) w2 w4) := Lib.hid (HM23.out.trans hm4); have HMW4 : Hid (Mod (fun _ => False) w w4) := Lib.hid (HMW2.out.trans (HM23.out.trans hm4)); clear hm4 hc4 hx4))
   | (go_at_call 11; go_loud (refine (HCOM.out _ _ _ HCR.out.1 HCR.out.2.2.1 (by have := HCR.out.2.1; omega)).mono ?_; (rintro e w3 ⟨a3, c3, ms3, rfl, hm3, hc3, hx3⟩); have HCO := Lib.hid (And.intro hc3 hx3); have HM23 := Lib.hid hm3; clear hm3 hc3 hx3))
   | (go_at_call 13; go_loud (refine (HCUT.out _ HM1.out).mono ?_; (rintro e w2 ⟨a2, c2, ms2, b2, d2, rs2, rfl, hm2, hc2, hx2, hs2, hr2, hy2, ht2⟩); have HMW2 : Hid (Mod (fun _ => False) w w2) := Lib.hid (HM1.out.trans hm2); have HCR := Lib.hid (And.intro hc2 (And.intro hx2 (And.intro hs2 (And.intro hr2 (And.intro hy2 ht2))))); clear hm2 hc2 hx2 hs2 hr2 hy2 ht2))
   | (go_at_call 8; go_loud (refine (HAW.out _ (Mod.refl _ _)).mono ?_; (rintro e w1 ⟨rfl, hm1⟩); have HM1 := Lib.hid hm1; clear hm1)))
 have HM5F : Hid (Mod (fun _ => False) w2 (w5.alloc (.cells #[.int .i64 (k : Int), .int .i64 (i : Int)] 46))) := Lib.hid (HMW5.out.alloc _)
 cases ok with
 | false =>
   clear HOK
   go_wp2
   go_ret
   exact ⟨rfl, HMW2.out.trans HM5F.out⟩
 | true =>
   have HV : Hid (verdict (ms2.map Cm.x) (rs2.map Cm.x) = none) := Lib.hid (by
     rcases HOK.out with ⟨_, h⟩ | h
     · exact h
     · cases h)
   obtain ⟨m, hm⟩ : ∃ m, m = ms2.length := ⟨_, rfl⟩
   obtain ⟨m', hm'⟩ : ∃ m, m = rs2.length := ⟨_, rfl⟩
   have HML := Lib.hid hm
   have HML' := Lib.hid hm'
   have hm60 : m ≤ 60 := by have := HCR.out.2.1; omega
   have hr60 : m' ≤ 60 := by have := HCR.out.2.2.2.2.1; omega
   rw [← hm, ← hm'] at HCR ⊢
   obtain ⟨hi, hhi⟩ : ∃ h, h = kb % (m + 1) := ⟨_, rfl⟩
   have hm1 : ¬ (m : Int) + 1 = 0 := by omega
   have hw1 : IntKind.i64.wrap ((m : Int) + 1) = (m : Int) + 1 := IntWalk.i64_in _ (by omega)
   have hw0 : IntKind.i64.wrap (kb : Int) = (kb : Int) := IntWalk.i64_in _ (by omega)
   have htm : (kb : Int).tmod ((m : Int) + 1) = (hi : Int) := by
     rw [hhi, Int.tmod_eq_emod_of_nonneg (by omega)]
     simp
   have htm2 : (kb : Int) % ((m : Int) + 1) = (hi : Int) := by rw [hhi]; simp
   have hwh : IntKind.i64.wrap (hi : Int) = (hi : Int) := IntWalk.i64_in _ (by have := Nat.mod_lt kb (show 0 < m + 1 by omega); omega)
   have hhm : hi ≤ m := by have := Nat.mod_lt kb (show 0 < m + 1 by omega); omega
   clear hhi HOK hm hm'
   go_upto_region 10 with fail
   go_loopw [50, 11] (fun i u wr => ∃ (jx : Nat) (ms : List Cm), i = .int .i64 (jx : Int) ∧ jx ≤ m' ∧ CBf Cm.c13 13 44 w2 u ms wr ∧ ms.map Cm.x = ((rs2.take jx).map Cm.x).filter (within hi) ∧ ∀ c ∈ ms, c.Small) (fun i _ _ => m' - (intOf i).toNat)
   case atStart => exact ⟨0, [], rfl, Nat.zero_le _, (CBf.start _).from HM5F.out, by simp, by simp⟩
   case round =>
     obtain ⟨jx, ms, rfl, hj, hbf, hms, hsm⟩ := hrel
     have HBF := Lib.hid hbf
     have HMS := Lib.hid hms
     have HSMS := Lib.hid hsm
     have HK := Lib.hid hbf.mod
     have HLN : Hid (ms.length ≤ jx) := Lib.hid (by have := congrArg List.length hms; rw [List.length_map] at this; rw [this]; refine Nat.le_trans (List.length_filter_le _ _) ?_; rw [List.length_map, List.length_take]; omega)
     obtain ⟨r, hr⟩ : ∃ r, r = ms.length := ⟨_, rfl⟩
     obtain ⟨au, cu, hcu, hcu2, hub⟩ : ∃ a c, r ≤ c ∧ c ≤ 9223372036854775807 ∧ _ = Value.slice a r c := by
       obtain ⟨a, c, e, h1, h2, _⟩ := hbf.row.rdS.shape
       rw [← hr] at e h1
       exact ⟨a, c, h1, h2, e⟩
     subst hub
     have hrj : r ≤ jx := by have := HLN.out; omega
     have HRK := Lib.hid hr
     clear hbf hms hsm hr HLN
     have HUR := Lib.hid HCR.out.2.2.2.1
     by_cases hjm : jx < m'
     · skip
       obtain ⟨x, hx⟩ : ∃ x, rs2[jx]? = some x := ⟨_, List.getElem?_eq_getElem (by rw [← HML'.out]; exact hjm)⟩
       obtain ⟨b, off, e1, hb, hcs⟩ := CRd.ent (cells := Cm.c13) (size := 13) (fun _ => rfl) (by decide) HUR.out hx rfl
       obtain rfl := e1
       have hxx : (rs2.map Cm.x)[jx]? = some x.x := by rw [List.getElem?_map, hx]; rfl
       have HXX := Lib.hid hxx
       have HRX := Lib.hid ((HUR.out.at hx).keep HK.out)
       have hcs : ∀ j, j < 13 → ∀ u, x.c13[j]? = some u → wr.cell? ⟨b, off + (jx * 13 + j), none⟩ = some u := fun j hj u hu => HK.out.cell ((hcs j hj).trans hu)
       obtain ⟨ao, co, hvo⟩ := HRX.out.vo_eq
       obtain ⟨av, cv, hvv⟩ := HRX.out.vv_eq
       obtain ⟨al, cl, hvl⟩ := HRX.out.vl_eq
       have HSX := Lib.hid (HCR.out.2.2.2.2.2 x (List.mem_of_getElem? hx))
       have HRW := Lib.hid (HUR.out.at hx)
       have HTK : Hid ((rs2.take (jx + 1)).map Cm.x = (rs2.take jx).map Cm.x ++ [x.x]) := Lib.hid (by rw [take_snoc' hx, List.map_append]; rfl)
       obtain ⟨bw, hbw⟩ : ∃ b, b = within hi x.x := ⟨_, rfl⟩
       have HW : Hid (within hi x.x = bw) := Lib.hid hbw.symm
       have HWE : Hid (bw = (decide (x.x.to_ ≤ (hi : Int)) && (!decide (x.x.e = 13) && !decide (x.x.e = 14)))) := Lib.hid hbw
       have HXRD : Hid (∀ S : Nat → Prop, (∀ b, S b → w2.heap.size ≤ b) → ∀ w', Mod (fun _ => False) w2 w' → x.St S w') := Lib.hid (fun S hS w' m => Cm.st_old HRW.out m hS)
       clear hbw
       clear hx hxx
       obtain ⟨⟨xc, xq, ⟨kind, ops, rv, rk, rd⟩, ae, ap, vals, list, fr, to_⟩, vo, vv, vl⟩ := x
       simp only at hvo hvv hvl
       subst hvo hvv hvl
       obtain ⟨no, hno⟩ : ∃ n, n = ops.length := ⟨_, rfl⟩
       obtain ⟨nv, hnv⟩ : ∃ n, n = vals.length := ⟨_, rfl⟩
       obtain ⟨nl, hnl⟩ : ∃ n, n = list.length := ⟨_, rfl⟩
       simp only [Cm.c13, ← hno, ← hnv, ← hnl] at hcs
       have p0 := hcs 0 (by omega) _ rfl
       have p1 := hcs 1 (by omega) _ rfl
       have p2 := hcs 2 (by omega) _ rfl
       have p3 := hcs 3 (by omega) _ rfl
       have p4 := hcs 4 (by omega) _ rfl
       have p5 := hcs 5 (by omega) _ rfl
       have p6 := hcs 6 (by omega) _ rfl
       have p7 := hcs 7 (by omega) _ rfl
       have p8 := hcs 8 (by omega) _ rfl
       have p9 := hcs 9 (by omega) _ rfl
       have p10 := hcs 10 (by omega) _ rfl
       have p11 := hcs 11 (by omega) _ rfl
       have p12 := hcs 12 (by omega) _ rfl
       simp only [← Nat.add_assoc, Nat.add_zero] at p0 p1 p2 p3 p4 p5 p6 p7 p8 p9 p10 p11 p12
       have zb := Nat.lt_of_lt_of_le hb HK.out.size
       clear hcs hb
       simp only [← hno, ← hnv, ← hnl] at HW HWE HXRD
       have HSX2 : Hid (Cm.Small ⟨⟨xc, xq, ⟨kind, ops, rv, rk, rd⟩, ae, ap, vals, list, fr, to_⟩, .slice ao no co, .slice av nv cv, .slice al nl cl⟩) := Lib.hid (by have h := HSX.out; simp only [← hno, ← hnv, ← hnl] at h; exact h)
       clear hno hnv hnl HRX HRW HSX
       have HBW : Hid (Mod (fun _ => False) wr (wr.alloc (.cells #[.int .u8 (xc : Int), .int .u32 (xq : Int), .int .u8 (kind : Int), .slice ao no co, .int .u32 (rv : Int), .int .i64 rk, .int .i64 rd, .int .i64 ae, .int .i64 ap, .slice av nv cv, .slice al nl cl, .int .i64 fr, .int .i64 to_] 44))) := Lib.hid ((Mod.refl _ _).alloc _)
       by_cases ht : to_ ≤ (hi : Int)
       · by_cases h13 : ae = 13
         · replace HW : Hid (within hi _ = false) := Lib.hid (HW.out.trans (by rw [HWE.out]; simp [h13]))
           have g0 : decide (to_ ≤ (hi : Int)) = true := by simpa using ht
           clear HWE
           subst h13
           go_wp2
           go_roundw
           case rel => exact ⟨jx + 1, ms, by go_num, by omega, HBF.out.keep HBW.out, by rw [HMS.out, HTK.out, List.filter_append, List.filter_cons_of_neg (by rw [HW.out]; simp), List.filter_nil, List.append_nil], HSMS.out⟩
           case measure => simp [intOf]; omega
         · by_cases h14 : ae = 14
           · replace HW : Hid (within hi _ = false) := Lib.hid (HW.out.trans (by rw [HWE.out]; simp [h14]))
             have g0 : decide (to_ ≤ (hi : Int)) = true := by simpa using ht
             clear HWE
             subst h14
             go_wp2
             go_roundw
             case rel => exact ⟨jx + 1, ms, by go_num, by omega, HBF.out.keep HBW.out, by rw [HMS.out, HTK.out, List.filter_append, List.filter_cons_of_neg (by rw [HW.out]; simp), List.filter_nil, List.append_nil], HSMS.out⟩
             case measure => simp [intOf]; omega
           · replace HW : Hid (within hi _ = true) := Lib.hid (HW.out.trans (by rw [HWE.out]; simp [ht, h13, h14]))
             have g0 : decide (to_ ≤ (hi : Int)) = true := by simpa using ht
             have g13 : (ae == 13) = false := by simpa using h13
             have g14 : (ae == 14) = false := by simpa using h14
             have k13 : (ae != 13) = true := by simpa using h13
             have k14 : (ae != 14) = true := by simpa using h14
             clear HWE h13 h14
             have HM7 : Hid (Mod (fun _ => False) wr ((wr.alloc (.cells #[.int .u8 (xc : Int), .int .u32 (xq : Int), .int .u8 (kind : Int), .slice ao no co, .int .u32 (rv : Int), .int .i64 rk, .int .i64 rd, .int .i64 ae, .int .i64 ap, .slice av nv cv, .slice al nl cl, .int .i64 fr, .int .i64 to_] 44)).alloc (.cells #[.int .u8 (xc : Int), .int .u32 (xq : Int), .int .u8 (kind : Int), .slice ao no co, .int .u32 (rv : Int), .int .i64 rk, .int .i64 rd, .int .i64 ae, .int .i64 ap, .slice av nv cv, .slice al nl cl, .int .i64 fr, .int .i64 to_] 44))) := Lib.hid (HBW.out.alloc _)
             have HBF7 := Lib.hid (HBF.out.keep HM7.out)
             have HROW : Hid (Seg ((wr.alloc (.cells #[.int .u8 (xc : Int), .int .u32 (xq : Int), .int .u8 (kind : Int), .slice ao no co, .int .u32 (rv : Int), .int .i64 rk, .int .i64 rd, .int .i64 ae, .int .i64 ap, .slice av nv cv, .slice al nl cl, .int .i64 fr, .int .i64 to_] 44)).alloc (.cells #[.int .u8 (xc : Int), .int .u32 (xq : Int), .int .u8 (kind : Int), .slice ao no co, .int .u32 (rv : Int), .int .i64 rk, .int .i64 rd, .int .i64 ae, .int .i64 ap, .slice av nv cv, .slice al nl cl, .int .i64 fr, .int .i64 to_] 44)) 44 13 (.slice au r cu) r (ms.flatMap Cm.c13)) := Lib.hid (by have h := HBF7.out.row; rwa [← HRK.out] at h)
             have HSR : Hid (Src ((wr.alloc (.cells #[.int .u8 (xc : Int), .int .u32 (xq : Int), .int .u8 (kind : Int), .slice ao no co, .int .u32 (rv : Int), .int .i64 rk, .int .i64 rd, .int .i64 ae, .int .i64 ap, .slice av nv cv, .slice al nl cl, .int .i64 fr, .int .i64 to_] 44)).alloc (.cells #[.int .u8 (xc : Int), .int .u32 (xq : Int), .int .u8 (kind : Int), .slice ao no co, .int .u32 (rv : Int), .int .i64 rk, .int .i64 rd, .int .i64 ae, .int .i64 ap, .slice av nv cv, .slice al nl cl, .int .i64 fr, .int .i64 to_] 44)) 13 (.slice (some ⟨wr.heap.size + 1, 0, none⟩) 1 1) 1 (#[.int .u8 (xc : Int), .int .u32 (xq : Int), .int .u8 (kind : Int), .slice ao no co, .int .u32 (rv : Int), .int .i64 rk, .int .i64 rd, .int .i64 ae, .int .i64 ap, .slice av nv cv, .slice al nl cl, .int .i64 fr, .int .i64 to_] : Array Value).toList) := Lib.hid (src_cells (w := (wr.alloc (.cells #[.int .u8 (xc : Int), .int .u32 (xq : Int), .int .u8 (kind : Int), .slice ao no co, .int .u32 (rv : Int), .int .i64 rk, .int .i64 rd, .int .i64 ae, .int .i64 ap, .slice av nv cv, .slice al nl cl, .int .i64 fr, .int .i64 to_] 44))) (by simp) (size := 13) 44 #[.int .u8 (xc : Int), .int .u32 (xq : Int), .int .u8 (kind : Int), .slice ao no co, .int .u32 (rv : Int), .int .i64 rk, .int .i64 rd, .int .i64 ae, .int .i64 ap, .slice av nv cv, .slice al nl cl, .int .i64 fr, .int .i64 to_] rfl (by simp [Value.oneCell']))
             have HST : Hid (Cm.St (fun b => Value.ownBlock (.slice au r cu) = some b) ((wr.alloc (.cells #[.int .u8 (xc : Int), .int .u32 (xq : Int), .int .u8 (kind : Int), .slice ao no co, .int .u32 (rv : Int), .int .i64 rk, .int .i64 rd, .int .i64 ae, .int .i64 ap, .slice av nv cv, .slice al nl cl, .int .i64 fr, .int .i64 to_] 44)).alloc (.cells #[.int .u8 (xc : Int), .int .u32 (xq : Int), .int .u8 (kind : Int), .slice ao no co, .int .u32 (rv : Int), .int .i64 rk, .int .i64 rd, .int .i64 ae, .int .i64 ap, .slice av nv cv, .slice al nl cl, .int .i64 fr, .int .i64 to_] 44)) ⟨⟨xc, xq, ⟨kind, ops, rv, rk, rd⟩, ae, ap, vals, list, fr, to_⟩, .slice ao no co, .slice av nv cv, .slice al nl cl⟩) := Lib.hid (HXRD.out _ HBF.out.oa _ (HK.out.trans HM7.out))
             go_wp2_with (at_builtin; go_loud (refine wpList_append_seg rfl (.tmp 70) (.tmp 72) 30 rfl i0 _ 13 144 Tryz.underlying30 HI.out.1 HI.out.2.1 HI.out.2.2.1 HI.out.2.2.2 rfl (by decide) rfl HROW.out (.slice (some ⟨wr.heap.size + 1, 0, none⟩) 1 1) 1 _ rfl HSR.out (by unfold maxLen; omega) (by omega) ?_); intro v3 w3 hs3 hg3 ho3; have H3 := Lib.hid (HBF7.out.next (c := ⟨⟨xc, xq, ⟨kind, ops, rv, rk, rd⟩, ae, ap, vals, list, fr, to_⟩, .slice ao no co, .slice av nv cv, .slice al nl cl⟩) HST.out (by rw [← HRK.out]; exact hs3) hg3 ho3); (obtain ⟨a3, c3, rfl, -⟩ := hs3.shape); clear hs3 hg3 ho3)
             go_roundw
             case rel => exact ⟨jx + 1, ms ++ [⟨⟨xc, xq, ⟨kind, ops, rv, rk, rd⟩, ae, ap, vals, list, fr, to_⟩, .slice ao no co, .slice av nv cv, .slice al nl cl⟩], by go_num, by omega, H3.out, by rw [List.map_append, HMS.out, HTK.out, List.filter_append, List.filter_cons_of_pos (by rw [HW.out]), List.filter_nil]; rfl, fun c hc => by
               rcases List.mem_append.1 hc with hc | hc
               · exact HSMS.out c hc
               · rw [List.mem_singleton] at hc; rw [hc]; exact HSX2.out⟩
             case measure => simp [intOf]; omega
       · replace HW : Hid (within hi _ = false) := Lib.hid (HW.out.trans (by rw [HWE.out]; simp [ht]))
         have g0 : decide (to_ ≤ (hi : Int)) = false := by simpa using ht
         clear HWE
         go_wp2
         go_roundw
         case rel => exact ⟨jx + 1, ms, by go_num, by omega, HBF.out.keep HBW.out, by rw [HMS.out, HTK.out, List.filter_append, List.filter_cons_of_neg (by rw [HW.out]; simp), List.filter_nil, List.append_nil], HSMS.out⟩
         case measure => simp [intOf]; omega
     · obtain ⟨as_, cs_, hsl, hcut⟩ := CRd.to11 (HCR.out.1.keep HK.out) (k := hi) (by have := HML.out; omega) .i64
       have HCUT2 := Lib.hid hcut
       have HX2 : Hid (((ms2.take hi).map Cm.x) = (ms2.map Cm.x).take hi) := Lib.hid (by rw [List.map_take])
       have HR2 : Hid (ms.map Cm.x = (rs2.map Cm.x).filter (within hi)) := Lib.hid (by rw [HMS.out, List.take_of_length_le (by have := HML'.out; omega)])
       have HVN : Hid (verdict ((ms2.map Cm.x).take hi) ((rs2.map Cm.x).filter (within hi)) = none) := Lib.hid (begins_law HV.out hi)
       have hiz : (0 : Int) ≤ (hi : Int) := by omega
       have him : (hi : Int) ≤ (m : Int) := by omega
       have HTL : Hid ((ms2.take hi).length ≤ 60) := Lib.hid (by rw [List.length_take]; have := HML.out; omega)
       clear hcut hm1 hw1 hw0 htm htm2 hwh
       go_wp2_with (first
         | (have hq := HRE2.out; go_at_call 10; go_loud (refine (HVER.out _ _ _ _ _ ((ms2.map Cm.x).take hi) ((rs2.map Cm.x).filter (within hi)) HMW8.out (HCO2.out.1.keep HM78.out) HRE2.out.1 (HCO2.out.2.trans HX2.out) (HRE2.out.2.trans HR2.out) (by rw [List.length_take, List.length_map]; have := HML.out; omega) (by refine Nat.le_trans (List.length_filter_le _ _) ?_; rw [List.length_map]; have := HML'.out; omega)).mono ?_; (rintro e w9 ⟨he9, hm9⟩); rw [HVN.out] at he9; simp only [verdV] at he9; subst he9; have HM9 : Hid (Mod (fun _ => False) w w9) := Lib.hid (HMW8.out.trans hm9); clear hm9 hq))
         | (go_at_call 12; go_loud (refine (HREP.out _ _ _ (HBF.out.crd.keep HM67.out) HSMS.out (by have := HRK.out; omega)).mono ?_; (rintro e w8 ⟨a8, c8, ms8, rfl, hm8, hc8, hx8⟩); have HRE2 := Lib.hid (And.intro hc8 hx8); have HM78 := Lib.hid hm8; have HMW8 : Hid (Mod (fun _ => False) w w8) := Lib.hid (HMW2.out.trans (HK.out.trans (HM67.out.trans hm8))); clear hm8 hc8 hx8))
         | (go_at_call 11; go_loud (refine (HCOM.out _ _ _ HCUT2.out (fun c hc => HCR.out.2.2.1 c (List.mem_of_mem_take hc)) (by have := HTL.out; omega)).mono ?_; (rintro e w7 ⟨a7, c7, ms7, rfl, hm7, hc7, hx7⟩); have HCO2 := Lib.hid (And.intro hc7 hx7); have HM67 := Lib.hid hm7; clear hm7 hc7 hx7)))
       go_ret
       exact ⟨rfl, HM9.out.alloc _⟩
open Go.RowKit Go.ChangeShapes Go.WideShapes Go.ChangeAt
theorem cbegins_all (v0 v1 v2 : Value) (w : World) (hg : ErrT w) (h0 : InCommits w v0) (h1 : InReplies w v1) (h2 : InU8 w v2) : Calls Tryz.prog 4 #[v0, v1, v2] w fun e w' => e = .returned (.bool true) ∧ Below w.heap.size w w' := by
 obtain ⟨l, a1, a2, a3⟩ := h0
 obtain ⟨rs, b1, b2⟩ := h1
 obtain ⟨kb, rfl, hkb⟩ := h2
 exact Calls.mono (R := fun e w' => e = .returned (.bool true) ∧ Mod (fun _ => False) w w') (cbegins_main v0 v1 l rs kb hkb w a1 b1 a2 b2 a3 hg) (fun _ _ ⟨h, m⟩ => ⟨h, m.toBelow (Nat.le_refl _) (fun _ _ f => f)⟩)
end Go.Proofs.YtpigipgoopeeoaaGreatDoor
