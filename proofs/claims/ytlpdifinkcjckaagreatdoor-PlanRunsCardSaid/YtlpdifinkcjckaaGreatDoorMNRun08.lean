import Derived.Test.YtlpdifinkcjckaaGreatDoorMNRun00
set_option linter.unusedVariables false
set_option linter.unusedSimpArgs false
namespace Go.Proofs.YtlpdifinkcjckaaGreatDoor
open Go.RowKit
theorem form_bad (k : Nat) (n : Int) (s : ByteArray) (hv : Val.Fits ⟨k, n, s⟩) (hb : Val.ok ⟨k, n, s⟩ = false) (w : World) : Calls Tryz.prog 93 #[.agg #[.int .u8 (k : Int), .int .i64 n, .string s]] w fun e w' => e = .returned (.bool false) ∧ Mod (fun _ => False) w w' := by
 have := form_any ⟨k, n, s⟩ hv w
 rw [hb] at this
 exact this
theorem form_good (k : Nat) (n : Int) (s : ByteArray) (hv : Val.Fits ⟨k, n, s⟩) (hb : Val.ok ⟨k, n, s⟩ = true) (w : World) : Calls Tryz.prog 93 #[.agg #[.int .u8 (k : Int), .int .i64 n, .string s]] w fun e w' => e = .returned (.bool true) ∧ Mod (fun _ => False) w w' := by
 have := form_any ⟨k, n, s⟩ hv w
 rw [hb] at this
 exact this
set_option maxRecDepth 100000 in
set_option maxHeartbeats 4000000 in
theorem dright_any (x : Vtx) (vp vh : Value) (w : World) (hx : VRd w vp vh x) (hz : x.props.length + x.halves.length < 4611686018427387904) : Calls Tryz.prog 73 #[vtxV x vp vh] w fun e w' => e = .returned (.bool x.right) ∧ Mod (fun _ => False) w w' := by
 obtain ⟨id, there, ps, hs⟩ := x
 have HP := Lib.hid hx.props
 have HH := Lib.hid hx.halves
 have HF := Lib.hid hx.fits
 obtain ⟨ap, cp, rfl, hcp, hcp2, hap⟩ := hx.props.shape
 obtain ⟨ah, ch, rfl, hch, hch2, hah⟩ := hx.halves.shape
 simp only at hcp hch HP HH hz
 show Calls _ _ #[.agg #[.int .u32 (id : Int), .bool there, .slice ap ps.length cp, .slice ah hs.length ch]] w _
 clear hx hap hah
 obtain ⟨np, hnp⟩ : ∃ np, np = ps.length := ⟨_, rfl⟩
 obtain ⟨nh, hnh⟩ : ∃ nh, nh = hs.length := ⟨_, rfl⟩
 have HNP := Lib.hid hnp
 have HNH := Lib.hid hnh
 rw [← hnp] at hcp HP hz ⊢
 rw [← hnh] at hch HH hz ⊢
 have HZ := Lib.hid hz
 clear hz
 clear hnp hnh
 obtain ⟨nb, hnb⟩ : ∃ nb, nb = numB id := ⟨_, rfl⟩
 have HNB := Lib.hid hnb
 have HN := Lib.hid (num_any id)
 rw [← hnb] at HN
 clear hnb
 cases nb with
 | false =>
   have HR : Hid (Vtx.right ⟨id, there, ps, hs⟩ = false) := Lib.hid (by simp [Vtx.right, HNB.out.symm])
   go_enter Tryz.func73, Tryz.ntmps73
   go_wp2_with (go_at_call 72; refine (HN.out _).mono ?_; rintro e w' ⟨rfl, rfl⟩)
   go_ret
   exact ⟨ret_bool HR.out.symm, (Mod.refl _ _).alloc _⟩
 | true =>
   by_cases h16 : nh ≤ 16
   · have t16 : ¬ (16 : Int) < (nh : Int) := by omega
     by_cases hth : there = true ∨ (np = 0 ∧ nh = 0)
     · have HTH := Lib.hid hth
       have H16 := Lib.hid h16
       clear hth h16
       go_enter Tryz.func73, Tryz.ntmps73
       go_upto_region 1 with fail
       go_cut [31] (fun b wx => b = .bool false ∧ RightAt w #[.int .u32 (id : Int), .bool there, .slice ap np cp, .slice ah nh ch] wx)
       case first =>
         cases there
         case' true => have hdum : True := trivial
         case' false =>
           obtain ⟨rfl, rfl⟩ : np = 0 ∧ nh = 0 := HTH.out.resolve_left (by simp)
         all_goals
           go_wp2_with (go_at_call 72; refine (HN.out _).mono ?_; rintro e w' ⟨rfl, rfl⟩)
           go_meet
           exact ⟨by first | rfl | simp [t16], (Mod.refl _ _).alloc _, heap_alloc_new' w _⟩
       case rest =>
         obtain ⟨rfl, hr⟩ := hcut
         have HR0 := Lib.hid hr
         have e0 := cell_of_row hr.box 0
         have e1 := cell_of_row hr.box 1
         have e2 := cell_of_row hr.box 2
         have e3 := cell_of_row hr.box 3
         simp at e0 e1 e2 e3
         clear hr t16
         go_wp2_with fail
         clear e0 e1 e2 e3
         go_loopw [35] (fun i wr => ∃ k : Nat, i = .int .i64 k ∧ k ≤ np ∧ chain propOK none ps = chain propOK (prevK ps k) (ps.drop k) ∧ RightAt w #[.int .u32 (id : Int), .bool there, .slice ap np cp, .slice ah nh ch] wr) (fun i _ => np - (intOf i).toNat)
         case atStart => exact ⟨0, rfl, Nat.zero_le _, rfl, HR0.out⟩
         case round =>
           obtain ⟨k, rfl, hk, hch, hra⟩ := hrel
           have HCH := Lib.hid hch
           have HRA := Lib.hid hra
           have e0 := cell_of_row hra.box 0
           have e1 := cell_of_row hra.box 1
           have e2 := cell_of_row hra.box 2
           have e3 := cell_of_row hra.box 3
           simp at e0 e1 e2 e3
           clear hch hra
           by_cases hkn : k < np
           · obtain ⟨x, hx⟩ : ∃ x, ps[k]? = some x := ⟨_, List.getElem?_eq_getElem (by rw [← HNP.out]; exact hkn)⟩
             have HX := Lib.hid hx
             have hfx := HF.out.props x (List.mem_of_getElem? hx)
             have hstep := chain_step propOK hx
             obtain ⟨key, vk, vn, vs⟩ := x
             obtain ⟨b, off, rfl, hb, p0, p1, p2, p3⟩ := HP.out.ent hx rfl
             have p0 := HRA.out.mod.cell p0
             have p1 := HRA.out.mod.cell p1
             have p2 := HRA.out.mod.cell p2
             have p3 := HRA.out.mod.cell p3
             simp only at p0 p1 p2 p3 hfx
             have zb : w.heap.size < wr.heap.size := lt_of_block HRA.out.box
             have zc : b < wr.heap.size := Nat.lt_of_lt_of_le hb HRA.out.mod.size
             have HST := Lib.hid hstep
             have HFX := Lib.hid hfx
             have tk0 : (0 : Int) ≤ (key : Int) := by omega
             clear hx hstep hfx HX
             have HBAD : Hid (((propOK ⟨key, ⟨vk, vn, vs⟩⟩ && above (prevK ps k) key) = false) → Vtx.right ⟨id, there, ps, hs⟩ = false) := Lib.hid (fun h => by
               have := HST.out
               rw [h] at this
               simp [Vtx.right, HCH.out, this])
             by_cases hA : 3 < key
             · have tA : (3 : Int) < (key : Int) := by omega
               have HR := Lib.hid (HBAD.out (by simp [propOK]; omega))
               clear hA
               go_wp2_with fail
               go_quiet (fail)
               go_wp2
               go_ret
               exact ⟨ret_bool HR.out.symm, by repeat (first | exact HRA.out.mod.alloc _ | apply Mod.drewN | apply Mod.drew)⟩
             · have tA : ¬ (3 : Int) < (key : Int) := by omega
               have tA2 : decide ((3 : Int) < (key : Int)) = false := by simpa using tA
               by_cases hB : vk = 0
               · have tB : ((vk : Int) == 0) = true := by simp [hB]
                 have HR := Lib.hid (HBAD.out (by simp [propOK, hB]))
                 clear hA hB
                 go_wp2_with fail
                 go_quiet (fail)
                 go_wp2
                 go_ret
                 exact ⟨ret_bool HR.out.symm, by repeat (first | exact HRA.out.mod.alloc _ | apply Mod.drewN | apply Mod.drew)⟩
               · have tB : ((vk : Int) == 0) = false := by simp [hB]
                 obtain ⟨ob, hob⟩ : ∃ ob, Val.ok ⟨vk, vn, vs⟩ = ob := ⟨_, rfl⟩
                 have HOB := Lib.hid hob
                 cases ob with
                 | false =>
                   have HR := Lib.hid (HBAD.out (by simp [propOK, hob]))
                   have HCK := Lib.hid (form_bad vk vn vs HFX.out.2 hob)
                   clear hA hB hob
                   go_wp2_with fail
                   have c0 : ∀ x : MW (wr.alloc (.cells #[.int .u8 (key : Int), .int .u8 (vk : Int), .int .i64 vn, .string vs] 106)), x.w.cell? ⟨wr.heap.size, 0, none⟩ = some (.int .u8 (key : Int)) := fun x => x.cell (by simp)
                   have c1 : ∀ x : MW (wr.alloc (.cells #[.int .u8 (key : Int), .int .u8 (vk : Int), .int .i64 vn, .string vs] 106)), x.w.cell? ⟨wr.heap.size, 1, none⟩ = some (.int .u8 (vk : Int)) := fun x => x.cell (by simp)
                   have c2 : ∀ x : MW (wr.alloc (.cells #[.int .u8 (key : Int), .int .u8 (vk : Int), .int .i64 vn, .string vs] 106)), x.w.cell? ⟨wr.heap.size, 2, none⟩ = some (.int .i64 vn) := fun x => x.cell (by simp)
                   have c3 : ∀ x : MW (wr.alloc (.cells #[.int .u8 (key : Int), .int .u8 (vk : Int), .int .i64 vn, .string vs] 106)), x.w.cell? ⟨wr.heap.size, 3, none⟩ = some (.string vs) := fun x => x.cell (by simp)
                   refine wp_region_quietM (by kernel_rfl) (by kernel_rfl) ?_
                   repeat (go_big_quiet_step ((go_at_call 93; exact Calls.quietM (HCK.out _))))
                   refine wpQuiet_nil ?_
                   intro w3 hm3
                   have M3 : Hid (Mod (fun _ => False) w w3) := (HRA.out.mod.alloc _).trans (MW.mod_of hm3)
                   clear hm3 c0 c1 c2 c3
                   go_wp2
                   go_ret
                   exact ⟨ret_bool HR.out.symm, M3.out⟩
                 | true =>
                   have HCK := Lib.hid (form_good vk vn vs HFX.out.2 hob)
                   have hpo : propOK ⟨key, ⟨vk, vn, vs⟩⟩ = true := by simp [propOK, hob]; omega
                   have HPO := Lib.hid hpo
                   clear hpo hA hB hob
                   by_cases hkp : ¬ 0 < k
                   · have tK : decide ((0 : Int) < (k : Int)) = false := by simp; omega
                     have tKn : decide (0 < k) = false := by simp; omega
                     have HG : Hid (chain propOK none ps = chain propOK (prevK ps (k + 1)) (ps.drop (k + 1))) := Lib.hid (by rw [HCH.out, HST.out, HPO.out, prevK_zero (by omega)]; rfl)
                     clear hkp
                     have c0 : ∀ x : MW (wr.alloc (.cells #[.int .u8 (key : Int), .int .u8 (vk : Int), .int .i64 vn, .string vs] 106)), x.w.cell? ⟨wr.heap.size, 0, none⟩ = some (.int .u8 (key : Int)) := fun x => x.cell (by simp)
                     have c1 : ∀ x : MW (wr.alloc (.cells #[.int .u8 (key : Int), .int .u8 (vk : Int), .int .i64 vn, .string vs] 106)), x.w.cell? ⟨wr.heap.size, 1, none⟩ = some (.int .u8 (vk : Int)) := fun x => x.cell (by simp)
                     have c2 : ∀ x : MW (wr.alloc (.cells #[.int .u8 (key : Int), .int .u8 (vk : Int), .int .i64 vn, .string vs] 106)), x.w.cell? ⟨wr.heap.size, 2, none⟩ = some (.int .i64 vn) := fun x => x.cell (by simp)
                     have c3 : ∀ x : MW (wr.alloc (.cells #[.int .u8 (key : Int), .int .u8 (vk : Int), .int .i64 vn, .string vs] 106)), x.w.cell? ⟨wr.heap.size, 3, none⟩ = some (.string vs) := fun x => x.cell (by simp)
                     go_wp2_with fail
                     refine wp_region_quietM (by kernel_rfl) (by kernel_rfl) ?_
                     repeat (go_big_quiet_step ((go_at_call 93; exact Calls.quietM (HCK.out _))))
                     refine wpQuiet_nil ?_
                     intro w3 hm3
                     have M3 : Hid (Mod (fun _ => False) wr w3) := ((Mod.refl _ wr).alloc _).trans (MW.mod_of hm3)
                     clear hm3 c0 c1 c2 c3
                     go_wp2
                     go_roundw
                     case rel => exact ⟨k + 1, by go_num, by omega, HG.out, HRA.out.more M3.out⟩
                     case measure => simp [intOf]; omega
                   · have tK0 : (0 : Int) < (k : Int) := by omega
                     have hkp : 0 < k := by omega
                     have tK : decide ((0 : Int) < (k : Int)) = true := by simpa using hkp
                     have tKn : decide (0 < k) = true := by simpa using hkp
                     obtain ⟨y, hy⟩ : ∃ y, ps[k - 1]? = some y := ⟨_, List.getElem?_eq_getElem (by rw [← HNP.out]; omega)⟩
                     obtain ⟨b', off', eb, hb', y0, -⟩ := HP.out.ent hy rfl
                     simp only [Option.some.injEq, Addr.mk.injEq, and_true] at eb
                     obtain ⟨rfl, rfl⟩ := eb
                     have y0 := HRA.out.mod.cell y0
                     have HPK := Lib.hid (prevK_pos hkp hy)
                     generalize y.key = ykey at y0 HPK
                     clear hy hb'
                     by_cases hlt : ykey < key
                     · have HG : Hid (chain propOK none ps = chain propOK (prevK ps (k + 1)) (ps.drop (k + 1))) := Lib.hid (by rw [HCH.out, HST.out, HPO.out, HPK.out]; simp [above, hlt])
                       have tC : decide ((key : Int) ≤ (ykey : Int)) = false := by simp; omega
                       have tCn : decide (key ≤ ykey) = false := by simp; omega
                       clear hlt
                       have c0 : ∀ x : MW (wr.alloc (.cells #[.int .u8 (key : Int), .int .u8 (vk : Int), .int .i64 vn, .string vs] 106)), x.w.cell? ⟨wr.heap.size, 0, none⟩ = some (.int .u8 (key : Int)) := fun x => x.cell (by simp)
                       have c1 : ∀ x : MW (wr.alloc (.cells #[.int .u8 (key : Int), .int .u8 (vk : Int), .int .i64 vn, .string vs] 106)), x.w.cell? ⟨wr.heap.size, 1, none⟩ = some (.int .u8 (vk : Int)) := fun x => x.cell (by simp)
                       have c2 : ∀ x : MW (wr.alloc (.cells #[.int .u8 (key : Int), .int .u8 (vk : Int), .int .i64 vn, .string vs] 106)), x.w.cell? ⟨wr.heap.size, 2, none⟩ = some (.int .i64 vn) := fun x => x.cell (by simp)
                       have c3 : ∀ x : MW (wr.alloc (.cells #[.int .u8 (key : Int), .int .u8 (vk : Int), .int .i64 vn, .string vs] 106)), x.w.cell? ⟨wr.heap.size, 3, none⟩ = some (.string vs) := fun x => x.cell (by simp)
                       have c4 : ∀ x : MW (wr.alloc (.cells #[.int .u8 (key : Int), .int .u8 (vk : Int), .int .i64 vn, .string vs] 106)), x.w.cell? ⟨w.heap.size, 2, none⟩ = some (.slice (some ⟨b, off, none⟩) np cp) := fun x => x.cell (((Mod.refl _ wr).alloc _).cell e2)
                       have c5 : ∀ x : MW (wr.alloc (.cells #[.int .u8 (key : Int), .int .u8 (vk : Int), .int .i64 vn, .string vs] 106)), x.w.cell? ⟨b, off + (k - 1) * 4, none⟩ = some (.int .u8 (ykey : Int)) := fun x => x.cell (((Mod.refl _ wr).alloc _).cell y0)
                       go_wp2_with fail
                       refine wp_region_quietM (by kernel_rfl) (by kernel_rfl) ?_
                       repeat (go_big_quiet_step (first | (go_at_call 93; exact Calls.quietM (HCK.out _))))
                       refine wpQuiet_nil ?_
                       intro w3 hm3
                       have M3 : Hid (Mod (fun _ => False) wr w3) := ((Mod.refl _ wr).alloc _).trans (MW.mod_of hm3)
                       clear hm3 c0 c1 c2 c3 c4 c5
                       go_wp2
                       go_roundw
                       case rel => exact ⟨k + 1, by go_num, by omega, HG.out, HRA.out.more M3.out⟩
                       case measure => simp [intOf]; omega
                     · have HR := Lib.hid (HBAD.out (by rw [HPK.out]; simp [above]; omega))
                       have tC : decide ((key : Int) ≤ (ykey : Int)) = true := by simp; omega
                       have tCn : decide (key ≤ ykey) = true := by simp; omega
                       clear hlt
                       have c0 : ∀ x : MW (wr.alloc (.cells #[.int .u8 (key : Int), .int .u8 (vk : Int), .int .i64 vn, .string vs] 106)), x.w.cell? ⟨wr.heap.size, 0, none⟩ = some (.int .u8 (key : Int)) := fun x => x.cell (by simp)
                       have c1 : ∀ x : MW (wr.alloc (.cells #[.int .u8 (key : Int), .int .u8 (vk : Int), .int .i64 vn, .string vs] 106)), x.w.cell? ⟨wr.heap.size, 1, none⟩ = some (.int .u8 (vk : Int)) := fun x => x.cell (by simp)
                       have c2 : ∀ x : MW (wr.alloc (.cells #[.int .u8 (key : Int), .int .u8 (vk : Int), .int .i64 vn, .string vs] 106)), x.w.cell? ⟨wr.heap.size, 2, none⟩ = some (.int .i64 vn) := fun x => x.cell (by simp)
                       have c3 : ∀ x : MW (wr.alloc (.cells #[.int .u8 (key : Int), .int .u8 (vk : Int), .int .i64 vn, .string vs] 106)), x.w.cell? ⟨wr.heap.size, 3, none⟩ = some (.string vs) := fun x => x.cell (by simp)
                       have c4 : ∀ x : MW (wr.alloc (.cells #[.int .u8 (key : Int), .int .u8 (vk : Int), .int .i64 vn, .string vs] 106)), x.w.cell? ⟨w.heap.size, 2, none⟩ = some (.slice (some ⟨b, off, none⟩) np cp) := fun x => x.cell (((Mod.refl _ wr).alloc _).cell e2)
                       have c5 : ∀ x : MW (wr.alloc (.cells #[.int .u8 (key : Int), .int .u8 (vk : Int), .int .i64 vn, .string vs] 106)), x.w.cell? ⟨b, off + (k - 1) * 4, none⟩ = some (.int .u8 (ykey : Int)) := fun x => x.cell (((Mod.refl _ wr).alloc _).cell y0)
                       go_wp2_with fail
                       refine wp_region_quietM (by kernel_rfl) (by kernel_rfl) ?_
                       repeat (go_big_quiet_step (first | (go_at_call 93; exact Calls.quietM (HCK.out _))))
                       refine wpQuiet_nil ?_
                       intro w3 hm3
                       have M3 : Hid (Mod (fun _ => False) wr w3) := ((Mod.refl _ wr).alloc _).trans (MW.mod_of hm3)
                       clear hm3 c0 c1 c2 c3 c4 c5
                       go_wp2
                       go_ret
                       exact ⟨ret_bool HR.out.symm, HRA.out.mod.trans M3.out⟩
           · have hC1 : chain propOK none ps = true := by
               rw [HCH.out, List.drop_of_length_le (by have := HNP.out; omega)]; rfl
             have HC1 := Lib.hid hC1
             clear hC1 HCH
             obtain ⟨wo, rfl⟩ : ∃ wo : World, wo = wr := ⟨_, rfl⟩
             have HRW := HRA
             clear HRA
             go_wp2_with fail
             clear e0 e1 e2 e3
             go_loopw [75] (fun i wr => ∃ k : Nat, i = .int .i64 k ∧ k ≤ nh ∧ chain (halfOK id) none hs = chain (halfOK id) (prevK hs k) (hs.drop k) ∧ RightAt w #[.int .u32 (id : Int), .bool there, .slice ap np cp, .slice ah nh ch] wr) (fun i _ => nh - (intOf i).toNat)
             case atStart => exact ⟨0, rfl, Nat.zero_le _, rfl, HRW.out⟩
             case round =>
               obtain ⟨k, rfl, hk, hch, hra⟩ := hrel
               have HCH := Lib.hid hch
               have HRA := Lib.hid hra
               have e0 := cell_of_row hra.box 0
               have e3 := cell_of_row hra.box 3
               simp at e0 e3
               clear hch hra
               by_cases hkn2 : k < nh
               · obtain ⟨x, hx⟩ : ∃ x, hs[k]? = some x := ⟨_, List.getElem?_eq_getElem (by rw [← HNH.out]; exact hkn2)⟩
                 have hfx := HF.out.halves x (List.mem_of_getElem? hx)
                 have hstep := chain_step (halfOK id) hx
                 obtain ⟨key, vk, vn, vs⟩ := x
                 obtain ⟨b, off, rfl, hb, p0, p1, p2, p3⟩ := HH.out.ent hx rfl
                 have p0 := HRA.out.mod.cell p0
                 have p1 := HRA.out.mod.cell p1
                 have p2 := HRA.out.mod.cell p2
                 have p3 := HRA.out.mod.cell p3
                 simp only at p0 p1 p2 p3 hfx
                 have zb : w.heap.size < wr.heap.size := lt_of_block HRA.out.box
                 have zc : b < wr.heap.size := Nat.lt_of_lt_of_le hb HRA.out.mod.size
                 have HST := Lib.hid hstep
                 have HFX := Lib.hid hfx
                 have tk0 : (0 : Int) ≤ (key : Int) := by omega
                 clear hx hstep hfx
                 have HBAD : Hid (((halfOK id ⟨key, ⟨vk, vn, vs⟩⟩ && above (prevK hs k) key) = false) → Vtx.right ⟨id, there, ps, hs⟩ = false) := Lib.hid (fun h => by
                   have := HST.out
                   rw [h] at this
                   simp [Vtx.right, HCH.out, this])
                 have HNK := Lib.hid (num_any key)
                 obtain ⟨nb, hnb⟩ : ∃ nb, numB key = nb := ⟨_, rfl⟩
                 have HNB2 := Lib.hid hnb
                 rw [hnb] at HNK
                 clear hnb
                 cases nb with
                 | false =>
                   have HR := Lib.hid (HBAD.out (by simp [halfOK, HNB2.out]))
                   have c0 : ∀ x : MW (wr.alloc (.cells #[.int .u32 (key : Int), .int .u8 (vk : Int), .int .i64 vn, .string vs] 109)), x.w.cell? ⟨wr.heap.size, 0, none⟩ = some (.int .u32 (key : Int)) := fun x => x.cell (by simp)
                   have c1 : ∀ x : MW (wr.alloc (.cells #[.int .u32 (key : Int), .int .u8 (vk : Int), .int .i64 vn, .string vs] 109)), x.w.cell? ⟨wr.heap.size, 1, none⟩ = some (.int .u8 (vk : Int)) := fun x => x.cell (by simp)
                   have c2 : ∀ x : MW (wr.alloc (.cells #[.int .u32 (key : Int), .int .u8 (vk : Int), .int .i64 vn, .string vs] 109)), x.w.cell? ⟨wr.heap.size, 2, none⟩ = some (.int .i64 vn) := fun x => x.cell (by simp)
                   have c3 : ∀ x : MW (wr.alloc (.cells #[.int .u32 (key : Int), .int .u8 (vk : Int), .int .i64 vn, .string vs] 109)), x.w.cell? ⟨wr.heap.size, 3, none⟩ = some (.string vs) := fun x => x.cell (by simp)
                   have c4 : ∀ x : MW (wr.alloc (.cells #[.int .u32 (key : Int), .int .u8 (vk : Int), .int .i64 vn, .string vs] 109)), x.w.cell? ⟨w.heap.size, 0, none⟩ = some (.int .u32 (id : Int)) := fun x => x.cell (((Mod.refl _ wr).alloc _).cell e0)
                   go_wp2_with fail
                   refine wp_region_quietM (by kernel_rfl) (by kernel_rfl) ?_
                   repeat (go_big_quiet_step (first | (go_at_call 72; exact Calls.quietS (HNK.out _))))
                   refine wpQuiet_nil ?_
                   intro w3 hm3
                   have M3 : Hid (Mod (fun _ => False) wr w3) := ((Mod.refl _ wr).alloc _).trans (MW.mod_of hm3)
                   clear hm3 c0 c1 c2 c3 c4
                   go_wp2
                   go_ret
                   exact ⟨ret_bool HR.out.symm, HRA.out.mod.trans M3.out⟩
                 | true =>
                   by_cases hB : key = id
                   · have tB : ((key : Int) == (id : Int)) = true := by simp [hB]
                     have HR := Lib.hid (HBAD.out (by simp [halfOK, hB]))
                     clear hB
                     have c0 : ∀ x : MW (wr.alloc (.cells #[.int .u32 (key : Int), .int .u8 (vk : Int), .int .i64 vn, .string vs] 109)), x.w.cell? ⟨wr.heap.size, 0, none⟩ = some (.int .u32 (key : Int)) := fun x => x.cell (by simp)
                     have c1 : ∀ x : MW (wr.alloc (.cells #[.int .u32 (key : Int), .int .u8 (vk : Int), .int .i64 vn, .string vs] 109)), x.w.cell? ⟨wr.heap.size, 1, none⟩ = some (.int .u8 (vk : Int)) := fun x => x.cell (by simp)
                     have c2 : ∀ x : MW (wr.alloc (.cells #[.int .u32 (key : Int), .int .u8 (vk : Int), .int .i64 vn, .string vs] 109)), x.w.cell? ⟨wr.heap.size, 2, none⟩ = some (.int .i64 vn) := fun x => x.cell (by simp)
                     have c3 : ∀ x : MW (wr.alloc (.cells #[.int .u32 (key : Int), .int .u8 (vk : Int), .int .i64 vn, .string vs] 109)), x.w.cell? ⟨wr.heap.size, 3, none⟩ = some (.string vs) := fun x => x.cell (by simp)
                     have c4 : ∀ x : MW (wr.alloc (.cells #[.int .u32 (key : Int), .int .u8 (vk : Int), .int .i64 vn, .string vs] 109)), x.w.cell? ⟨w.heap.size, 0, none⟩ = some (.int .u32 (id : Int)) := fun x => x.cell (((Mod.refl _ wr).alloc _).cell e0)
                     go_wp2_with fail
                     refine wp_region_quietM (by kernel_rfl) (by kernel_rfl) ?_
                     repeat (go_big_quiet_step (first | (go_at_call 72; exact Calls.quietS (HNK.out _))))
                     refine wpQuiet_nil ?_
                     intro w3 hm3
                     have M3 : Hid (Mod (fun _ => False) wr w3) := ((Mod.refl _ wr).alloc _).trans (MW.mod_of hm3)
                     clear hm3 c0 c1 c2 c3 c4
                     go_wp2
                     go_ret
                     exact ⟨ret_bool HR.out.symm, HRA.out.mod.trans M3.out⟩
                   · have tB : ((key : Int) == (id : Int)) = false := by simp; omega
                     obtain ⟨ob, hob⟩ : ∃ ob, Val.ok ⟨vk, vn, vs⟩ = ob := ⟨_, rfl⟩
                     cases ob with
                     | false =>
                       have HR := Lib.hid (HBAD.out (by simp [halfOK, hob]))
                       have HCK := Lib.hid (form_bad vk vn vs HFX.out.2 hob)
                       clear hB hob
                       have c0 : ∀ x : MW (wr.alloc (.cells #[.int .u32 (key : Int), .int .u8 (vk : Int), .int .i64 vn, .string vs] 109)), x.w.cell? ⟨wr.heap.size, 0, none⟩ = some (.int .u32 (key : Int)) := fun x => x.cell (by simp)
                       have c1 : ∀ x : MW (wr.alloc (.cells #[.int .u32 (key : Int), .int .u8 (vk : Int), .int .i64 vn, .string vs] 109)), x.w.cell? ⟨wr.heap.size, 1, none⟩ = some (.int .u8 (vk : Int)) := fun x => x.cell (by simp)
                       have c2 : ∀ x : MW (wr.alloc (.cells #[.int .u32 (key : Int), .int .u8 (vk : Int), .int .i64 vn, .string vs] 109)), x.w.cell? ⟨wr.heap.size, 2, none⟩ = some (.int .i64 vn) := fun x => x.cell (by simp)
                       have c3 : ∀ x : MW (wr.alloc (.cells #[.int .u32 (key : Int), .int .u8 (vk : Int), .int .i64 vn, .string vs] 109)), x.w.cell? ⟨wr.heap.size, 3, none⟩ = some (.string vs) := fun x => x.cell (by simp)
                       have c4 : ∀ x : MW (wr.alloc (.cells #[.int .u32 (key : Int), .int .u8 (vk : Int), .int .i64 vn, .string vs] 109)), x.w.cell? ⟨w.heap.size, 0, none⟩ = some (.int .u32 (id : Int)) := fun x => x.cell (((Mod.refl _ wr).alloc _).cell e0)
                       go_wp2_with fail
                       refine wp_region_quietM (by kernel_rfl) (by kernel_rfl) ?_
                       repeat (go_big_quiet_step (first | (go_at_call 72; exact Calls.quietS (HNK.out _)) | (go_at_call 93; exact Calls.quietM (HCK.out _))))
                       refine wpQuiet_nil ?_
                       intro w3 hm3
                       have M3 : Hid (Mod (fun _ => False) wr w3) := ((Mod.refl _ wr).alloc _).trans (MW.mod_of hm3)
                       clear hm3 c0 c1 c2 c3 c4
                       go_wp2
                       go_ret
                       exact ⟨ret_bool HR.out.symm, HRA.out.mod.trans M3.out⟩
                     | true =>
                       have HCK := Lib.hid (form_good vk vn vs HFX.out.2 hob)
                       have hpo : halfOK id ⟨key, ⟨vk, vn, vs⟩⟩ = true := by simp [halfOK, hob, HNB2.out, hB]
                       have HPO := Lib.hid hpo
                       clear hpo hB hob
                       by_cases hkp : ¬ 0 < k
                       · have tK : decide ((0 : Int) < (k : Int)) = false := by simp; omega
                         have tKn : decide (0 < k) = false := by simp; omega
                         have HG : Hid (chain (halfOK id) none hs = chain (halfOK id) (prevK hs (k + 1)) (hs.drop (k + 1))) := Lib.hid (by rw [HCH.out, HST.out, HPO.out, prevK_zero (by omega)]; rfl)
                         clear hkp
                         have c0 : ∀ x : MW (wr.alloc (.cells #[.int .u32 (key : Int), .int .u8 (vk : Int), .int .i64 vn, .string vs] 109)), x.w.cell? ⟨wr.heap.size, 0, none⟩ = some (.int .u32 (key : Int)) := fun x => x.cell (by simp)
                         have c1 : ∀ x : MW (wr.alloc (.cells #[.int .u32 (key : Int), .int .u8 (vk : Int), .int .i64 vn, .string vs] 109)), x.w.cell? ⟨wr.heap.size, 1, none⟩ = some (.int .u8 (vk : Int)) := fun x => x.cell (by simp)
                         have c2 : ∀ x : MW (wr.alloc (.cells #[.int .u32 (key : Int), .int .u8 (vk : Int), .int .i64 vn, .string vs] 109)), x.w.cell? ⟨wr.heap.size, 2, none⟩ = some (.int .i64 vn) := fun x => x.cell (by simp)
                         have c3 : ∀ x : MW (wr.alloc (.cells #[.int .u32 (key : Int), .int .u8 (vk : Int), .int .i64 vn, .string vs] 109)), x.w.cell? ⟨wr.heap.size, 3, none⟩ = some (.string vs) := fun x => x.cell (by simp)
                         have c4 : ∀ x : MW (wr.alloc (.cells #[.int .u32 (key : Int), .int .u8 (vk : Int), .int .i64 vn, .string vs] 109)), x.w.cell? ⟨w.heap.size, 0, none⟩ = some (.int .u32 (id : Int)) := fun x => x.cell (((Mod.refl _ wr).alloc _).cell e0)
                         go_wp2_with fail
                         refine wp_region_quietM (by kernel_rfl) (by kernel_rfl) ?_
                         repeat (go_big_quiet_step (first | (go_at_call 72; exact Calls.quietS (HNK.out _)) | (go_at_call 93; exact Calls.quietM (HCK.out _))))
                         refine wpQuiet_nil ?_
                         intro w3 hm3
                         have M3 : Hid (Mod (fun _ => False) wr w3) := ((Mod.refl _ wr).alloc _).trans (MW.mod_of hm3)
                         clear hm3 c0 c1 c2 c3 c4
                         go_wp2
                         go_roundw
                         case rel => exact ⟨k + 1, by go_num, by omega, HG.out, HRA.out.more M3.out⟩
                         case measure => simp [intOf]; omega
                       · have tK0 : (0 : Int) < (k : Int) := by omega
                         have hkp : 0 < k := by omega
                         have tK : decide ((0 : Int) < (k : Int)) = true := by simpa using hkp
                         have tKn : decide (0 < k) = true := by simpa using hkp
                         obtain ⟨y, hy⟩ : ∃ y, hs[k - 1]? = some y := ⟨_, List.getElem?_eq_getElem (by rw [← HNH.out]; omega)⟩
                         obtain ⟨b', off', eb, hb', y0, -⟩ := HH.out.ent hy rfl
                         simp only [Option.some.injEq, Addr.mk.injEq, and_true] at eb
                         obtain ⟨rfl, rfl⟩ := eb
                         have y0 := HRA.out.mod.cell y0
                         have HPK := Lib.hid (prevK_pos hkp hy)
                         generalize y.key = ykey at y0 HPK
                         clear hy hb'
                         by_cases hlt : ykey < key
                         · have HG : Hid (chain (halfOK id) none hs = chain (halfOK id) (prevK hs (k + 1)) (hs.drop (k + 1))) := Lib.hid (by rw [HCH.out, HST.out, HPO.out, HPK.out]; simp [above, hlt])
                           have tC : decide ((key : Int) ≤ (ykey : Int)) = false := by simp; omega
                           have tCn : decide (key ≤ ykey) = false := by simp; omega
                           clear hlt
                           have c0 : ∀ x : MW (wr.alloc (.cells #[.int .u32 (key : Int), .int .u8 (vk : Int), .int .i64 vn, .string vs] 109)), x.w.cell? ⟨wr.heap.size, 0, none⟩ = some (.int .u32 (key : Int)) := fun x => x.cell (by simp)
                           have c1 : ∀ x : MW (wr.alloc (.cells #[.int .u32 (key : Int), .int .u8 (vk : Int), .int .i64 vn, .string vs] 109)), x.w.cell? ⟨wr.heap.size, 1, none⟩ = some (.int .u8 (vk : Int)) := fun x => x.cell (by simp)
                           have c2 : ∀ x : MW (wr.alloc (.cells #[.int .u32 (key : Int), .int .u8 (vk : Int), .int .i64 vn, .string vs] 109)), x.w.cell? ⟨wr.heap.size, 2, none⟩ = some (.int .i64 vn) := fun x => x.cell (by simp)
                           have c3 : ∀ x : MW (wr.alloc (.cells #[.int .u32 (key : Int), .int .u8 (vk : Int), .int .i64 vn, .string vs] 109)), x.w.cell? ⟨wr.heap.size, 3, none⟩ = some (.string vs) := fun x => x.cell (by simp)
                           have c4 : ∀ x : MW (wr.alloc (.cells #[.int .u32 (key : Int), .int .u8 (vk : Int), .int .i64 vn, .string vs] 109)), x.w.cell? ⟨w.heap.size, 0, none⟩ = some (.int .u32 (id : Int)) := fun x => x.cell (((Mod.refl _ wr).alloc _).cell e0)
                           have c5 : ∀ x : MW (wr.alloc (.cells #[.int .u32 (key : Int), .int .u8 (vk : Int), .int .i64 vn, .string vs] 109)), x.w.cell? ⟨w.heap.size, 3, none⟩ = some (.slice (some ⟨b, off, none⟩) nh ch) := fun x => x.cell (((Mod.refl _ wr).alloc _).cell e3)
                           have c6 : ∀ x : MW (wr.alloc (.cells #[.int .u32 (key : Int), .int .u8 (vk : Int), .int .i64 vn, .string vs] 109)), x.w.cell? ⟨b, off + (k - 1) * 4, none⟩ = some (.int .u32 (ykey : Int)) := fun x => x.cell (((Mod.refl _ wr).alloc _).cell y0)
                           go_wp2_with fail
                           refine wp_region_quietM (by kernel_rfl) (by kernel_rfl) ?_
                           repeat (go_big_quiet_step (first | (go_at_call 72; exact Calls.quietS (HNK.out _)) | (go_at_call 93; exact Calls.quietM (HCK.out _))))
                           refine wpQuiet_nil ?_
                           intro w3 hm3
                           have M3 : Hid (Mod (fun _ => False) wr w3) := ((Mod.refl _ wr).alloc _).trans (MW.mod_of hm3)
                           clear hm3 c0 c1 c2 c3 c4 c5 c6
                           go_wp2
                           go_roundw
                           case rel => exact ⟨k + 1, by go_num, by omega, HG.out, HRA.out.more M3.out⟩
                           case measure => simp [intOf]; omega
                         · have HR := Lib.hid (HBAD.out (by rw [HPK.out]; simp [above]; omega))
                           have tC : decide ((key : Int) ≤ (ykey : Int)) = true := by simp; omega
                           have tCn : decide (key ≤ ykey) = true := by simp; omega
                           clear hlt
                           have c0 : ∀ x : MW (wr.alloc (.cells #[.int .u32 (key : Int), .int .u8 (vk : Int), .int .i64 vn, .string vs] 109)), x.w.cell? ⟨wr.heap.size, 0, none⟩ = some (.int .u32 (key : Int)) := fun x => x.cell (by simp)
                           have c1 : ∀ x : MW (wr.alloc (.cells #[.int .u32 (key : Int), .int .u8 (vk : Int), .int .i64 vn, .string vs] 109)), x.w.cell? ⟨wr.heap.size, 1, none⟩ = some (.int .u8 (vk : Int)) := fun x => x.cell (by simp)
                           have c2 : ∀ x : MW (wr.alloc (.cells #[.int .u32 (key : Int), .int .u8 (vk : Int), .int .i64 vn, .string vs] 109)), x.w.cell? ⟨wr.heap.size, 2, none⟩ = some (.int .i64 vn) := fun x => x.cell (by simp)
                           have c3 : ∀ x : MW (wr.alloc (.cells #[.int .u32 (key : Int), .int .u8 (vk : Int), .int .i64 vn, .string vs] 109)), x.w.cell? ⟨wr.heap.size, 3, none⟩ = some (.string vs) := fun x => x.cell (by simp)
                           have c4 : ∀ x : MW (wr.alloc (.cells #[.int .u32 (key : Int), .int .u8 (vk : Int), .int .i64 vn, .string vs] 109)), x.w.cell? ⟨w.heap.size, 0, none⟩ = some (.int .u32 (id : Int)) := fun x => x.cell (((Mod.refl _ wr).alloc _).cell e0)
                           have c5 : ∀ x : MW (wr.alloc (.cells #[.int .u32 (key : Int), .int .u8 (vk : Int), .int .i64 vn, .string vs] 109)), x.w.cell? ⟨w.heap.size, 3, none⟩ = some (.slice (some ⟨b, off, none⟩) nh ch) := fun x => x.cell (((Mod.refl _ wr).alloc _).cell e3)
                           have c6 : ∀ x : MW (wr.alloc (.cells #[.int .u32 (key : Int), .int .u8 (vk : Int), .int .i64 vn, .string vs] 109)), x.w.cell? ⟨b, off + (k - 1) * 4, none⟩ = some (.int .u32 (ykey : Int)) := fun x => x.cell (((Mod.refl _ wr).alloc _).cell y0)
                           go_wp2_with fail
                           refine wp_region_quietM (by kernel_rfl) (by kernel_rfl) ?_
                           repeat (go_big_quiet_step (first | (go_at_call 72; exact Calls.quietS (HNK.out _)) | (go_at_call 93; exact Calls.quietM (HCK.out _))))
                           refine wpQuiet_nil ?_
                           intro w3 hm3
                           have M3 : Hid (Mod (fun _ => False) wr w3) := ((Mod.refl _ wr).alloc _).trans (MW.mod_of hm3)
                           clear hm3 c0 c1 c2 c3 c4 c5 c6
                           go_wp2
                           go_ret
                           exact ⟨ret_bool HR.out.symm, HRA.out.mod.trans M3.out⟩
               · have HR : Hid (Vtx.right ⟨id, there, ps, hs⟩ = true) := Lib.hid (by
                   have h2 : chain (halfOK id) none hs = true := by rw [HCH.out, List.drop_of_length_le (by have := HNH.out; omega)]; rfl
                   have h3 : (there || (ps.isEmpty && hs.isEmpty)) = true := by
                     rcases HTH.out with h | ⟨h, h'⟩
                     · rw [h]; rfl
                     · rw [List.eq_nil_of_length_eq_zero (HNP.out.symm.trans h), List.eq_nil_of_length_eq_zero (HNH.out.symm.trans h')]; simp
                   have h4 : hs.length ≤ 16 := by rw [← HNH.out]; exact H16.out
                   simp only [Vtx.right, ← HNB.out, h3, HC1.out, h2, h4]; rfl)
                 go_wp2
                 go_ret
                 exact ⟨ret_bool HR.out.symm, HRA.out.mod⟩
     · obtain rfl : there = false := by cases there <;> simp_all
       have hor : ¬ (np = 0 ∧ nh = 0) := fun h => hth (.inr h)
       have HR : Hid (Vtx.right ⟨id, false, ps, hs⟩ = false) := Lib.hid (by
         have : (ps.isEmpty && hs.isEmpty) = false := by
           cases hpe : ps.isEmpty with
           | false => rfl
           | true =>
             cases hhe : hs.isEmpty with
             | false => rfl
             | true =>
               exfalso
               refine hor ⟨by rw [HNP.out]; simpa using hpe, by rw [HNH.out]; simpa using hhe⟩
         simp [Vtx.right, this])
       clear hth h16
       by_cases hp : 0 < np
       case' pos => have hp2 : (0 : Int) < (np : Int) := by omega
       case' neg => have hp3 : 0 < nh := by omega
       all_goals
         clear hor
         have hz := HZ.out
         have hsum : (0 : Int) < (np : Int) + (nh : Int) := by omega
         go_enter Tryz.func73, Tryz.ntmps73
         go_wp2_with (go_at_call 72; refine (HN.out _).mono ?_; rintro e w' ⟨rfl, rfl⟩)
         go_ret
         exact ⟨ret_bool HR.out.symm, (Mod.refl _ _).alloc _⟩
   · have HR : Hid (Vtx.right ⟨id, there, ps, hs⟩ = false) := Lib.hid (by rw [HNH.out] at h16; simp [Vtx.right, h16])
     have t16 : (16 : Int) < (nh : Int) := by omega
     have t0 : (0 : Int) < (nh : Int) := by omega
     have hz := HZ.out
     have hsum : (0 : Int) < (np : Int) + (nh : Int) := by omega
     clear h16
     cases there
     case' true =>
       go_enter Tryz.func73, Tryz.ntmps73
     case' false =>
       by_cases hp : 0 < np
       case' pos => have hp2 : (0 : Int) < (np : Int) := by omega
       all_goals
         go_enter Tryz.func73, Tryz.ntmps73
     all_goals
       go_wp2_with (go_at_call 72; refine (HN.out _).mono ?_; rintro e w' ⟨rfl, rfl⟩)
       go_ret
       exact ⟨ret_bool HR.out.symm, (Mod.refl _ _).alloc _⟩
end Go.Proofs.YtlpdifinkcjckaaGreatDoor
