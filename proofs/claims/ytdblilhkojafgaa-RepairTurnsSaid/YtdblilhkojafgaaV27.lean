/- gussetlaw23.RepairTurns, walked to its end. -/
import Derived.Test.YtdblilhkojafgaaV26
namespace Go.Proofs.Ytdblilhkojafgaa
set_option linter.unusedVariables false
open Go.RowKit

set_option maxRecDepth 100000 in
set_option maxHeartbeats 4000000 in
theorem turns_main (v vu : Value) (ls : List Ls) (up : List Bool) (t : Nat) (w : World) (hv : LLRd w v ls) (hu : FRd w vu up) (h0 : 0 < ls.length) (h4 : ls.length ≤ 4) (hl : up.length = ls.length) (ht : t < 256) (hz : ∀ s ∈ ls, ∀ x ∈ s.l, Slim x.x) :
    Calls Try.prog 3 #[v, vu, .int .u8 (t : Int)] w fun e w' => e = .returned (.bool true) ∧ Mod (fun _ => False) w w' := by
  have HV := Lib.hid hv
  have HU := Lib.hid hu
  have HZ := Lib.hid hz
  obtain ⟨a, c, rfl, hc1, hc2, -⟩ := hv.row.shape
  obtain ⟨au, cu, rfl, hcu1, hcu2, -⟩ := (show RdS _ _ _ _ _ from hu).shape
  have HUL := Lib.hid hl
  rw [hl] at hcu1 HU ⊢
  clear hv hu hl hz
  obtain ⟨n, hn⟩ : ∃ n, n = ls.length := ⟨_, rfl⟩
  have HN := Lib.hid hn
  rw [← hn] at HV HU HUL hc1 hcu1 h0 h4 ⊢
  clear hn
  have t5 : ((n : Int) == 0) = false := by simp; omega
  have t6 : decide ((4 : Int) < (n : Int)) = false := by simp; omega
  have t7 : ¬ (n = 0) := by omega
  have hmm := @run_makeMap Try.prog
  go_enter Try.func3, Try.ntmps3
  go_wp2_with (go_at_call 10; refine (awake23_any _).mono ?_; rintro e w3 ⟨rfl, hm⟩; have M3 := Lib.hid hm; clear hm)
  have HS0 := Lib.hid (SeenAt.start M3.out)
  generalize w3.heap.size = bm at HS0 ⊢
  clear M3
  go_loopw [46] (fun i wr => ∃ k : Nat, i = .int .i64 k ∧ k ≤ n ∧ SeenAt w bm (idsV (flatV (ls.take k))) wr ∧ SmallV (ls.take k)) (fun i _ => n - (intOf i).toNat)
  case atStart => exact ⟨0, rfl, Nat.zero_le _, HS0.out, by simp [SmallV]⟩
  case round =>
    obtain ⟨k, rfl, hk, hm, hsm⟩ := hrel
    have HM := Lib.hid hm
    have HSM := Lib.hid hsm
    clear hm hsm HS0
    by_cases hkn : k < n
    · obtain ⟨x, hx⟩ : ∃ x, ls[k]? = some x := ⟨_, List.getElem?_eq_getElem (by rw [← HN.out]; exact hkn)⟩
      have HX := Lib.hid hx
      obtain ⟨b, off, rfl, hb, p0⟩ := HV.out.ent hx rfl
      have p0 := HM.out.mod.cell p0
      have HL := Lib.hid (HV.out.at hx)
      obtain ⟨xv, xl⟩ := x
      simp only at p0 HL
      obtain ⟨al, cl, rfl, hcl1, hcl2, -⟩ := HL.out.row.shape
      obtain ⟨m, hm⟩ : ∃ m, m = xl.length := ⟨_, rfl⟩
      have HML := Lib.hid hm
      rw [← hm] at p0 HL hcl1
      clear hx hm
      by_cases hm20 : m ≤ 20
      · have t20 : ¬ ((20 : Int) < (m : Int)) := by omega
        have HM0 : Hid (SeenAt w bm (idsV (flatV (ls.take k) ++ xl.take 0)) wr) := Lib.hid (by simpa using HM.out)
        go_wp2
        go_loopw [55] (fun i wr => ∃ j : Nat, i = .int .i64 j ∧ j ≤ m ∧ SeenAt w bm (idsV (flatV (ls.take k) ++ xl.take j)) wr ∧ ∀ y ∈ xl.take j, y.x.halves.length ≤ 60) (fun i _ => m - (intOf i).toNat)
        case atStart => exact ⟨0, rfl, Nat.zero_le _, HM0.out, by simp⟩
        case round =>
          obtain ⟨j, rfl, hj, hm, hsm⟩ := hrel
          have HJ := Lib.hid hm
          have HSJ := Lib.hid hsm
          clear hm hsm HM HM0 p0
          by_cases hjm : j < m
          · obtain ⟨y, hy⟩ : ∃ y, xl[j]? = some y := ⟨_, List.getElem?_eq_getElem (by rw [← HML.out]; exact hjm)⟩
            have HY := Lib.hid hy
            obtain ⟨bl, offl, rfl, hbl, r0, r1, r2, r3⟩ := HL.out.ent hy rfl
            have r0 := HJ.out.mod.cell r0
            have r1 := HJ.out.mod.cell r1
            have r2 := HJ.out.mod.cell r2
            have r3 := HJ.out.mod.cell r3
            have zbl : bl < wr.heap.size := Nat.lt_of_lt_of_le hbl HJ.out.mod.size
            have HVR := Lib.hid (HL.out.at hy)
            have HK := Lib.hid (u32key HVR.out.fits.id)
            have HTX : Hid (xl.take (j + 1) = xl.take j ++ [y]) := Lib.hid (by
              obtain ⟨h1, h2⟩ := List.getElem?_eq_some_iff.1 hy
              rw [List.take_succ_eq_append_getElem h1, h2])
            have HID : Hid (idsV (flatV (ls.take k) ++ xl.take j) ++ [y.x.id] = idsV (flatV (ls.take k) ++ xl.take (j + 1))) := Lib.hid (by rw [HTX.out, ← List.append_assoc, idsV_app _ [y]]; rfl)
            have HLN : Hid ((idsV (flatV (ls.take k) ++ xl.take j)).length < maxLen) := Lib.hid (by
              rw [idsV_len, List.length_append]
              have := flatV_len HSM.out (by omega)
              have h2 : (xl.take j).length ≤ j := by simp; omega
              unfold maxLen
              omega)
            clear hy
            obtain ⟨⟨id, there, xs, ys⟩, vp, vh⟩ := y
            obtain ⟨np, ap, cp, rfl⟩ : ∃ np ap cp, vp = .slice ap np cp := by
              obtain ⟨a, c, e, _⟩ := HVR.out.props.shape
              exact ⟨_, _, _, e⟩
            obtain ⟨nh, hnh⟩ : ∃ nh, nh = ys.length := ⟨_, rfl⟩
            have HNH := Lib.hid hnh
            obtain ⟨ah, ch, rfl, hch1, hch2, -⟩ : ∃ ah ch, vh = .slice ah nh ch ∧ nh ≤ ch ∧ ch ≤ 9223372036854775807 ∧ True := by
              obtain ⟨a, c, e, h1, h2, _⟩ := HVR.out.halves.shape
              exact ⟨_, _, by rw [hnh]; exact e, by rw [hnh]; exact h1, h2, trivial⟩
            clear hnh HVR
            simp only at r0 r1 r2 r3 HK HID HTX
            have hlk := HJ.out.look ((Mod.refl (fun _ => False) wr).alloc (.cells #[.int .u32 (id : Int), .bool there, .slice ap np cp, .slice ah nh ch] 31)) HK.out
            by_cases hin : id ∈ idsV (flatV (ls.take k) ++ xl.take j)
            · rw [show decide (id ∈ idsV (flatV (ls.take k) ++ xl.take j)) = true by simp [hin]] at hlk
              clear hin
              go_wp2
              go_ret
              exact ⟨rfl, HJ.out.mod.alloc _⟩
            · have HPUT := HJ.out.put ((Mod.refl (fun _ => False) wr).alloc (.cells #[.int .u32 (id : Int), .bool there, .slice ap np cp, .slice ah nh ch] 31)) HK.out hin HLN.out
              rw [show decide (id ∈ idsV (flatV (ls.take k) ++ xl.take j)) = false by simp [hin]] at hlk
              clear hin
              by_cases h60 : nh ≤ 60
              · obtain ⟨w5, hrun, hs5⟩ := HPUT
                rw [HID.out] at hs5
                have HS5 := Lib.hid hs5
                clear hs5
                have t60 : decide ((60 : Int) < (nh : Int)) = false := by simp; omega
                go_wp2
                go_roundw
                case rel => exact ⟨j + 1, by go_num, by omega, HS5.out, by
                  intro y hy
                  rw [HTX.out] at hy
                  rcases List.mem_append.1 hy with hy | hy
                  · exact HSJ.out y hy
                  · rw [List.mem_singleton] at hy; subst hy; show ys.length ≤ 60; rw [← HNH.out]; exact h60⟩
                case measure => simp [intOf]; omega
              · clear HPUT
                have t60 : decide ((60 : Int) < (nh : Int)) = true := by simp; omega
                go_wp2
                go_ret
                exact ⟨rfl, HJ.out.mod.alloc _⟩
          · have HTA : Hid (xl.take j = xl) := Lib.hid (List.take_of_length_le (by have := HML.out; omega))
            rw [HTA.out] at HJ HSJ
            have HFV : Hid (flatV (ls.take (k + 1)) = flatV (ls.take k) ++ xl) := Lib.hid (flatV_succ HX.out)
            rw [← HFV.out] at HJ
            have HSS : Hid (SmallV (ls.take (k + 1))) := Lib.hid (HSM.out.succ HX.out (by simp only; rw [← HML.out]; exact hm20) HSJ.out)
            go_wp2
            go_roundw
            case rel => exact ⟨k + 1, by go_num, by omega, HJ.out, HSS.out⟩
            case measure => simp [intOf]; omega
      · have t20 : (20 : Int) < (m : Int) := by omega
        go_wp2
        go_ret
        exact ⟨rfl, HM.out.mod⟩
    · have HTA : Hid (ls.take k = ls) := Lib.hid (List.take_of_length_le (by have := HN.out; omega))
      rw [HTA.out] at HM HSM
      have MW0 := Lib.hid HM.out.mod
      have HND : Hid (((dat ls).flatten.map Vtx.id).Nodup) := Lib.hid (by rw [← ids_dat]; exact HM.out.nd)
      have HDS := Lib.hid HSM.out.dat
      clear HM HSM HTA hk
      obtain ⟨kk, hkk, hkn2⟩ : ∃ kk : Nat, (t : Int) % (n : Int) = (kk : Int) ∧ kk < n := ⟨t % n, by simp, Nat.mod_lt _ h0⟩
      obtain ⟨i0, hi, hz0, hz1, hz2⟩ := info_parts infoVs
      have HI : Hid (Try.prog.info? 26 = some i0 ∧ i0.zero = some (.slice none 0 0) ∧ i0.size = 1 ∧ i0.bytes = 24) := ⟨hi, hz0, hz1, hz2⟩
      obtain ⟨j0, hj, hy0, hy1, hy2⟩ := info_parts infoBool
      have HJ : Hid (Try.prog.info? 4 = some j0 ∧ j0.zero = some (.bool false) ∧ j0.size = 1 ∧ j0.bytes = 1) := ⟨hj, hy0, hy1, hy2⟩
      clear hi hz0 hz1 hz2 hj hy0 hy1 hy2
      go_upto_region 22 with fail
      have HO0 := Lib.hid (OnAt.start MW0.out)
      rw [hkk]
      clear hkk
      go_wp2
      go_loopw [81, 13, 14] (fun i o u wr => ∃ j : Nat, i = .int .i64 j ∧ j ≤ n ∧ OnAt w o u j (((rot kk ls).take j).map Ls.v) (((rot kk up).take j).map Value.bool) wr) (fun i _ _ _ => n - (intOf i).toNat)
      case atStart => exact ⟨0, rfl, Nat.zero_le _, HO0.out⟩
      case round =>
        obtain ⟨j, rfl, hj, hm⟩ := hrel
        have HM := Lib.hid hm
        clear hm HO0 MW0
        obtain ⟨ao, co, no, hvv⟩ : ∃ ao co no, u13 = .slice ao no co := by
          obtain ⟨a, c, e, _⟩ := HM.out.one.seg.shape
          exact ⟨_, _, _, e⟩
        subst hvv
        obtain ⟨av, cv, nv, hvv⟩ : ∃ ao co no, u14 = .slice ao no co := by
          obtain ⟨a, c, e, _⟩ := HM.out.two.seg.shape
          exact ⟨_, _, _, e⟩
        subst hvv
        by_cases hjn : j < n
        · obtain ⟨q, hq⟩ : ∃ q, q = (kk + j) % n := ⟨_, rfl⟩
          have hqn : q < n := by rw [hq]; exact Nat.mod_lt _ h0
          have hmod : ((kk : Int) + (j : Int)) % (n : Int) = (q : Int) := by rw [hq]; simp
          obtain ⟨x, hx⟩ : ∃ x, ls[q]? = some x := ⟨_, List.getElem?_eq_getElem (by rw [← HN.out]; exact hqn)⟩
          obtain ⟨u, hu⟩ : ∃ u, up[q]? = some u := ⟨_, List.getElem?_eq_getElem (by rw [HUL.out]; exact hqn)⟩
          have HTA : Hid (((rot kk ls).take (j + 1)).map Ls.v = ((rot kk ls).take j).map Ls.v ++ [x.v]) := Lib.hid (take_map_succ _ (by rw [rot_get HN.out hkn2 hjn, ← hq]; exact hx))
          have HTB : Hid (((rot kk up).take (j + 1)).map Value.bool = ((rot kk up).take j).map Value.bool ++ [.bool u]) := Lib.hid (take_map_succ _ (by rw [rot_get HUL.out.symm hkn2 hjn, ← hq]; exact hu))
          obtain ⟨b, off, rfl, hb, p0⟩ := HV.out.ent hx rfl
          obtain ⟨bu, offu, rfl, hbu, q0⟩ := HU.out.ent hu rfl
          have p0 := HM.out.one.mod.cell p0
          have HQ := Lib.hid q0
          obtain ⟨al, cl, hxv, -⟩ := (HV.out.at hx).row.shape
          obtain ⟨xv, xl⟩ := x
          simp only at p0 hxv HTA
          subst hxv
          generalize xl.length = m at p0 HTA
          generalize ((rot kk ls).take j).map Ls.v = A at HM HTA
          generalize ((rot kk up).take j).map Value.bool = B at HM HTB
          clear hx hu hq q0
          have HM1 := Lib.hid (HM.out.more ((Mod.refl (fun _ => False) wr).alloc (.cells #[.slice al m cl] 26)))
          have HS1 := Lib.hid (src_cells (w := wr) rfl (size := 1) 26 #[.slice al m cl] rfl (by simp [Value.oneCell']))
          have HJN : Hid (j + 1 ≤ 4) := Lib.hid (by omega)
          go_wp2_with (first
            | (at_builtin; refine wpList_append_seg rfl (.tmp 84) (.tmp 94) 22 rfl i0 _ 1 24 Try.underlying22 HI.out.1 HI.out.2.1 HI.out.2.2.1 HI.out.2.2.2 rfl (by decide) rfl HM1.out.one.seg _ 1 _ rfl HS1.out (by have := HJN.out; unfold maxLen; omega) (by have := HJN.out; omega) ?_; intro v3 w3 hs3 hg3 ho3; have H3 := Lib.hid (HM1.out.app hs3 hg3 ho3); (obtain ⟨a3, c3, n3, rfl⟩ : ∃ a c n, v3 = .slice a n c := (by obtain ⟨a, c, e, _⟩ := hs3.shape; exact ⟨_, _, _, e⟩)); clear hs3 hg3 ho3;
               have q0 := H3.out.one.mod.cell HQ.out;
               have HM2 := Lib.hid (H3.out.more ((Mod.refl (fun _ => False) w3).alloc (.cells #[.bool u] 4)));
               have HS2 := Lib.hid (src_cells (w := w3) rfl (size := 1) 4 #[.bool u] rfl (by simp [Value.oneCell'])))
            | (at_builtin; refine wpList_append_seg rfl (.tmp 96) (.tmp 106) 23 rfl j0 _ 1 1 Try.underlying23 HJ.out.1 HJ.out.2.1 HJ.out.2.2.1 HJ.out.2.2.2 rfl (by decide) rfl HM2.out.two.seg _ 1 _ rfl HS2.out (by have := HJN.out; unfold maxLen; omega) (by have := HJN.out; omega) ?_; intro v4 w4 hs4 hg4 ho4; have H4 := Lib.hid (HM2.out.app hs4 hg4 ho4); (obtain ⟨a4, c4, n4, rfl⟩ : ∃ a c n, v4 = .slice a n c := (by obtain ⟨a, c, e, _⟩ := hs4.shape; exact ⟨_, _, _, e⟩)); clear hs4 hg4 ho4))
          go_roundw
          case rel => exact ⟨j + 1, by go_num, by omega, by rw [HTA.out, HTB.out]; exact H4.out⟩
          case measure => simp [intOf]; omega
        · obtain rfl : j = n := by omega
          have HM0 := Lib.hid HM.out.one.mod
          have e1 : (rot kk ls).take j = rot kk ls := List.take_of_length_le (by rw [rot_length]; have := HN.out; omega)
          have e2 : (rot kk up).take j = rot kk up := List.take_of_length_le (by rw [rot_length]; have := HUL.out; omega)
          have hl2 : (rot kk ls).length = j := by rw [rot_length]; exact HN.out.symm
          have hu2 : (rot kk up).length = j := by rw [rot_length]; exact HUL.out
          rw [e1, e2] at HM
          have HL2 : Hid (LLRd wr (.slice ao no co) (rot kk ls)) := Lib.hid ⟨by rw [hl2]; exact HM.out.one.seg.rdS, fun s hs => (HV.out.each s ((rot_perm kk ls).mem_iff.2 hs)).keep HM0.out⟩
          have HF2 : Hid (FRd wr (.slice av nv cv) (rot kk up)) := Lib.hid (by unfold FRd; rw [hu2]; exact HM.out.two.seg.rdS)
          have HL1 := Lib.hid (HV.out.keep HM0.out)
          have HF1 := Lib.hid (HU.out.keep HM0.out)
          have HLEN : Hid (∀ s ∈ ls, s.l.length ≤ 1000) := Lib.hid (fun s hs => by
            have := (HDS.out (s.l.map Vs.x) (List.mem_map_of_mem hs)).1
            simp at this; omega)
          have HLAW : Hid (∀ ls1 ls2 : List Ls, dat ls1 = dat ls → dat ls2 = dat (rot kk ls) → (cmpR ls2 (rot kk up)).1 = (cmpR ls1 up).1 ∧ ∀ i, cntK (cmpR ls2 (rot kk up)).2 i = cntK (cmpR ls1 up).2 i) := Lib.hid (by
            intro ls1 ls2 d1 d2
            have hz1 : (List.zip up (dat ls)).map Prod.fst = up := List.map_fst_zip (by have := HUL.out; have := HN.out; simp [dat]; omega)
            have hz2 : (List.zip up (dat ls)).map Prod.snd = dat ls := List.map_snd_zip (by have := HUL.out; have := HN.out; simp [dat]; omega)
            have h := turn_law (rot_perm kk (List.zip up (dat ls))) (ls1 := ls1) (ls2 := ls2) (by rw [hz2, d1]) (by rw [← rot_map, hz2, d2]; simp only [dat, rot_map]) (by rw [hz2]; exact HND.out)
            rw [hz1, ← rot_map, hz1] at h
            exact ⟨h.1.symm, fun i => (h.2 i).symm⟩)
          have HSM2 : Hid (Small (dat (rot kk ls))) := Lib.hid (fun l hl => by
            obtain ⟨s, hs, rfl⟩ := List.mem_map.1 hl
            exact HDS.out _ (List.mem_map_of_mem ((rot_perm kk ls).mem_iff.2 hs)))
          have HTW1 := Lib.hid (twins_any _ ls wr HL1.out (by have := HN.out; omega) HLEN.out HZ.out)
          have HTW2 : Hid (∀ w', Mod (fun _ => False) wr w' → Calls Try.prog 12 #[.slice ao no co] w' fun e w'' => ∃ vo ls', e = .returned vo ∧ Mod (fun _ => False) w' w'' ∧ LLOwn w'' vo ls' ∧ dat ls' = dat (rot kk ls)) := Lib.hid (fun w' m => twins_any _ (rot kk ls) w' (HL2.out.keep m) (by omega) (fun s hs => HLEN.out s ((rot_perm kk ls).mem_iff.2 hs)) (fun s hs => HZ.out s ((rot_perm kk ls).mem_iff.2 hs)))
          have HUN := Lib.hid HUL.out
          have hdl : ∀ a b : List Ls, dat a = dat b → a.length = b.length := fun a b h => by have := congrArg List.length h; simpa [dat] using this
          have HDL := Lib.hid hdl
          have HL2' := Lib.hid hl2
          have HU2' := Lib.hid hu2
          clear HM HND HLEN hl2 hu2 e1 e2 hdl HL1 HL2
          go_wp2_with (first
            | (go_at_call 11; have hdum := M8; clear hdum; refine (compare_all _ _ ls2 (rot kk up) w8 HT8.out.rd (HF2.out.keep ((M5.out.trans (M6.out.trans M7.out)).trans M8.out)) (by have := HU2'.out; have := HL2'.out; have := HDL.out _ _ HD8.out; omega) (by have := HL2'.out; have := HDL.out _ _ HD8.out; omega) (by rw [HD8.out]; exact HSM2.out)).mono ?_; rintro e w9 ⟨vb, rfl, hm9, hr9, hl9⟩; rw [(HLAW.out ls1 ls2 HD5.out HD8.out).1]; have M9 := Lib.hid hm9; have HB9 := Lib.hid hr9; have HB8 := Lib.hid hl9; (obtain ⟨ab, cb, nb, rfl⟩ : ∃ a c n, vb = .slice a n c := (by obtain ⟨a, c, e, _⟩ := hr9.shape; exact ⟨_, _, _, e⟩)); clear hm9 hr9 hl9)
            | (go_at_call 12; have hdum := M7; clear hdum; refine (HTW2.out _ (M5.out.trans (M6.out.trans M7.out))).mono ?_; rintro e w8 ⟨vo2, ls2, rfl, hm8, ht8, hd8⟩; have M8 := Lib.hid hm8; have HT8 := Lib.hid ht8; have HD8 := Lib.hid hd8; (obtain ⟨a8, c8, n8, rfl⟩ : ∃ a c n, vo2 = .slice a n c := (by obtain ⟨a, c, e, _⟩ := ht8.row.shape; exact ⟨_, _, _, e⟩)); clear hm8 ht8 hd8)
            | (go_at_call 11; refine (compare_all _ _ ls1 up w6 (HT5.out.rd.keep M6.out) HF6.out (by have := HUN.out; have := HN.out; have := HDL.out _ _ HD5.out; omega) (by have := HN.out; have := HDL.out _ _ HD5.out; omega) (by rw [HD5.out]; exact HDS.out)).mono ?_; rintro e w7 ⟨va, rfl, hm7, hr7, hl7⟩; have M7 := Lib.hid hm7; have HA7 := Lib.hid hr7; have HA8 := Lib.hid hl7; (obtain ⟨a7, c7, n7, rfl⟩ : ∃ a c n, va = .slice a n c := (by obtain ⟨a, c, e, _⟩ := hr7.shape; exact ⟨_, _, _, e⟩)); clear hm7 hr7 hl7)
            | (at_builtin; refine wpList_append_seg rfl (.tmp 112) (.tmp 113) 23 rfl j0 _ 1 1 Try.underlying23 HJ.out.1 HJ.out.2.1 HJ.out.2.2.1 HJ.out.2.2.2 rfl (by decide) rfl (empty_any w5 4 1 rfl) _ _ _ rfl (((HF1.out.keep M5.out).keep ((Mod.refl (fun _ => False) w5).alloc (.cells #[] 4))).src (fun u hu => by obtain ⟨b, _, rfl⟩ := List.mem_map.1 hu; rfl)) (by have := HUN.out; unfold maxLen; omega) (by have := HUN.out; omega) ?_; intro v6 w6 hs6 hg6 ho6; (obtain ⟨hsg, hmd⟩ := fresh_any rfl hs6 hg6 ho6); have M6 := Lib.hid hmd; have HF6 : Hid (FRd w6 v6 up) := Lib.hid hsg.rdS; (obtain ⟨a6, c6, n6, rfl⟩ : ∃ a c n, v6 = .slice a n c := (by obtain ⟨a, c, e, _⟩ := hsg.shape; exact ⟨_, _, _, e⟩)); clear hs6 hg6 ho6 hsg hmd)
            | (go_at_call 12; refine HTW1.out.mono ?_; rintro e w5 ⟨vo1, ls1, rfl, hm5, ht5, hd5⟩; have M5 := Lib.hid hm5; have HT5 := Lib.hid ht5; have HD5 := Lib.hid hd5; (obtain ⟨a5, c5, n5, rfl⟩ : ∃ a c n, vo1 = .slice a n c := (by obtain ⟨a, c, e, _⟩ := ht5.row.shape; exact ⟨_, _, _, e⟩)); clear hm5 ht5 hd5))
          have HA9 := Lib.hid ((HA7.out.keep M8.out).keep M9.out)
          have HW9 := Lib.hid ((HM0.out.trans (M5.out.trans (M6.out.trans M7.out))).trans (M8.out.trans M9.out))
          have HCN := Lib.hid (HLAW.out ls1 ls2 HD5.out HD8.out).2
          clear HLAW HTW1 HTW2 HF1 HF2 HSM2 HUN HDL HL2' HU2' M5 M6 M7 M8 M9 HT5 HT8 HD5 HD8 HF6 HA7 HM0
          generalize (cmpR ls1 up).1 = er
          generalize (cmpR ls1 up).2 = R1 at HA9 HA8 HCN
          generalize (cmpR ls2 (rot kk up)).2 = R2 at HB9 HB8 HCN
          have HLR : Hid (n7 = R1.length) := Lib.hid (by
            obtain ⟨a, c, e, -⟩ := HA9.out.shape
            injection e)
          have HLB := HA8
          have hn7 : n7 ≤ 5000 := by have := HLR.out; have := HLB.out; omega
          go_loopw [127] (fun i wr => ∃ g : Nat, i = .int .i64 g ∧ g ≤ n7 ∧ CtAt w9 w9.heap.size (w9.heap.size + 1) (cntA (R1.take g)) (cntA []) 37 wr) (fun i _ => n7 - (intOf i).toNat)
          case atStart => exact ⟨0, rfl, Nat.zero_le _, CtAt.start w9⟩
          case round =>
            obtain ⟨g, rfl, hg, hct⟩ := hrel
            have HCT := Lib.hid hct
            clear hct
            by_cases hgn : g < n7
            · obtain ⟨x, hx⟩ : ∃ x, R1[g]? = some x := ⟨_, List.getElem?_eq_getElem (by have := HLR.out; omega)⟩
              obtain ⟨b, off, rfl, hb, p0, p1, p2, p3⟩ := rep_ent HA9.out hx rfl
              have p0 := HCT.out.mod.cell p0
              have p1 := HCT.out.mod.cell p1
              have p2 := HCT.out.mod.cell p2
              have p3 := HCT.out.mod.cell p3
              have zb : b < wr.heap.size := Nat.lt_of_lt_of_le hb HCT.out.mod.size
              have HTK : Hid (R1.take (g + 1) = R1.take g ++ [x]) := Lib.hid (by
                obtain ⟨h1, h2⟩ := List.getElem?_eq_some_iff.1 hx
                rw [List.take_succ_eq_append_getElem h1, h2])
              have HST := Lib.hid (cntA_set (R1.take g) x)
              have hcl : cntK (R1.take g) (x.kind % 5) ≤ 5000 := Nat.le_trans (cntK_le _ _) (by simp; have := HLB.out; omega)
              have hmlt : x.kind % 5 < 5 := Nat.mod_lt _ (by omega)
              have hmod : (x.kind : Int) % 5 = ((x.kind % 5 : Nat) : Int) := by omega
              have c0 := cell_of_row HCT.out.x (x.kind % 5)
              rw [cntA_get _ hmlt] at c0
              have zbx := lt_of_block HCT.out.x
              have fr0 := free_of_row HCT.out.x (x.kind % 5)
              generalize x.kind % 5 = m at hcl hmlt hmod c0 fr0 HST
              generalize cntK (R1.take g) m = cnt at hcl c0 HST
              clear hx
              obtain ⟨rk, rn, ri, rf⟩ := x
              simp only at p0 p1 p2 p3 hmod
              go_wp2
              have HC3 := Lib.hid ((HCT.out.setx m (.int .i64 ((cnt : Int) + 1))).more ((Mod.refl (fun _ => False) _).alloc (.cells #[.int .u8 (rk : Int), .int .i64 (rn : Int), .int .u32 (ri : Int), .int .u32 (rf : Int)] 39)))
              rw [HST.out, ← HTK.out] at HC3
              go_roundw
              case rel => exact ⟨g + 1, by go_num, by omega, HC3.out⟩
              case measure => simp [intOf]; omega
            · have HTK : Hid (R1.take g = R1) := Lib.hid (List.take_of_length_le (by have := HLR.out; omega))
              rw [HTK.out] at HCT
              clear HLR HLB
              have HLR : Hid (nb = R2.length) := Lib.hid (by
                obtain ⟨a, c, e, -⟩ := HB9.out.shape
                injection e)
              have HLB := HB8
              have hnb : nb ≤ 5000 := by have := HLR.out; have := HLB.out; omega
              go_wp2
              go_loopw [141] (fun i wr => ∃ g : Nat, i = .int .i64 g ∧ g ≤ nb ∧ CtAt w9 w9.heap.size (w9.heap.size + 1) (cntA R1) (cntA (R2.take g)) 37 wr) (fun i _ => nb - (intOf i).toNat)
              case atStart => exact ⟨0, rfl, Nat.zero_le _, HCT.out⟩
              case round =>
                clear HCT hg hgn
                obtain ⟨g, rfl, hg, hct⟩ := hrel
                have HCT := Lib.hid hct
                clear hct
                by_cases hgn : g < nb
                · obtain ⟨x, hx⟩ : ∃ x, R2[g]? = some x := ⟨_, List.getElem?_eq_getElem (by have := HLR.out; omega)⟩
                  obtain ⟨b, off, rfl, hb, p0, p1, p2, p3⟩ := rep_ent HB9.out hx rfl
                  have p0 := HCT.out.mod.cell p0
                  have p1 := HCT.out.mod.cell p1
                  have p2 := HCT.out.mod.cell p2
                  have p3 := HCT.out.mod.cell p3
                  have zb : b < wr.heap.size := Nat.lt_of_lt_of_le hb HCT.out.mod.size
                  have HTK : Hid (R2.take (g + 1) = R2.take g ++ [x]) := Lib.hid (by
                    obtain ⟨h1, h2⟩ := List.getElem?_eq_some_iff.1 hx
                    rw [List.take_succ_eq_append_getElem h1, h2])
                  have HST := Lib.hid (cntA_set (R2.take g) x)
                  have hcl : cntK (R2.take g) (x.kind % 5) ≤ 5000 := Nat.le_trans (cntK_le _ _) (by simp; have := HLB.out; omega)
                  have hmlt : x.kind % 5 < 5 := Nat.mod_lt _ (by omega)
                  have hmod : (x.kind : Int) % 5 = ((x.kind % 5 : Nat) : Int) := by omega
                  have c0 := cell_of_row HCT.out.y (x.kind % 5)
                  rw [cntA_get _ hmlt] at c0
                  have zbx := lt_of_block HCT.out.y
                  have fr0 := free_of_row HCT.out.y (x.kind % 5)
                  generalize x.kind % 5 = m at hcl hmlt hmod c0 fr0 HST
                  generalize cntK (R2.take g) m = cnt at hcl c0 HST
                  clear hx
                  obtain ⟨rk, rn, ri, rf⟩ := x
                  simp only at p0 p1 p2 p3 hmod
                  go_wp2
                  have HC3 := Lib.hid ((HCT.out.sety m (.int .i64 ((cnt : Int) + 1))).more ((Mod.refl (fun _ => False) _).alloc (.cells #[.int .u8 (rk : Int), .int .i64 (rn : Int), .int .u32 (ri : Int), .int .u32 (rf : Int)] 39)))
                  rw [HST.out, ← HTK.out] at HC3
                  go_roundw
                  case rel => exact ⟨g + 1, by go_num, by omega, HC3.out⟩
                  case measure => simp [intOf]; omega
                · have HTK : Hid (R2.take g = R2) := Lib.hid (List.take_of_length_le (by have := HLR.out; omega))
                  have HCE : Hid (cntA R2 = cntA R1) := Lib.hid (by unfold cntA; rw [HCN.out, HCN.out, HCN.out, HCN.out, HCN.out])
                  rw [HTK.out, HCE.out] at HCT
                  have e0 := cell_of_row HCT.out.x 0
                  have e1 := cell_of_row HCT.out.x 1
                  have e2 := cell_of_row HCT.out.x 2
                  have e3 := cell_of_row HCT.out.x 3
                  have e4 := cell_of_row HCT.out.x 4
                  have f0 := cell_of_row HCT.out.y 0
                  have f1 := cell_of_row HCT.out.y 1
                  have f2 := cell_of_row HCT.out.y 2
                  have f3 := cell_of_row HCT.out.y 3
                  have f4 := cell_of_row HCT.out.y 4
                  have he5 := eq_five (cntK R1 0) (cntK R1 1) (cntK R1 2) (cntK R1 3) (cntK R1 4) wr
                  simp [cntA] at e0 e1 e2 e3 e4 f0 f1 f2 f3 f4
                  go_wp2
                  go_ret
                  exact ⟨by simp, HW9.out.trans HCT.out.mod⟩
end Go.Proofs.Ytdblilhkojafgaa
