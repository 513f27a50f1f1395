/- YBH: what is needed of it (by shake.py). -/
import Derived.Test.YtbgjbikpenefoaaGreatDoorM43
import Derived.Test.YtbgjbikpenefoaaGreatDoorM41

/- YBH, as far as the seat goes. -/
/- gussetlaw03.GraphAll, walked. (Printed by gen_gall.py.) -/
namespace Go.Proofs.YtbgjbikpenefoaaGreatDoor
set_option linter.unusedVariables false
set_option linter.unusedSimpArgs false
open Go.RowKit Go.Maps
set_option maxRecDepth 100000 in
set_option maxHeartbeats 8000000 in
theorem gall_main (vs vo : Value) (rs : List Qs) (ops : List Opr) (w : World) (hs : QRd w vs rs) (ho : ORd w vo ops) (h48 : ops.length * 48 ≤ 140737488355328) (hg : ErrT w) :
    Calls Tryz.prog 6 #[vs, vo] w fun e w' => e = .returned (.bool true) ∧ Mod (fun _ => False) w w' := by
  have HB48 := Lib.hid h48
  obtain ⟨ao, co, rfl, hco, hco2, -⟩ := ho.row.shape
  obtain ⟨no, hno⟩ : ∃ n, n = ops.length := ⟨_, rfl⟩
  have HNO := Lib.hid hno
  rw [← hno] at ho hco ⊢
  have HO := Lib.hid ho
  clear h48 ho hno
  have HAW := Lib.hid (awake_any w hg)
  have HE := Lib.hid hg
  have HRS := Lib.hid hs
  obtain ⟨as_, cs_, rfl, hcs, hcs2, -⟩ := hs.row.shape
  obtain ⟨n, hn⟩ : ∃ n, n = rs.length := ⟨_, rfl⟩
  rw [← hn] at HRS hcs ⊢
  have HN := Lib.hid hn
  clear hs hn hg
  go_enter Tryz.func6, Tryz.ntmps6
  go_wp2_with (first
    | (go_at_call 11; refine (snew_any w w1 HM1.out).mono ?_; (rintro e w2 ⟨rfl, hm2, hst, hz2⟩); have HST0 := Lib.hid hst; clear hm2 hst hz2)
    | (go_at_call 10; refine HAW.out.mono ?_; (rintro e w1 ⟨rfl, hm1⟩); have HM1 := Lib.hid hm1; clear hm1))
  go_loopw [21] (fun i wr => ∃ k : Nat, i = .int .i64 (k : Int) ∧ k ≤ n ∧ ∃ L, GSt w (w1.heap.size + 1) w1.heap.size L wr) (fun i _ => n - (intOf i).toNat)
  case atStart => exact ⟨0, rfl, Nat.zero_le _, _, HST0.out⟩
  case round =>
    obtain ⟨k, rfl, hk, L, hst⟩ := hrel
    have HST := Lib.hid hst
    clear hst HST0
    by_cases hkn : k < n
    · skip
      obtain ⟨q, hq⟩ : ∃ q, rs[k]? = some q := ⟨_, List.getElem?_eq_getElem (by rw [← HN.out]; exact hkn)⟩
      obtain ⟨bl, offl, e0, hbl, r0, r1, r2, r3, r4⟩ := HRS.out.ent hq rfl
      replace r0 := HST.out.mod.cell r0
      replace r1 := HST.out.mod.cell r1
      replace r2 := HST.out.mod.cell r2
      replace r3 := HST.out.mod.cell r3
      replace r4 := HST.out.mod.cell r4
      have zbl : bl < wr.heap.size := Nat.lt_of_lt_of_le hbl HST.out.mod.size
      have HOR := Lib.hid (HRS.out.each q (List.mem_of_getElem? hq))
      have HSM := Lib.hid (HRS.out.small q (List.mem_of_getElem? hq))
      clear hq hbl
      subst e0
      obtain ⟨⟨kind, opq, vq, kk, dd⟩, qo⟩ := q
      obtain ⟨aq, cq, hqe, -⟩ := HOR.out.row.shape
      simp only at hqe HOR r0 r1 r2 r3 r4
      subst hqe
      obtain ⟨nq, hnq⟩ : ∃ n, n = opq.length := ⟨_, rfl⟩
      rw [← hnq] at r1 HOR
      have HMQ : Hid (Mod (fun _ => False) wr (wr.alloc (.cells #[.int .u8 (kind : Int), .slice aq nq cq, .int .u32 (vq : Int), .int .i64 kk, .int .i64 dd] 29))) := Lib.hid ((Mod.refl _ _).alloc _)
      have HDO := Lib.hid (sdo_any (w1.heap.size + 1) w1.heap.size L ⟨kind, opq, vq, kk, dd⟩ (.slice aq nq cq) w (wr.alloc (.cells #[.int .u8 (kind : Int), .slice aq nq cq, .int .u32 (vq : Int), .int .i64 kk, .int .i64 dd] 29)) (HST.out.keep HMQ.out) (HOR.out.keep (HST.out.mod.trans HMQ.out)) HSM.out.fits.v HE.out HSM.out.size)
      simp only [rqV] at HDO
      have HSQ := Lib.hid (HST.out.keep HMQ.out)
      clear hnq
      by_cases hlim : k < 40
      · have hlim' : (k : Int) < 40 := by omega
        go_wp2_with (go_at_call 12; refine HDO.out.mono ?_; (rintro e w5 ⟨vv, vl, rfl, hsd⟩); have HS5 := Lib.hid hsd.st; (obtain ⟨ze, hze⟩ : ∃ ze, ze = (doG L ⟨kind, opq, vq, kk, dd⟩).2.e := ⟨_, rfl⟩); (obtain ⟨za, hza⟩ : ∃ za, za = (doG L ⟨kind, opq, vq, kk, dd⟩).2.at_ := ⟨_, rfl⟩); rw [← hze, ← hza]; clear hsd hze hza)
        go_roundw
        case rel => exact ⟨k + 1, by go_num, by omega, _, HS5.out⟩
        case measure => simp [intOf]; omega
      · have hlim' : ¬ (k : Int) < 40 := by omega
        go_wp2
        go_roundw
        case rel => exact ⟨k + 1, by go_num, by omega, _, HSQ.out⟩
        case measure => simp [intOf]; omega
    · clear HRS
      have HS8 : Hid (Mod (fun _ => False) wr (wr.alloc (.cells #[.int .u8 1, .slice ao no co, .int .u32 0, .int .i64 0, .int .i64 0] 29))) := Lib.hid ((Mod.refl _ _).alloc _)
      have HB80 : Hid ((wr.alloc (.cells #[.int .u8 1, .slice ao no co, .int .u32 0, .int .i64 0, .int .i64 0] 29)).heap[wr.heap.size]? = some (.cells #[.int .u8 1, .slice ao no co, .int .u32 0, .int .i64 0, .int .i64 0] 29 (0, 0))) := Lib.hid (heap_alloc_new' _ _)
      obtain ⟨cr, hcr⟩ : ∃ cr, cr = checkR (txR ops) := ⟨_, rfl⟩
      have HCK : Hid (Calls Tryz.prog 19 #[.agg #[.int .u8 1, .slice ao no co, .int .u32 0, .int .i64 0, .int .i64 0]] (wr.alloc (.cells #[.int .u8 1, .slice ao no co, .int .u32 0, .int .i64 0, .int .i64 0] 29)) fun e w'' => e = .returned (.int .i64 (cr : Int)) ∧ Mod (fun _ => False) (wr.alloc (.cells #[.int .u8 1, .slice ao no co, .int .u32 0, .int .i64 0, .int .i64 0] 29)) w'') := Lib.hid (by
        have h := gcheck_any (txR ops) (.slice ao no co) _ (HO.out.keep (HST.out.mod.trans HS8.out))
        rw [hcr]
        exact h)
      by_cases hc : cr = 0
      · subst hc
        have HCR := Lib.hid hcr.symm
        clear hcr
        obtain ⟨m, hm⟩ : ∃ m, m = L.length := ⟨_, rfl⟩
        have HML := Lib.hid hm
        clear hm
        obtain ⟨b8, hb8⟩ : ∃ b, b = wr.heap.size := ⟨_, rfl⟩
        have HB8 := Lib.hid hb8
        have HL8 : Hid (w.heap.size ≤ b8) := Lib.hid (by have := HST.out.mod.size; omega)
        clear hb8
        go_wp2_with (first
          | (have hq := HC8.out; go_at_call 25; go_loud (refine (slist_any _ _ L w _ (HST.out.keep HC8.out)).mono ?_; (rintro e w2 ⟨vi, rfl, hsn⟩); have HS2 := Lib.hid hsn; (obtain ⟨ai, ci, hci, hci2, rfl⟩ : ∃ a c, m ≤ c ∧ c ≤ 9223372036854775807 ∧ vi = .slice a m c := (by obtain ⟨a, c, e, h1, h2, _⟩ := hsn.seg.rdS.shape; rw [List.length_map, ← HML.out] at e h1; exact ⟨_, _, h1, h2, e⟩)); clear hsn hq))
          | (go_at_call 19; go_loud (refine HCK.out.mono ?_; (rintro e wc ⟨rfl, hmc⟩); have HC8 := Lib.hid (HS8.out.trans hmc); have HBC := Lib.hid (hmc.heap HB80.out (fun f => f)); clear hmc)))
        rw [← HB8.out]
        have HG2 := Lib.hid ((HST.out.keep HC8.out).keep HS2.out.mod)
        have HB8W : Hid (w2.heap[b8]? = some (.cells #[.int .u8 1, .slice ao no co, .int .u32 0, .int .i64 0, .int .i64 0] 29 (0, 0))) := Lib.hid (by rw [HB8.out]; exact HS2.out.mod.heap HBC.out (fun f => f))
        have HR2 := Lib.hid HS2.out.seg.rdS
        rw [List.length_map, ← HML.out] at HR2
        clear HST HS2 HC8 HBC HB80 HS8 HCK HB8
        obtain ⟨i0, hi, hz0, hz1, hz2⟩ := info_parts infoVtx
        have HI : Hid (Tryz.prog.info? 40 = some i0 ∧ i0.zero = some (.agg #[.int .u32 0, .bool false, .slice none 0 0, .slice none 0 0]) ∧ i0.size = 4 ∧ i0.bytes = 56) := ⟨hi, hz0, hz1, hz2⟩
        clear hi hz0 hz1 hz2
        have HM40 : Hid (m ≤ 40) := Lib.hid (by have := HG2.out.good.short; have := HML.out; omega)
        go_loopw [40, 9] (fun i u wx => ∃ (j : Nat) (bl : List Vs), i = .int .i64 (j : Int) ∧ j ≤ m ∧ BfAt w2 u bl wx ∧ bl.map Vs.x = L.take j) (fun i _ _ => m - (intOf i).toNat)
        case atStart => exact ⟨0, [], rfl, Nat.zero_le _, BfAt.start _, by simp⟩
        case round =>
          obtain ⟨wx, hwx⟩ : ∃ wx : World, wx = wr := ⟨_, rfl⟩
          subst hwx
          obtain ⟨j, bl, rfl, hj, hbf, hbx⟩ := hrel
          have HBF := Lib.hid hbf
          have HBX := Lib.hid hbx
          have HBL : Hid (bl.length = j) := Lib.hid (by have := congrArg List.length hbx; rw [List.length_map, List.length_take] at this; have := HML.out; omega)
          obtain ⟨ab, cb, hcb, hcb2, hub⟩ : ∃ a c, j ≤ c ∧ c ≤ 9223372036854775807 ∧ _ = Value.slice a j c := by
            obtain ⟨a, c, e, h1, h2, _⟩ := hbf.la.row.rdS.shape
            rw [HBL.out] at e h1
            exact ⟨a, c, h1, h2, e⟩
          subst hub
          clear hbf hbx
          by_cases hjm : j < m
          · obtain ⟨x, hx⟩ : ∃ x, L[j]? = some x := ⟨_, List.getElem?_eq_getElem (by rw [← HML.out]; exact hjm)⟩
            obtain ⟨bi, offi, e0, hbi, r0⟩ := num_ent HR2.out (i := j) (x := x.id) (by rw [List.getElem?_map, hx]; rfl) rfl
            subst e0
            replace r0 := HBF.out.mod.cell r0
            have zbi : bi < wx.heap.size := Nat.lt_of_lt_of_le hbi HBF.out.mod.size
            have hxm := List.mem_of_getElem? hx
            have HVX : Hid (∀ w', Mod (fun _ => False) wx w' → Calls Tryz.prog 14 #[.pointer (some ⟨w1.heap.size + 1, 0, none⟩), .int .u32 (x.id : Int)] w' (Twins w' x)) := Lib.hid (fun w' mm => by
              have := svertex_any _ _ L x.id w w' (HG2.out.keep (HBF.out.mod.trans mm)) (by have := (HG2.out.good.each x hxm).id; omega)
              rwa [tellV_mem HG2.out.good.rise hxm] at this)
            have HTK : Hid (L.take (j + 1) = L.take j ++ [x]) := Lib.hid (by
              obtain ⟨h1, h2⟩ := List.getElem?_eq_some_iff.1 hx
              rw [List.take_succ_eq_append_getElem h1, h2])
            clear hx hbi hxm
            obtain ⟨id, there, xs, ys⟩ := x
            simp only at r0 HVX
            go_wp2_with (first
              | (at_builtin; refine wpList_append_seg rfl (.tmp 44) (.tmp 48) 49 rfl i0 _ 4 56 Tryz.underlying49 HI.out.1 HI.out.2.1 HI.out.2.2.1 HI.out.2.2.2 rfl (by decide) rfl (HBL.out ▸ HB5.out.la.row) _ 1 _ rfl HSR.out (by have := HM40.out; unfold maxLen; omega) (by have := HM40.out; omega) ?_; intro v3 w3 hs3 hg3 ho3; have H3 := Lib.hid (HB5.out.next HV5.out (by rw [HBL.out]; exact hs3) hg3 ho3); (obtain ⟨a3, c3, n3, rfl⟩ : ∃ a c n, v3 = .slice a n c := (by obtain ⟨a, c, e, _⟩ := hs3.shape; exact ⟨_, _, _, e⟩)); clear hs3 hg3 ho3)
              | (go_at_call 14; go_loud (refine (HVX.out _ (Mod.refl _ _)).mono ?_; (rintro e w4 ⟨vp4, vh4, rfl, hm4, hn4⟩); (obtain ⟨a5, c5, n5, rfl⟩ : ∃ a c n, vp4 = .slice a n c := (by obtain ⟨a, c, e, _⟩ := hn4.props.shape; exact ⟨_, _, _, e⟩)); (obtain ⟨a6, c6, n6, rfl⟩ : ∃ a c n, vh4 = .slice a n c := (by obtain ⟨a, c, e, _⟩ := hn4.halves.shape; exact ⟨_, _, _, e⟩)); have HB5 := Lib.hid ((HBF.out.keep hm4).keep ((Mod.refl (fun _ => False) w4).alloc (.cells #[.int .u32 (id : Int), .bool there, .slice a5 n5 c5, .slice a6 n6 c6] 40))); have HV5 := Lib.hid (hn4.vown.mod ((Mod.refl (fun _ => False) w4).alloc (.cells #[.int .u32 (id : Int), .bool there, .slice a5 n5 c5, .slice a6 n6 c6] 40)) ⟨fun _ _ f => f, fun _ _ f => f⟩); have HSR := Lib.hid (src_cells (w := w4) rfl (size := 4) 40 #[.int .u32 (id : Int), .bool there, .slice a5 n5 c5, .slice a6 n6 c6] rfl (by simp [Value.oneCell'])); clear hm4 hn4)))
            go_roundw
            case rel => exact ⟨j + 1, bl ++ [⟨⟨id, there, xs, ys⟩, .slice a5 n5 c5, .slice a6 n6 c6⟩], by go_num, by omega, H3.out, by rw [List.map_append, HBX.out, HTK.out]; rfl⟩
            case measure => simp [intOf]; omega
          · obtain rfl : j = m := by omega
            replace HBX : Hid (bl.map Vs.x = L) := Lib.hid (by have h := HBX.out; rwa [List.take_of_length_le (by have := HML.out; omega)] at h)
            have HB8X : Hid (wx.heap[b8]? = some (.cells #[.int .u8 1, .slice ao no co, .int .u32 0, .int .i64 0, .int .i64 0] 29 (0, 0))) := Lib.hid (HBF.out.mod.heap HB8W.out (fun f => f))
            have t0 := cell_of_row HB8X.out 0
            have t1 := cell_of_row HB8X.out 1
            have t2 := cell_of_row HB8X.out 2
            have t3 := cell_of_row HB8X.out 3
            have t4 := cell_of_row HB8X.out 4
            have z8 := lt_of_block HB8X.out
            simp at t0 t1 t2 t3 t4
            clear HI HB8W
            cases hrun : okRun L ops with
            | some p =>
              have hd := doG_tx_ok HCR.out hrun
              have HD0 : Hid (Calls Tryz.prog 12 #[.pointer (some ⟨w1.heap.size + 1, 0, none⟩), .agg #[.int .u8 1, .slice ao no co, .int .u32 0, .int .i64 0, .int .i64 0]] wx fun e w'' => ∃ av cv nv al cl nl, e = .returned (.agg #[.int .i64 0, .int .i64 0, .slice av nv cv, .slice al nl cl]) ∧ Mod (fun _ => False) w w'') := Lib.hid ((sdo_any _ _ L (txR ops) (.slice ao no co) w wx (HG2.out.keep HBF.out.mod) (HO.out.keep (HG2.out.mod.trans HBF.out.mod)) (show (0 : Nat) < 4294967296 by decide) HE.out HB48.out).mono (by
                rintro e w'' ⟨vv, vl, rfl, hs⟩
                rw [hd]
                obtain ⟨a, c, rfl, -⟩ := hs.vals.rdS.shape
                obtain ⟨a', c', rfl, -⟩ := hs.list.rdS.shape
                exact ⟨a, c, _, a', c', _, rfl, hs.st.mod⟩))
              clear hd hrun
              go_wp2_with (go_at_call 12; go_loud (refine HD0.out.mono ?_; (rintro e w5 ⟨av5, cv5, nv5, al5, cl5, nl5, rfl, hm5⟩); have HM5 := Lib.hid hm5; clear hm5))
              go_ret
              exact ⟨by first | rfl | simp, HM5.out.alloc _⟩
            | none =>
              obtain ⟨kp, z, hkp, hz, hfk, hcut⟩ := tx_cut HCR.out hrun
              have hd := doG_tx_no HCR.out hrun
              rw [hfk] at hd
              simp only at hd
              have HCUT := Lib.hid hcut
              have HD0 : Hid (Calls Tryz.prog 12 #[.pointer (some ⟨w1.heap.size + 1, 0, none⟩), .agg #[.int .u8 1, .slice ao no co, .int .u32 0, .int .i64 0, .int .i64 0]] wx fun e w'' => ∃ av cv al cl nl, e = .returned (.agg #[.int .i64 (z : Int), .int .i64 (kp : Int), .slice av 0 cv, .slice al nl cl]) ∧ GSt w (w1.heap.size + 1) w1.heap.size L w'' ∧ Kept wx w'') := Lib.hid ((sdo_any _ _ L (txR ops) (.slice ao no co) w wx (HG2.out.keep HBF.out.mod) (HO.out.keep (HG2.out.mod.trans HBF.out.mod)) (show (0 : Nat) < 4294967296 by decide) HE.out HB48.out).mono (by
                rintro e w'' ⟨vv, vl, rfl, hs⟩
                have h1 := hs.st; have h2 := hs.vals
                rw [hd] at h1 h2 ⊢
                obtain ⟨a, c, rfl, -⟩ := h2.rdS.shape
                obtain ⟨a', c', rfl, -⟩ := hs.list.rdS.shape
                exact ⟨a, c, a', c', _, rfl, h1, hs.kept⟩))
              rw [← HNO.out] at hkp
              have hz' : ((z : Int) == 0) = false := by simp; omega
              have hk0 : decide ((kp : Int) < 0) = false := decide_eq_false (by omega)
              have hkn : ¬ (no ≤ kp) := by omega
              have HKP := Lib.hid hkp
              clear hcut hd hfk hrun hkp
              go_upto_region 20 with (go_at_call 12; go_loud (refine HD0.out.mono ?_; (rintro e w5 ⟨av5, cv5, al5, cl5, nl5, rfl, hg5, hk5⟩); have HG5 := Lib.hid hg5; have HK5 := Lib.hid hk5; clear hg5 hk5))

              have HBA0 : Hid ((w5.alloc (.cells #[.int .i64 (z : Int), .int .i64 (kp : Int), .slice av5 0 cv5, .slice al5 nl5 cl5] 34)).heap[w5.heap.size]? = some (.cells #[.int .i64 (z : Int), .int .i64 (kp : Int), .slice av5 0 cv5, .slice al5 nl5 cl5] 34 (0, 0))) := Lib.hid (heap_alloc_new' _ _)
              have HM5 : Hid (Mod (fun _ => False) w5 (w5.alloc (.cells #[.int .i64 (z : Int), .int .i64 (kp : Int), .slice av5 0 cv5, .slice al5 nl5 cl5] 34))) := Lib.hid ((Mod.refl _ _).alloc _)
              go_wp2_with (go_at_call 25; go_loud (refine (slist_any _ _ L w _ (HG5.out.keep HM5.out)).mono ?_; (rintro e w7 ⟨vd, rfl, hsd⟩); (obtain ⟨ad, cd, hcd, hcd2, rfl⟩ : ∃ a c, j ≤ c ∧ c ≤ 9223372036854775807 ∧ vd = .slice a j c := (by obtain ⟨a, c, e, h1, h2, _⟩ := hsd.seg.rdS.shape; rw [List.length_map, ← HML.out] at e h1; exact ⟨_, _, h1, h2, e⟩)); have HD := Lib.hid hsd.seg.rdS; have HBA := Lib.hid (hsd.mod.heap HBA0.out (fun f => f)); have HM7 := Lib.hid (HM5.out.trans hsd.mod); have q1 := cell_of_row HBA.out 1; have q2 := cell_of_row HBA.out 2; have zq := lt_of_block HBA.out; simp at q1 q2; clear hsd))
              rw [List.length_map, ← HML.out] at HD
              have HG7 := Lib.hid (HG5.out.keep HM7.out)
              have HBR := Lib.hid ((HK5.out.then HM7.out).lrd HBF.out.la.rd)
              have HB8 : Hid (w7.heap[b8]? = some (.cells #[.int .u8 1, .slice ao no co, .int .u32 0, .int .i64 0, .int .i64 0] 29 (0, 0))) := Lib.hid ((HK5.out.then HM7.out).box HB8X.out)
              clear HB8X HBA0 HM5 HG5 HK5 HBF HG2 HD0 HR2
              obtain ⟨m, hmj⟩ : ∃ m, m = j := ⟨_, rfl⟩
              subst hmj
              clear q1 q2 zq hk0 hkn hz'
              go_loopw [87] (fun i wr => ∃ j : Nat, i = .int .i64 (j : Int) ∧ j ≤ m ∧ Mod (fun _ => False) w7 wr) (fun i _ => m - (intOf i).toNat)
              case atStart => exact ⟨0, rfl, Nat.zero_le _, Mod.refl _ _⟩
              case round =>
                obtain ⟨wy, hwy⟩ : ∃ wy : World, wy = wr := ⟨_, rfl⟩
                subst hwy
                obtain ⟨j, rfl, hj, hmj⟩ := hrel
                have HMJ := Lib.hid hmj
                clear hmj
                by_cases hjm : j < m
                · obtain ⟨x, hx⟩ : ∃ x, L[j]? = some x := ⟨_, List.getElem?_eq_getElem (by rw [← HML.out]; exact hjm)⟩
                  obtain ⟨s, hs⟩ : ∃ s, bl[j]? = some s := ⟨_, List.getElem?_eq_getElem (by rw [HBL.out]; exact hjm)⟩
                  have hsx : s.x = x := by
                    have h := congrArg (fun l => l[j]?) HBX.out
                    simp only [List.getElem?_map, hs, hx, Option.map_some] at h
                    injection h
                  obtain ⟨bi, offi, e0, hbi, r0⟩ := num_ent HD.out (i := j) (x := x.id) (by rw [List.getElem?_map, hx]; rfl) rfl
                  subst e0
                  replace r0 := HMJ.out.cell r0
                  have zbi : bi < wy.heap.size := Nat.lt_of_lt_of_le hbi HMJ.out.size
                  obtain ⟨bs, offs, e1, hbs, p0, p1, p2, p3⟩ := HBR.out.ent hs rfl
                  subst e1
                  replace p0 := HMJ.out.cell p0
                  replace p1 := HMJ.out.cell p1
                  replace p2 := HMJ.out.cell p2
                  replace p3 := HMJ.out.cell p3
                  have zbs : bs < wy.heap.size := Nat.lt_of_lt_of_le hbs HMJ.out.size
                  have HVS := Lib.hid ((HBR.out.at hs).keep HMJ.out)
                  have hxm := List.mem_of_getElem? hx
                  have HVX : Hid (∀ w', Mod (fun _ => False) wy w' → Calls Tryz.prog 14 #[.pointer (some ⟨w1.heap.size + 1, 0, none⟩), .int .u32 (x.id : Int)] w' (Twins w' x)) := Lib.hid (fun w' mm => by
                    have := svertex_any _ _ L x.id w w' (HG7.out.keep (HMJ.out.trans mm)) (by have := (HG7.out.good.each x hxm).id; omega)
                    rwa [tellV_mem HG7.out.good.rise hxm] at this)
                  have HSV : Hid (∀ vp vh w', Mod (fun _ => False) wy w' → VRd w' vp vh x → Calls Tryz.prog 22 #[vtxV x vp vh, vtxV x s.vp s.vh] w' fun e w'' => e = .returned (.bool true) ∧ Mod (fun _ => False) w' w'') := Lib.hid (fun vp vh w' mm hv => vsame_yes x vp vh s.vp s.vh w' hv (by rw [← hsx]; exact HVS.out.keep mm))
                  clear hx hs hxm hbi hbs HVS
                  obtain ⟨sx, svp, svh⟩ := s
                  simp only at hsx p0 p1 p2 p3 HSV
                  subst hsx
                  obtain ⟨id, there, xs, ys⟩ := sx
                  simp only [vtxV] at r0 HVX HSV p0 p1 p2 p3
                  have HKEEP : Hid (∀ w', Mod (fun _ => False) wy w' → (fun w' => w'.cell? ⟨bs, offs + j * 4, none⟩ = some (.int .u32 (id : Int)) ∧ w'.cell? ⟨bs, offs + j * 4 + 1, none⟩ = some (.bool there) ∧ w'.cell? ⟨bs, offs + j * 4 + 2, none⟩ = some svp ∧ w'.cell? ⟨bs, offs + j * 4 + 3, none⟩ = some svh) w') := Lib.hid (fun w' m => ⟨m.cell p0, m.cell p1, m.cell p2, m.cell p3⟩)
                  go_wp2_with fail
                  obtain ⟨k0, k1, k2, k3⟩ := HKEEP.out _ ((Mod.refl (fun _ => False) wy).drew)
                  go_region_held3 (fun w' => w'.cell? ⟨bs, offs + j * 4, none⟩ = some (.int .u32 (id : Int)) ∧ w'.cell? ⟨bs, offs + j * 4 + 1, none⟩ = some (.bool there) ∧ w'.cell? ⟨bs, offs + j * 4 + 2, none⟩ = some svp ∧ w'.cell? ⟨bs, offs + j * 4 + 3, none⟩ = some svh)
                    (first
                      | go_keep
                      | exact HKEEP.out _ N6.out
                      | exact HKEEP.out _ N5.out)
                    ((first
                      | (go_at_call 22; go_loud (refine (HSV.out _ _ _ N5.out HN5.out.rd).mono ?_; (rintro e w6 ⟨rfl, hm6⟩); have N6 : Hid (Mod (fun _ => False) wy w6) := Lib.hid (N5.out.trans hm6); clear hm6))
                      | (go_at_call 14; go_loud (refine (HVX.out _ ((Mod.refl (fun _ => False) wy).drew)).mono ?_; (rintro e w5 ⟨vp5, vh5, rfl, hm5, hn5⟩); have N5 : Hid (Mod (fun _ => False) wy w5) := Lib.hid (((Mod.refl (fun _ => False) wy).drew).trans hm5); have HN5 := Lib.hid hn5; (obtain ⟨a5, c5, n5, rfl⟩ : ∃ a c n, vp5 = .slice a n c := (by obtain ⟨a, c, e, _⟩ := hn5.props.shape; exact ⟨_, _, _, e⟩)); (obtain ⟨a6, c6, n6, rfl⟩ : ∃ a c n, vh5 = .slice a n c := (by obtain ⟨a, c, e, _⟩ := hn5.halves.shape; exact ⟨_, _, _, e⟩)); clear hm5 hn5))))
                  all_goals
                    go_wp2
                    go_roundw
                    case rel => exact ⟨j + 1, by go_num, by omega, HMJ.out.trans N6.out⟩
                    case measure => simp [intOf]; omega
                · skip
                  -- the place of the refused operation
                  have q1 := cell_of_row (HMJ.out.heap HBA.out (fun f => f)) 1
                  have zq := lt_of_block (HMJ.out.heap HBA.out (fun f => f))
                  have hb8 := HMJ.out.heap HB8.out (fun f => f)
                  have t1 := cell_of_row hb8 1
                  have t1f := free_of_row hb8 1
                  have z8 := lt_of_block hb8
                  simp at q1 t1
                  have HMY := Lib.hid (HG7.out.mod.trans HMJ.out)
                  by_cases hk1 : kp = 0
                  · subst hk1
                    go_wp2
                    go_ret
                    exact ⟨by first | rfl | simp, HMY.out⟩
                  · have hk1' : ((kp : Int) == 0) = false := by simp; omega
                    obtain ⟨ac, cc, hsl, hoc⟩ := HO.out.to (k := kp) (by have := HNO.out; have := HKP.out; omega) .i64
                    obtain ⟨hcc, p, hpp⟩ := HCUT.out (by omega)
                    have hsl := hsl wy
                    have HOC := Lib.hid hoc
                    have hd := doG_tx_ok hcc hpp
                    obtain ⟨wz, hwz⟩ : ∃ wz, wz = wy.setCell ⟨b8, 1, none⟩ (.slice ac kp cc) := ⟨_, rfl⟩
                    have hmz : Mod (fun b => b = b8) wy wz := by rw [hwz]; exact (Mod.refl (fun b => b = b8) wy).setCell (p := ⟨b8, 1, none⟩) (fun _ => rfl) _
                    have hgz : GSt w (w1.heap.size + 1) w1.heap.size L wz := (HG7.out.keep HMJ.out).more hmz (fun b e => by have := HL8.out; omega) (fun b e => by subst e; exact ⟨_, _, _, hb8, by decide, by decide⟩)
                    have hbz : wz.heap[b8]? = some (.cells #[.int .u8 1, .slice ac kp cc, .int .u32 0, .int .i64 0, .int .i64 0] 29 (0, 0)) := by rw [hwz]; simpa using row_setCell hb8 1 (.slice ac kp cc)
                    have u0 := cell_of_row hbz 0
                    have u1 := cell_of_row hbz 1
                    have u2 := cell_of_row hbz 2
                    have u3 := cell_of_row hbz 3
                    have u4 := cell_of_row hbz 4
                    have zu := lt_of_block hbz
                    simp at u0 u1 u2 u3 u4
                    have HDZ : Hid (Calls Tryz.prog 12 #[.pointer (some ⟨w1.heap.size + 1, 0, none⟩), .agg #[.int .u8 1, .slice ac kp cc, .int .u32 0, .int .i64 0, .int .i64 0]] wz fun e w'' => ∃ vv vl, e = .returned (.agg #[.int .i64 0, .int .i64 0, vv, vl]) ∧ Mod (fun _ => False) w w'') := Lib.hid ((sdo_any _ _ L (txR (ops.take kp)) (.slice ac kp cc) w wz hgz (hoc.keep (hgz.mod)) (show (0 : Nat) < 4294967296 by decide) HE.out (by have h := HB48.out; have e : (txR (ops.take kp)).ops.length = min kp ops.length := List.length_take; rw [e]; omega)).mono (by
                      rintro e w'' ⟨vv, vl, rfl, hs⟩
                      rw [hd]
                      exact ⟨vv, vl, rfl, hs.st.mod⟩))
                    clear hd hpp hcc hbz hb8 hgz hmz hoc
                    rw [hwz] at u0 u1 u2 u3 u4 zu HDZ
                    clear hwz
                    go_wp2_with (go_at_call 12; go_loud (refine HDZ.out.mono ?_; (rintro e w9 ⟨vv9, vl9, rfl, hm9⟩); have M9 := Lib.hid hm9; have hfe := fld_e 0 (.int .i64 0) vv9 vl9 w9; clear hm9))
                    go_ret
                    exact ⟨by first | rfl | simp, M9.out⟩
      · have hc' : ((cr : Int) != 0) = true := by simp [hc]
        clear hcr
        go_wp2_with (go_at_call 19; go_loud (refine HCK.out.mono ?_; (rintro e wc ⟨rfl, hmc⟩); have HC8 := Lib.hid (HS8.out.trans hmc); clear hmc))
        go_ret
        exact ⟨rfl, HST.out.mod.trans HC8.out⟩
theorem gall_all (v0 v1 : Value) (w : World) (hg : ErrT w) (h0 : InReqs w v0) (h1 : InOps w v1) : Calls Tryz.prog 6 #[v0, v1] w fun e w' => e = .returned (.bool true) ∧ Below w.heap.size w w' := by
  obtain ⟨l, h⟩ := h0
  obtain ⟨ops, ho, hb⟩ := h1
  exact Calls.mono (R := fun e w' => e = .returned (.bool true) ∧ Mod (fun _ => False) w w') (gall_main v0 v1 l ops w h ho hb hg) (fun _ _ ⟨h, m⟩ => ⟨h, m.toBelow (Nat.le_refl _) (fun _ _ f => f)⟩)
end Go.Proofs.YtbgjbikpenefoaaGreatDoor
