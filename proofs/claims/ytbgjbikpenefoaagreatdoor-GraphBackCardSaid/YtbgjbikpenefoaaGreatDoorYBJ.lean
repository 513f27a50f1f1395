/- YBJ: what is needed of it (by shake.py). -/
import Derived.Test.YtbgjbikpenefoaaGreatDoorYBI
import Derived.Test.YtbgjbikpenefoaaGreatDoorYBF

/- YBJ, as far as the seat goes. -/
/- gussetlaw03.GraphBack, walked. (Printed by gen_gback.py.) -/
namespace Go.Proofs.YtbgjbikpenefoaaGreatDoor
set_option linter.unusedVariables false
set_option linter.unusedSimpArgs false
open Go.RowKit Go.Maps
set_option maxRecDepth 100000 in
set_option maxHeartbeats 16000000 in
theorem gback_main (vs0 : Value) (rs : List Qs) (v u : Nat) (hvb : v < 4294967296) (hub : u < 4294967296) (vk : Nat) (vn : Int) (vs : ByteArray) (hvf : (⟨vk, vn, vs⟩ : Val).Fits) (w : World) (hs : QRd w vs0 rs) (hg : ErrT w) :
    Calls Tryz.prog 8 #[vs0, .int .u32 (v : Int), .int .u32 (u : Int), .agg #[.int .u8 (vk : Int), .int .i64 vn, .string vs]] w fun e w' => e = .returned (.bool true) ∧ Mod (fun _ => False) w w' := by
  have HVB := Lib.hid hvb
  have HUB := Lib.hid hub
  have HVF := Lib.hid hvf
  have HAW : Hid (Calls Tryz.prog 10 #[] (w.alloc (.cells #[.int .u8 (vk : Int), .int .i64 vn, .string vs] 44)) fun e w' => e = .returned (.bool true) ∧ Mod (fun _ => False) (w.alloc (.cells #[.int .u8 (vk : Int), .int .i64 vn, .string vs] 44)) w') := Lib.hid (awake_any _ (hg.keep ((Mod.refl (fun _ => False) w).alloc _) (fun f => f)))
  have HM0 : Hid (Mod (fun _ => False) w (w.alloc (.cells #[.int .u8 (vk : Int), .int .i64 vn, .string vs] 44))) := Lib.hid ((Mod.refl _ _).alloc _)
  have HB70 : Hid ((w.alloc (.cells #[.int .u8 (vk : Int), .int .i64 vn, .string vs] 44)).heap[w.heap.size]? = some (.cells #[.int .u8 (vk : Int), .int .i64 vn, .string vs] 44 (0, 0))) := Lib.hid (heap_alloc_new' _ _)
  have HE := Lib.hid hg
  have HRS := Lib.hid hs
  obtain ⟨as_, cs_, rfl, hcs, hcs2, -⟩ := hs.row.shape
  obtain ⟨n, hn⟩ : ∃ n, n = rs.length := ⟨_, rfl⟩
  rw [← hn] at HRS hcs ⊢
  have HN := Lib.hid hn
  clear hs hn hg hvb hub hvf
  go_enter Tryz.func8, Tryz.ntmps8
  go_wp2_with (first
    | (go_at_call 11; refine (snew_any w w1 HM1.out).mono ?_; (rintro e w2 ⟨rfl, hm2, hst, hz2⟩); have HBK0 : Hid (BkAt w (w1.heap.size + 1) w1.heap.size w2.heap.size w.heap.size ⟨vk, vn, vs⟩ [] (w2.alloc (.cells #[.pointer (some ⟨w1.heap.size + 1, 0, none⟩)] 25))) := Lib.hid ⟨hst.keep ((Mod.refl _ _).alloc _), heap_alloc_new' _ _, ((Mod.refl (fun _ => False) w2).alloc _).heap (hm2.heap HB71.out (fun f => f)) (fun f => f)⟩; clear hm2 hst hz2)
    | (go_at_call 10; refine HAW.out.mono ?_; (rintro e w1 ⟨rfl, hm1⟩); have HM1 := Lib.hid (HM0.out.trans hm1); have HB71 := Lib.hid (hm1.heap HB70.out (fun f => f)); clear hm1))
  obtain ⟨b9, hb9⟩ : ∃ b, b = w2.heap.size := ⟨_, rfl⟩
  rw [← hb9] at HBK0 ⊢
  clear hb9 HM0 HB70 HB71
  go_loopw [25] (fun i wr => ∃ k : Nat, i = .int .i64 (k : Int) ∧ k ≤ n ∧ ∃ L, BkAt w (w1.heap.size + 1) w1.heap.size b9 w.heap.size ⟨vk, vn, vs⟩ L wr) (fun i _ => n - (intOf i).toNat)
  case atStart => exact ⟨0, rfl, Nat.zero_le _, _, HBK0.out⟩
  case round =>
    obtain ⟨k, rfl, hk, L, hst⟩ := hrel
    have HBK := Lib.hid hst
    have HST := Lib.hid hst.st
    obtain ⟨k9, z9, -, -, -, -⟩ := hst.pt
    clear hst HBK0
    by_cases hkn : k < n
    · skip
      obtain ⟨q, hq⟩ : ∃ q, rs[k]? = some q := ⟨_, List.getElem?_eq_getElem (by rw [← HN.out]; exact hkn)⟩
      obtain ⟨bl, offl, e0, hbl, r0, r1, r2, r3, r4⟩ := HRS.out.ent hq rfl
      replace r0 := HST.out.mod.cell r0
      replace r1 := HST.out.mod.cell r1
      replace r2 := HST.out.mod.cell r2
      replace r3 := HST.out.mod.cell r3
      replace r4 := HST.out.mod.cell r4
      have zbl : bl < wr.heap.size := Nat.lt_of_lt_of_le hbl HST.out.mod.size
      have HOR := Lib.hid (HRS.out.each q (List.mem_of_getElem? hq))
      have HSM := Lib.hid (HRS.out.small q (List.mem_of_getElem? hq))
      clear hq hbl
      subst e0
      obtain ⟨⟨kind, opq, vq, kk, dd⟩, qo⟩ := q
      obtain ⟨aq, cq, hqe, -⟩ := HOR.out.row.shape
      simp only at hqe HOR r0 r1 r2 r3 r4
      subst hqe
      obtain ⟨nq, hnq⟩ : ∃ n, n = opq.length := ⟨_, rfl⟩
      rw [← hnq] at r1 HOR
      have HMQ : Hid (Mod (fun _ => False) wr (wr.alloc (.cells #[.int .u8 (kind : Int), .slice aq nq cq, .int .u32 (vq : Int), .int .i64 kk, .int .i64 dd] 29))) := Lib.hid ((Mod.refl _ _).alloc _)
      have HDO := Lib.hid (sdo_any (w1.heap.size + 1) w1.heap.size L ⟨kind, opq, vq, kk, dd⟩ (.slice aq nq cq) w (wr.alloc (.cells #[.int .u8 (kind : Int), .slice aq nq cq, .int .u32 (vq : Int), .int .i64 kk, .int .i64 dd] 29)) (HST.out.keep HMQ.out) (HOR.out.keep (HST.out.mod.trans HMQ.out)) HSM.out.fits.v HE.out HSM.out.size)
      simp only [rqV] at HDO
      have HSQ := Lib.hid (HBK.out.keep HMQ.out)
      clear hnq
      by_cases hlim : k < 40
      · have hlim' : (k : Int) < 40 := by omega
        go_wp2_with (go_at_call 12; refine HDO.out.mono ?_; (rintro e w5 ⟨vv, vl, rfl, hsd⟩); have HS5 := Lib.hid ((HBK.out.keep HMQ.out).go hsd.st hsd.kept); (obtain ⟨ze, hze⟩ : ∃ ze, ze = (doG L ⟨kind, opq, vq, kk, dd⟩).2.e := ⟨_, rfl⟩); (obtain ⟨za, hza⟩ : ∃ za, za = (doG L ⟨kind, opq, vq, kk, dd⟩).2.at_ := ⟨_, rfl⟩); rw [← hze, ← hza]; clear hsd hze hza)
        go_roundw
        case rel => exact ⟨k + 1, by go_num, by omega, _, HS5.out⟩
        case measure => simp [intOf]; omega
      · have hlim' : ¬ (k : Int) < 40 := by omega
        go_wp2
        go_roundw
        case rel => exact ⟨k + 1, by go_num, by omega, _, HSQ.out⟩
        case measure => simp [intOf]; omega
    · clear HRS k9 z9
      obtain ⟨m, hm⟩ : ∃ m, m = L.length := ⟨_, rfl⟩
      have HML := Lib.hid hm
      clear hm
      obtain ⟨k9, z9, -, -, -, -⟩ := HBK.out.pt
      go_wp2_with (go_at_call 25; go_loud (refine (slist_any _ _ L w _ HBK.out.st).mono ?_; (rintro e w2 ⟨vi, rfl, hsn⟩); have HS2 := Lib.hid hsn; (obtain ⟨ai, ci, hci, hci2, rfl⟩ : ∃ a c, m ≤ c ∧ c ≤ 9223372036854775807 ∧ vi = .slice a m c := (by obtain ⟨a, c, e, h1, h2, _⟩ := hsn.seg.rdS.shape; rw [List.length_map, ← HML.out] at e h1; exact ⟨_, _, h1, h2, e⟩)); clear hsn))
      have HBK2 := Lib.hid (HBK.out.keep HS2.out.mod)
      have HG2 := Lib.hid HBK2.out.st
      have HR2 := Lib.hid HS2.out.seg.rdS
      rw [List.length_map, ← HML.out] at HR2
      clear HS2 HST k9 z9
      obtain ⟨i0, hi, hz0, hz1, hz2⟩ := info_parts infoVtx
      have HI : Hid (Tryz.prog.info? 40 = some i0 ∧ i0.zero = some (.agg #[.int .u32 0, .bool false, .slice none 0 0, .slice none 0 0]) ∧ i0.size = 4 ∧ i0.bytes = 56) := ⟨hi, hz0, hz1, hz2⟩
      clear hi hz0 hz1 hz2
      have HM40 : Hid (m ≤ 40) := Lib.hid (by have := HG2.out.good.short; have := HML.out; omega)
      go_loopw [39, 12] (fun i u wx => ∃ (j : Nat) (bl : List Vs), i = .int .i64 (j : Int) ∧ j ≤ m ∧ BfAt w2 u bl wx ∧ bl.map Vs.x = L.take j) (fun i _ _ => m - (intOf i).toNat)
      case atStart => exact ⟨0, [], rfl, Nat.zero_le _, BfAt.start _, by simp⟩
      case round =>
        obtain ⟨wx, hwx⟩ : ∃ wx : World, wx = wr := ⟨_, rfl⟩
        subst hwx
        obtain ⟨j, bl, rfl, hj, hbf, hbx⟩ := hrel
        have HBF := Lib.hid hbf
        have HBX := Lib.hid hbx
        have HBL : Hid (bl.length = j) := Lib.hid (by have := congrArg List.length hbx; rw [List.length_map, List.length_take] at this; have := HML.out; omega)
        obtain ⟨ab, cb, hcb, hcb2, hub⟩ : ∃ a c, j ≤ c ∧ c ≤ 9223372036854775807 ∧ _ = Value.slice a j c := by
          obtain ⟨a, c, e, h1, h2, _⟩ := hbf.la.row.rdS.shape
          rw [HBL.out] at e h1
          exact ⟨a, c, h1, h2, e⟩
        subst hub
        clear hbf hbx
        obtain ⟨k9, z9, -, -, -, -⟩ := (HBK2.out.keep HBF.out.mod).pt
        by_cases hjm : j < m
        · obtain ⟨x, hx⟩ : ∃ x, L[j]? = some x := ⟨_, List.getElem?_eq_getElem (by rw [← HML.out]; exact hjm)⟩
          obtain ⟨bi, offi, e0, hbi, r0⟩ := num_ent HR2.out (i := j) (x := x.id) (by rw [List.getElem?_map, hx]; rfl) rfl
          subst e0
          replace r0 := HBF.out.mod.cell r0
          have zbi : bi < wx.heap.size := Nat.lt_of_lt_of_le hbi HBF.out.mod.size
          have hxm := List.mem_of_getElem? hx
          have HVX : Hid (∀ w', Mod (fun _ => False) wx w' → Calls Tryz.prog 14 #[.pointer (some ⟨w1.heap.size + 1, 0, none⟩), .int .u32 (x.id : Int)] w' (Twins w' x)) := Lib.hid (fun w' mm => by
            have := svertex_any _ _ L x.id w w' (HG2.out.keep (HBF.out.mod.trans mm)) (by have := (HG2.out.good.each x hxm).id; omega)
            rwa [tellV_mem HG2.out.good.rise hxm] at this)
          have HTK : Hid (L.take (j + 1) = L.take j ++ [x]) := Lib.hid (by
            obtain ⟨h1, h2⟩ := List.getElem?_eq_some_iff.1 hx
            rw [List.take_succ_eq_append_getElem h1, h2])
          clear hx hbi hxm
          obtain ⟨id, there, xs, ys⟩ := x
          simp only at r0 HVX
          go_wp2_with (first
            | (at_builtin; refine wpList_append_seg rfl (.tmp 43) (.tmp 47) 49 rfl i0 _ 4 56 Tryz.underlying49 HI.out.1 HI.out.2.1 HI.out.2.2.1 HI.out.2.2.2 rfl (by decide) rfl (HBL.out ▸ HB5.out.la.row) _ 1 _ rfl HSR.out (by have := HM40.out; unfold maxLen; omega) (by have := HM40.out; omega) ?_; intro v3 w3 hs3 hg3 ho3; have H3 := Lib.hid (HB5.out.next HV5.out (by rw [HBL.out]; exact hs3) hg3 ho3); (obtain ⟨a3, c3, n3, rfl⟩ : ∃ a c n, v3 = .slice a n c := (by obtain ⟨a, c, e, _⟩ := hs3.shape; exact ⟨_, _, _, e⟩)); clear hs3 hg3 ho3)
            | (go_at_call 14; go_loud (refine (HVX.out _ (Mod.refl _ _)).mono ?_; (rintro e w4 ⟨vp4, vh4, rfl, hm4, hn4⟩); (obtain ⟨a5, c5, n5, rfl⟩ : ∃ a c n, vp4 = .slice a n c := (by obtain ⟨a, c, e, _⟩ := hn4.props.shape; exact ⟨_, _, _, e⟩)); (obtain ⟨a6, c6, n6, rfl⟩ : ∃ a c n, vh4 = .slice a n c := (by obtain ⟨a, c, e, _⟩ := hn4.halves.shape; exact ⟨_, _, _, e⟩)); have HB5 := Lib.hid ((HBF.out.keep hm4).keep ((Mod.refl (fun _ => False) w4).alloc (.cells #[.int .u32 (id : Int), .bool there, .slice a5 n5 c5, .slice a6 n6 c6] 40))); have HV5 := Lib.hid (hn4.vown.mod ((Mod.refl (fun _ => False) w4).alloc (.cells #[.int .u32 (id : Int), .bool there, .slice a5 n5 c5, .slice a6 n6 c6] 40)) ⟨fun _ _ f => f, fun _ _ f => f⟩); have HSR := Lib.hid (src_cells (w := w4) rfl (size := 4) 40 #[.int .u32 (id : Int), .bool there, .slice a5 n5 c5, .slice a6 n6 c6] rfl (by simp [Value.oneCell'])); clear hm4 hn4)))
          go_roundw
          case rel => exact ⟨j + 1, bl ++ [⟨⟨id, there, xs, ys⟩, .slice a5 n5 c5, .slice a6 n6 c6⟩], by go_num, by omega, H3.out, by rw [List.map_append, HBX.out, HTK.out]; rfl⟩
          case measure => simp [intOf]; omega
        · obtain rfl : j = m := by omega
          replace HBX : Hid (bl.map Vs.x = L) := Lib.hid (by have h := HBX.out; rwa [List.take_of_length_le (by have := HML.out; omega)] at h)
          obtain ⟨m, hmj⟩ : ∃ m, m = j := ⟨_, rfl⟩
          subst hmj
          have HLB := Lib.hid HBF.out.la.rd
          replace HBK := Lib.hid (HBK2.out.keep HBF.out.mod)
          clear HI HR2 HBF HBK2

          have HF1 : Hid ((⟨5, v, u, 0, ⟨vk, vn, vs⟩⟩ : Opr).Fits) := Lib.hid ⟨by simp only; omega, by simp only; have := HVB.out; omega, by simp only; have := HUB.out; omega, by simp only; omega, HVF.out⟩
          obtain ⟨k9, z9, k7a, k7b, k7c, z7⟩ := HBK.out.pt
          simp only at k7a k7b k7c
          go_upto_region 17 with fail
          go_cut [69] (fun p wy => p = .bool false ∧ BkAt w (w1.heap.size + 1) w1.heap.size b9 w.heap.size ⟨vk, vn, vs⟩ L wy ∧ Kept wx wy)
          case first =>
            have hun := undo_join HBK.out.st.good v u ⟨vk, vn, vs⟩
            by_cases he1 : (doG L (txR [⟨5, v, u, 0, ⟨vk, vn, vs⟩⟩])).2.e = 0
            · obtain ⟨he2, hl2⟩ := hun he1
              obtain ⟨L1, hL1⟩ : ∃ L1, L1 = (doG L (txR [⟨5, v, u, 0, ⟨vk, vn, vs⟩⟩])).1 := ⟨_, rfl⟩
              have HC1 : Hid (∀ wX, BkAt w (w1.heap.size + 1) w1.heap.size b9 w.heap.size ⟨vk, vn, vs⟩ L wX → Calls Tryz.prog 28 #[.slice (some ⟨wX.heap.size, 0, none⟩) 1 1, .pointer (some ⟨b9, 0, none⟩)] (wX.alloc (.cells #[.int .u8 5, .int .u32 (v : Int), .int .u32 (u : Int), .int .u8 0, .int .u8 (vk : Int), .int .i64 vn, .string vs] 71)) fun e w' => ∃ p av nv cv al nl cl, e = .returned (.agg #[.int .i64 0, .int .i64 p, .slice av nv cv, .slice al nl cl]) ∧ BkAt w (w1.heap.size + 1) w1.heap.size b9 w.heap.size ⟨vk, vn, vs⟩ L1 w' ∧ Kept wX w') := Lib.hid (fun wX h => (btx_lit _ _ b9 w.heap.size ⟨vk, vn, vs⟩ _ ⟨5, v, u, 0, ⟨vk, vn, vs⟩⟩ HF1.out w wX h HE.out).mono (by
                rintro e w' ⟨av, nv, cv, al, nl, cl, rfl, h1, h2⟩
                rw [he1]; rw [← hL1] at h1
                exact ⟨_, av, nv, cv, al, nl, cl, rfl, h1, h2⟩))
              rw [← hL1] at he2 hl2
              have HC2 : Hid (∀ wX, BkAt w (w1.heap.size + 1) w1.heap.size b9 w.heap.size ⟨vk, vn, vs⟩ L1 wX → Calls Tryz.prog 28 #[.slice (some ⟨wX.heap.size, 0, none⟩) 1 1, .pointer (some ⟨b9, 0, none⟩)] (wX.alloc (.cells #[.int .u8 6, .int .u32 (u : Int), .int .u32 (v : Int), .int .u8 0, .int .u8 0, .int .i64 0, .string ⟨#[]⟩] 71)) fun e w' => ∃ p av nv cv al nl cl, e = .returned (.agg #[.int .i64 0, .int .i64 p, .slice av nv cv, .slice al nl cl]) ∧ BkAt w (w1.heap.size + 1) w1.heap.size b9 w.heap.size ⟨vk, vn, vs⟩ L w' ∧ Kept wX w') := Lib.hid (fun wX h => (btx_lit _ _ b9 w.heap.size ⟨vk, vn, vs⟩ _ ⟨6, u, v, 0, noVal⟩ ⟨by simp only; omega, by simp only; have := HUB.out; omega, by simp only; have := HVB.out; omega, by simp only; omega, noValFits⟩ w wX h HE.out).mono (by
                rintro e w' ⟨av, nv, cv, al, nl, cl, rfl, h1, h2⟩
                rw [he2]; rw [hl2] at h1
                exact ⟨_, av, nv, cv, al, nl, cl, rfl, h1, h2⟩))
              clear he1 he2 hl2 hL1 hun
              go_wp2_with (first
                | (have hq := HB4.out; clear hq; go_at_call 28; go_loud (refine (HC2.out _ HB4.out).mono ?_; (rintro e w5 ⟨p5, av5, nv5, cv5, al5, nl5, cl5, rfl, hb5, hk5⟩); have HB5 := Lib.hid hb5; have HK5 := Lib.hid hk5; (obtain ⟨k9_5, z9_5, k7a_5, k7b_5, k7c_5, z7_5⟩ := hb5.pt); simp only at k7a_5 k7b_5 k7c_5; have hfl5 := fld_e 0 (.int .i64 p5) (.slice av5 nv5 cv5) (.slice al5 nl5 cl5) w5; clear hb5 hk5))
                | (go_at_call 28; go_loud (refine (HC1.out _ HBK.out).mono ?_; (rintro e w4 ⟨p4, av4, nv4, cv4, al4, nl4, cl4, rfl, hb4, hk4⟩); have HB4 := Lib.hid hb4; have HK4 := Lib.hid hk4; (obtain ⟨k9_4, z9_4, k7a_4, k7b_4, k7c_4, z7_4⟩ := hb4.pt); simp only at k7a_4 k7b_4 k7c_4; have hfl4 := fld_e 0 (.int .i64 p4) (.slice av4 nv4 cv4) (.slice al4 nl4 cl4) w4; clear hb4 hk4)))
              go_meet
              exact ⟨by first | rfl | simp, HB5.out, HK4.out.trans HK5.out⟩
            · obtain ⟨z1, hz1⟩ : ∃ z, z = (doG L (txR [⟨5, v, u, 0, ⟨vk, vn, vs⟩⟩])).2.e := ⟨_, rfl⟩
              have hs1 := doG_same he1
              have HC1 : Hid (∀ wX, BkAt w (w1.heap.size + 1) w1.heap.size b9 w.heap.size ⟨vk, vn, vs⟩ L wX → Calls Tryz.prog 28 #[.slice (some ⟨wX.heap.size, 0, none⟩) 1 1, .pointer (some ⟨b9, 0, none⟩)] (wX.alloc (.cells #[.int .u8 5, .int .u32 (v : Int), .int .u32 (u : Int), .int .u8 0, .int .u8 (vk : Int), .int .i64 vn, .string vs] 71)) fun e w' => ∃ p av nv cv al nl cl, e = .returned (.agg #[.int .i64 (z1 : Int), .int .i64 p, .slice av nv cv, .slice al nl cl]) ∧ BkAt w (w1.heap.size + 1) w1.heap.size b9 w.heap.size ⟨vk, vn, vs⟩ L w' ∧ Kept wX w') := Lib.hid (fun wX h => (btx_lit _ _ b9 w.heap.size ⟨vk, vn, vs⟩ _ ⟨5, v, u, 0, ⟨vk, vn, vs⟩⟩ HF1.out w wX h HE.out).mono (by
                rintro e w' ⟨av, nv, cv, al, nl, cl, rfl, h1, h2⟩
                rw [← hz1]; rw [hs1] at h1
                exact ⟨_, av, nv, cv, al, nl, cl, rfl, h1, h2⟩))
              have hzz : ((z1 : Int) == 0) = false := by simp; omega
              clear he1 hs1 hz1 hun
              go_wp2_with (go_at_call 28; go_loud (refine (HC1.out _ HBK.out).mono ?_; (rintro e w4 ⟨p4, av4, nv4, cv4, al4, nl4, cl4, rfl, hb4, hk4⟩); have HB4 := Lib.hid hb4; have HK4 := Lib.hid hk4; (obtain ⟨k9_4, z9_4, k7a_4, k7b_4, k7c_4, z7_4⟩ := hb4.pt); simp only at k7a_4 k7b_4 k7c_4; have hfl4 := fld_e (z1 : Int) (.int .i64 p4) (.slice av4 nv4 cv4) (.slice al4 nl4 cl4) w4; clear hb4 hk4))
              go_meet
              exact ⟨by first | rfl | simp, HB4.out, HK4.out⟩

          case rest =>
            obtain ⟨rfl, hbk, hkk⟩ := hcut
            replace HBK := Lib.hid hbk
            replace HLB := Lib.hid (hkk.lrd HLB.out)
            clear hbk hkk
            clear k9 z9 k7a k7b k7c z7
            obtain ⟨wx, hwx⟩ : ∃ wz : World, wz = wc := ⟨_, rfl⟩
            subst hwx
            have HF1 : Hid (∀ ok, ok < 256 → (⟨ok, v, 0, 1, ⟨vk, vn, vs⟩⟩ : Opr).Fits) := Lib.hid (fun ok h => ⟨h, by simp only; have := HVB.out; omega, by simp only; omega, by simp only; omega, HVF.out⟩)
            obtain ⟨x, hx⟩ : ∃ x, x = tellV L v := ⟨_, rfl⟩
            have HVX : Hid (∀ w', Mod (fun _ => False) wx w' → Calls Tryz.prog 14 #[.pointer (some ⟨w1.heap.size + 1, 0, none⟩), .int .u32 (v : Int)] w' (Twins w' x)) := Lib.hid (fun w' mm => by
              have := svertex_any _ _ L v w w' (HBK.out.st.keep mm) HVB.out
              rwa [← hx] at this)
            obtain ⟨hk, hn, hs, hpr⟩ : ∃ hk hn hs, propV x 1 = ⟨hk, hn, hs⟩ := ⟨_, _, _, rfl⟩
            have HPR : Hid (∀ vp vh w', VRd w' vp vh x → Calls Tryz.prog 29 #[vtxV x vp vh, .int .u8 1] w' fun e w'' => e = .returned (.agg #[.int .u8 (hk : Int), .int .i64 hn, .string hs]) ∧ Mod (fun _ => False) w' w'') := Lib.hid (fun vp vh w' hv => by
              have h := dprop_any x vp vh 1 w' hv
              have e : ((entX x.props 1).getD noVal) = ⟨hk, hn, hs⟩ := hpr
              rw [e] at h
              exact h)
            have HUS : Hid (vk ≠ 0 → Undo L ⟨3, v, 0, 1, ⟨vk, vn, vs⟩⟩ ⟨3, v, 0, 1, ⟨hk, hn, hs⟩⟩) := Lib.hid (fun h => by
              have := undo_set HBK.out.st.good v ⟨vk, vn, vs⟩ h
              rw [← hx, hpr] at this
              exact this)
            have HPX := Lib.hid hpr
            clear hx hpr
            obtain ⟨xid, xth, xps, xhs⟩ := x
            simp only [vtxV] at HVX HPR
            obtain ⟨k9, z9, k7a, k7b, k7c, z7⟩ := HBK.out.pt
            simp only at k7a k7b k7c
            go_upto_region 20 with (first
              | (have hq := HN5.out; go_at_call 29; go_loud (refine (HPR.out _ _ _ HN5.out.rd).mono ?_; (rintro e w6 ⟨rfl, hm6⟩); have HM6 := Lib.hid (HM5.out.trans hm6); clear hm6 hq))
              | (go_at_call 14; go_loud (refine (HVX.out _ (Mod.refl _ _)).mono ?_; (rintro e w5 ⟨vp5, vh5, rfl, hm5, hn5⟩); have HM5 := Lib.hid hm5; have HN5 := Lib.hid hn5; (obtain ⟨a5, c5, n5, rfl⟩ : ∃ a c n, vp5 = .slice a n c := (by obtain ⟨a, c, e, _⟩ := hn5.props.shape; exact ⟨_, _, _, e⟩)); (obtain ⟨a6, c6, n6, rfl⟩ : ∃ a c n, vh5 = .slice a n c := (by obtain ⟨a, c, e, _⟩ := hn5.halves.shape; exact ⟨_, _, _, e⟩)); clear hm5 hn5)))
            have HVFT : Hid ((⟨hk, hn, hs⟩ : Val).Fits) := Lib.hid (by rw [← HPX.out]; exact Vx.propFits HN5.out.fits 1)
            have HF2 : Hid (∀ ok, ok < 256 → (⟨ok, v, 0, 1, ⟨hk, hn, hs⟩⟩ : Opr).Fits) := Lib.hid (fun ok h => ⟨h, by simp only; have := HVB.out; omega, by simp only; omega, by simp only; omega, HVFT.out⟩)
            obtain ⟨b16, hb16⟩ : ∃ b, b = w6.heap.size := ⟨_, rfl⟩
            have HMY : Hid (Mod (fun _ => False) wx (w6.alloc (.cells #[.int .u8 (hk : Int), .int .i64 hn, .string hs] 44))) := Lib.hid (HM6.out.alloc _)
            obtain ⟨wy, hwy⟩ : ∃ wy, wy = w6.alloc (.cells #[.int .u8 (hk : Int), .int .i64 hn, .string hs] 44) := ⟨_, rfl⟩
            have HHB : Hid (wy.heap[b16]? = some (.cells #[.int .u8 (hk : Int), .int .i64 hn, .string hs] 44 (0, 0))) := Lib.hid (by rw [hwy, hb16]; exact heap_alloc_new' _ _)
            rw [← hwy] at HMY ⊢
            rw [← hb16]
            replace HBK := Lib.hid (HBK.out.keep HMY.out)
            replace HLB := Lib.hid (HLB.out.keep HMY.out)
            clear hwy hb16 HN5 HM5 HM6 HPR HVX HMY k9 z9 k7a k7b k7c z7
            obtain ⟨wx, hwx⟩ : ∃ wx, wx = wy := ⟨_, rfl⟩
            subst hwx
            obtain ⟨k9, z9, k7a, k7b, k7c, z7⟩ := HBK.out.pt
            simp only at k7a k7b k7c
            go_upto_region 20 with fail
            go_cut [96] (fun p wy => p = .bool false ∧ BkAt w (w1.heap.size + 1) w1.heap.size b9 w.heap.size ⟨vk, vn, vs⟩ L wy ∧ Kept wx wy)
            case first =>
              by_cases hvk : vk = 0
              · subst hvk
                go_wp2
                go_meet
                exact ⟨by first | rfl | simp, HBK.out, Kept.refl _⟩
              · have hvk' : ((vk : Int) != 0) = true := by simp [hvk]
                have hun := HUS.out hvk
                by_cases he1 : (doG L (txR [⟨3, v, 0, 1, ⟨vk, vn, vs⟩⟩])).2.e = 0
                · obtain ⟨he2, hl2⟩ := hun he1
                  obtain ⟨L1, hL1⟩ : ∃ L1, L1 = (doG L (txR [⟨3, v, 0, 1, ⟨vk, vn, vs⟩⟩])).1 := ⟨_, rfl⟩
                  have HC1 : Hid (∀ wX, BkAt w (w1.heap.size + 1) w1.heap.size b9 w.heap.size ⟨vk, vn, vs⟩ L wX → Calls Tryz.prog 28 #[.slice (some ⟨wX.heap.size, 0, none⟩) 1 1, .pointer (some ⟨b9, 0, none⟩)] (wX.alloc (.cells #[.int .u8 3, .int .u32 (v : Int), .int .u32 0, .int .u8 1, .int .u8 (vk : Int), .int .i64 vn, .string vs] 71)) fun e w' => ∃ p av nv cv al nl cl, e = .returned (.agg #[.int .i64 0, .int .i64 p, .slice av nv cv, .slice al nl cl]) ∧ BkAt w (w1.heap.size + 1) w1.heap.size b9 w.heap.size ⟨vk, vn, vs⟩ L1 w' ∧ Kept wX w') := Lib.hid (fun wX h => (btx_lit _ _ b9 w.heap.size ⟨vk, vn, vs⟩ _ ⟨3, v, 0, 1, ⟨vk, vn, vs⟩⟩ (HF1.out 3 (by decide)) w wX h HE.out).mono (by
                    rintro e w' ⟨av, nv, cv, al, nl, cl, rfl, h1, h2⟩
                    rw [he1]; rw [← hL1] at h1
                    exact ⟨_, av, nv, cv, al, nl, cl, rfl, h1, h2⟩))
                  rw [← hL1] at he2 hl2
                  have HC2 : Hid (∀ wX, BkAt w (w1.heap.size + 1) w1.heap.size b9 w.heap.size ⟨vk, vn, vs⟩ L1 wX → Calls Tryz.prog 28 #[.slice (some ⟨wX.heap.size, 0, none⟩) 1 1, .pointer (some ⟨b9, 0, none⟩)] (wX.alloc (.cells #[.int .u8 3, .int .u32 (v : Int), .int .u32 0, .int .u8 1, .int .u8 (hk : Int), .int .i64 hn, .string hs] 71)) fun e w' => ∃ p av nv cv al nl cl, e = .returned (.agg #[.int .i64 0, .int .i64 p, .slice av nv cv, .slice al nl cl]) ∧ BkAt w (w1.heap.size + 1) w1.heap.size b9 w.heap.size ⟨vk, vn, vs⟩ L w' ∧ Kept wX w') := Lib.hid (fun wX h => (btx_lit _ _ b9 w.heap.size ⟨vk, vn, vs⟩ _ ⟨3, v, 0, 1, ⟨hk, hn, hs⟩⟩ (HF2.out 3 (by decide)) w wX h HE.out).mono (by
                    rintro e w' ⟨av, nv, cv, al, nl, cl, rfl, h1, h2⟩
                    rw [he2]; rw [hl2] at h1
                    exact ⟨_, av, nv, cv, al, nl, cl, rfl, h1, h2⟩))
                  clear he1 he2 hl2 hL1 hun
                  go_wp2_with (first
                    | (have hq := HB4.out; clear hq; go_at_call 28; go_loud (refine (HC2.out _ HB4.out).mono ?_; (rintro e w5 ⟨p5, av5, nv5, cv5, al5, nl5, cl5, rfl, hb5, hk5⟩); have HB5 := Lib.hid hb5; have HK5 := Lib.hid hk5; (obtain ⟨k9_5, z9_5, k7a_5, k7b_5, k7c_5, z7_5⟩ := hb5.pt); simp only at k7a_5 k7b_5 k7c_5; have hfl5 := fld_e 0 (.int .i64 p5) (.slice av5 nv5 cv5) (.slice al5 nl5 cl5) w5; clear hb5 hk5))
                    | (go_at_call 28; go_loud (refine (HC1.out _ HBK.out).mono ?_; (rintro e w4 ⟨p4, av4, nv4, cv4, al4, nl4, cl4, rfl, hb4, hk4⟩); have HB4 := Lib.hid hb4; have HK4 := Lib.hid hk4; (obtain ⟨k9_4, z9_4, k7a_4, k7b_4, k7c_4, z7_4⟩ := hb4.pt); simp only at k7a_4 k7b_4 k7c_4; have hh4 := hk4.box HHB.out; have HH4 := Lib.hid hh4; have j0 := cell_of_row hh4 0; have j1 := cell_of_row hh4 1; have j2 := cell_of_row hh4 2; have zj := lt_of_block hh4; simp at j0 j1 j2; clear hh4; have hfl4 := fld_e 0 (.int .i64 p4) (.slice av4 nv4 cv4) (.slice al4 nl4 cl4) w4; clear hb4 hk4)))
                  go_meet
                  exact ⟨by first | rfl | simp, HB5.out, HK4.out.trans HK5.out⟩
                · obtain ⟨z1, hz1⟩ : ∃ z, z = (doG L (txR [⟨3, v, 0, 1, ⟨vk, vn, vs⟩⟩])).2.e := ⟨_, rfl⟩
                  have hs1 := doG_same he1
                  have HC1 : Hid (∀ wX, BkAt w (w1.heap.size + 1) w1.heap.size b9 w.heap.size ⟨vk, vn, vs⟩ L wX → Calls Tryz.prog 28 #[.slice (some ⟨wX.heap.size, 0, none⟩) 1 1, .pointer (some ⟨b9, 0, none⟩)] (wX.alloc (.cells #[.int .u8 3, .int .u32 (v : Int), .int .u32 0, .int .u8 1, .int .u8 (vk : Int), .int .i64 vn, .string vs] 71)) fun e w' => ∃ p av nv cv al nl cl, e = .returned (.agg #[.int .i64 (z1 : Int), .int .i64 p, .slice av nv cv, .slice al nl cl]) ∧ BkAt w (w1.heap.size + 1) w1.heap.size b9 w.heap.size ⟨vk, vn, vs⟩ L w' ∧ Kept wX w') := Lib.hid (fun wX h => (btx_lit _ _ b9 w.heap.size ⟨vk, vn, vs⟩ _ ⟨3, v, 0, 1, ⟨vk, vn, vs⟩⟩ (HF1.out 3 (by decide)) w wX h HE.out).mono (by
                    rintro e w' ⟨av, nv, cv, al, nl, cl, rfl, h1, h2⟩
                    rw [← hz1]; rw [hs1] at h1
                    exact ⟨_, av, nv, cv, al, nl, cl, rfl, h1, h2⟩))
                  have hzz : ((z1 : Int) == 0) = false := by simp; omega
                  clear he1 hs1 hz1 hun
                  go_wp2_with (go_at_call 28; go_loud (refine (HC1.out _ HBK.out).mono ?_; (rintro e w4 ⟨p4, av4, nv4, cv4, al4, nl4, cl4, rfl, hb4, hk4⟩); have HB4 := Lib.hid hb4; have HK4 := Lib.hid hk4; (obtain ⟨k9_4, z9_4, k7a_4, k7b_4, k7c_4, z7_4⟩ := hb4.pt); simp only at k7a_4 k7b_4 k7c_4; have hh4 := hk4.box HHB.out; have HH4 := Lib.hid hh4; have j0 := cell_of_row hh4 0; have j1 := cell_of_row hh4 1; have j2 := cell_of_row hh4 2; have zj := lt_of_block hh4; simp at j0 j1 j2; clear hh4; have hfl4 := fld_e (z1 : Int) (.int .i64 p4) (.slice av4 nv4 cv4) (.slice al4 nl4 cl4) w4; clear hb4 hk4))
                  go_meet
                  exact ⟨by first | rfl | simp, HB4.out, HK4.out⟩

            case rest =>
              obtain ⟨rfl, hbk, hkk⟩ := hcut
              replace HBK := Lib.hid hbk
              replace HLB := Lib.hid (hkk.lrd HLB.out)
              clear hbk hkk
              clear k9 z9 k7a k7b k7c z7
              obtain ⟨wx, hwx⟩ : ∃ wz : World, wz = wc := ⟨_, rfl⟩
              subst hwx
              obtain ⟨k9, z9, k7a, k7b, k7c, z7⟩ := HBK.out.pt
              simp only at k7a k7b k7c
              go_upto_region 22 with fail
              go_cut [110] (fun p wy => p = .bool false ∧ BkAt w (w1.heap.size + 1) w1.heap.size b9 w.heap.size ⟨vk, vn, vs⟩ L wy ∧ Kept wx wy)
              case first =>
                have hun := undo_add HBK.out.st.good
                by_cases he1 : (doG L (txR [⟨1, 40, 0, 0, noVal⟩])).2.e = 0
                · obtain ⟨he2, hl2⟩ := hun he1
                  obtain ⟨L1, hL1⟩ : ∃ L1, L1 = (doG L (txR [⟨1, 40, 0, 0, noVal⟩])).1 := ⟨_, rfl⟩
                  have HC1 : Hid (∀ wX, BkAt w (w1.heap.size + 1) w1.heap.size b9 w.heap.size ⟨vk, vn, vs⟩ L wX → Calls Tryz.prog 28 #[.slice (some ⟨wX.heap.size, 0, none⟩) 1 1, .pointer (some ⟨b9, 0, none⟩)] (wX.alloc (.cells #[.int .u8 1, .int .u32 40, .int .u32 0, .int .u8 0, .int .u8 0, .int .i64 0, .string ⟨#[]⟩] 71)) fun e w' => ∃ p av nv cv al nl cl, e = .returned (.agg #[.int .i64 0, .int .i64 p, .slice av nv cv, .slice al nl cl]) ∧ BkAt w (w1.heap.size + 1) w1.heap.size b9 w.heap.size ⟨vk, vn, vs⟩ L1 w' ∧ Kept wX w') := Lib.hid (fun wX h => (btx_lit _ _ b9 w.heap.size ⟨vk, vn, vs⟩ _ ⟨1, 40, 0, 0, noVal⟩ ⟨by decide, by decide, by decide, by decide, noValFits⟩ w wX h HE.out).mono (by
                    rintro e w' ⟨av, nv, cv, al, nl, cl, rfl, h1, h2⟩
                    rw [he1]; rw [← hL1] at h1
                    exact ⟨_, av, nv, cv, al, nl, cl, rfl, h1, h2⟩))
                  rw [← hL1] at he2 hl2
                  have HC2 : Hid (∀ wX, BkAt w (w1.heap.size + 1) w1.heap.size b9 w.heap.size ⟨vk, vn, vs⟩ L1 wX → Calls Tryz.prog 28 #[.slice (some ⟨wX.heap.size, 0, none⟩) 1 1, .pointer (some ⟨b9, 0, none⟩)] (wX.alloc (.cells #[.int .u8 2, .int .u32 40, .int .u32 0, .int .u8 0, .int .u8 0, .int .i64 0, .string ⟨#[]⟩] 71)) fun e w' => ∃ p av nv cv al nl cl, e = .returned (.agg #[.int .i64 0, .int .i64 p, .slice av nv cv, .slice al nl cl]) ∧ BkAt w (w1.heap.size + 1) w1.heap.size b9 w.heap.size ⟨vk, vn, vs⟩ L w' ∧ Kept wX w') := Lib.hid (fun wX h => (btx_lit _ _ b9 w.heap.size ⟨vk, vn, vs⟩ _ ⟨2, 40, 0, 0, noVal⟩ ⟨by decide, by decide, by decide, by decide, noValFits⟩ w wX h HE.out).mono (by
                    rintro e w' ⟨av, nv, cv, al, nl, cl, rfl, h1, h2⟩
                    rw [he2]; rw [hl2] at h1
                    exact ⟨_, av, nv, cv, al, nl, cl, rfl, h1, h2⟩))
                  clear he1 he2 hl2 hL1 hun
                  go_wp2_with (first
                    | (have hq := HB4.out; clear hq; go_at_call 28; go_loud (refine (HC2.out _ HB4.out).mono ?_; (rintro e w5 ⟨p5, av5, nv5, cv5, al5, nl5, cl5, rfl, hb5, hk5⟩); have HB5 := Lib.hid hb5; have HK5 := Lib.hid hk5; (obtain ⟨k9_5, z9_5, k7a_5, k7b_5, k7c_5, z7_5⟩ := hb5.pt); simp only at k7a_5 k7b_5 k7c_5; have hfl5 := fld_e 0 (.int .i64 p5) (.slice av5 nv5 cv5) (.slice al5 nl5 cl5) w5; clear hb5 hk5))
                    | (go_at_call 28; go_loud (refine (HC1.out _ HBK.out).mono ?_; (rintro e w4 ⟨p4, av4, nv4, cv4, al4, nl4, cl4, rfl, hb4, hk4⟩); have HB4 := Lib.hid hb4; have HK4 := Lib.hid hk4; (obtain ⟨k9_4, z9_4, k7a_4, k7b_4, k7c_4, z7_4⟩ := hb4.pt); simp only at k7a_4 k7b_4 k7c_4; have hfl4 := fld_e 0 (.int .i64 p4) (.slice av4 nv4 cv4) (.slice al4 nl4 cl4) w4; clear hb4 hk4)))
                  go_meet
                  exact ⟨by first | rfl | simp, HB5.out, HK4.out.trans HK5.out⟩
                · obtain ⟨z1, hz1⟩ : ∃ z, z = (doG L (txR [⟨1, 40, 0, 0, noVal⟩])).2.e := ⟨_, rfl⟩
                  have hs1 := doG_same he1
                  have HC1 : Hid (∀ wX, BkAt w (w1.heap.size + 1) w1.heap.size b9 w.heap.size ⟨vk, vn, vs⟩ L wX → Calls Tryz.prog 28 #[.slice (some ⟨wX.heap.size, 0, none⟩) 1 1, .pointer (some ⟨b9, 0, none⟩)] (wX.alloc (.cells #[.int .u8 1, .int .u32 40, .int .u32 0, .int .u8 0, .int .u8 0, .int .i64 0, .string ⟨#[]⟩] 71)) fun e w' => ∃ p av nv cv al nl cl, e = .returned (.agg #[.int .i64 (z1 : Int), .int .i64 p, .slice av nv cv, .slice al nl cl]) ∧ BkAt w (w1.heap.size + 1) w1.heap.size b9 w.heap.size ⟨vk, vn, vs⟩ L w' ∧ Kept wX w') := Lib.hid (fun wX h => (btx_lit _ _ b9 w.heap.size ⟨vk, vn, vs⟩ _ ⟨1, 40, 0, 0, noVal⟩ ⟨by decide, by decide, by decide, by decide, noValFits⟩ w wX h HE.out).mono (by
                    rintro e w' ⟨av, nv, cv, al, nl, cl, rfl, h1, h2⟩
                    rw [← hz1]; rw [hs1] at h1
                    exact ⟨_, av, nv, cv, al, nl, cl, rfl, h1, h2⟩))
                  have hzz : ((z1 : Int) == 0) = false := by simp; omega
                  clear he1 hs1 hz1 hun
                  go_wp2_with (go_at_call 28; go_loud (refine (HC1.out _ HBK.out).mono ?_; (rintro e w4 ⟨p4, av4, nv4, cv4, al4, nl4, cl4, rfl, hb4, hk4⟩); have HB4 := Lib.hid hb4; have HK4 := Lib.hid hk4; (obtain ⟨k9_4, z9_4, k7a_4, k7b_4, k7c_4, z7_4⟩ := hb4.pt); simp only at k7a_4 k7b_4 k7c_4; have hfl4 := fld_e (z1 : Int) (.int .i64 p4) (.slice av4 nv4 cv4) (.slice al4 nl4 cl4) w4; clear hb4 hk4))
                  go_meet
                  exact ⟨by first | rfl | simp, HB4.out, HK4.out⟩

              case rest =>
                obtain ⟨rfl, hbk, hkk⟩ := hcut
                replace HBK := Lib.hid hbk
                replace HLB := Lib.hid (hkk.lrd HLB.out)
                clear hbk hkk
                clear k9 z9 k7a k7b k7c z7
                obtain ⟨wx, hwx⟩ : ∃ wz : World, wz = wc := ⟨_, rfl⟩
                subst hwx
                obtain ⟨k9, z9, -, -, -, -⟩ := HBK.out.pt
                go_wp2_with (go_at_call 25; go_loud (refine (slist_any _ _ L w _ HBK.out.st).mono ?_; (rintro e w7 ⟨vd, rfl, hsd⟩); (obtain ⟨ad, cd, hcd, hcd2, rfl⟩ : ∃ a c, m ≤ c ∧ c ≤ 9223372036854775807 ∧ vd = .slice a m c := (by obtain ⟨a, c, e, h1, h2, _⟩ := hsd.seg.rdS.shape; rw [List.length_map, ← HML.out] at e h1; exact ⟨_, _, h1, h2, e⟩)); have HD := Lib.hid hsd.seg.rdS; have HM7 := Lib.hid hsd.mod; clear hsd))
                rw [List.length_map, ← HML.out] at HD
                have HG7 := Lib.hid (HBK.out.st.keep HM7.out)
                have HBR := Lib.hid (HLB.out.keep HM7.out)
                have HN9 := Lib.hid (HM7.out.heap HBK.out.nine (fun f => f))
                clear HBK HLB k9 z9
                go_loopw [120] (fun i wr => ∃ j : Nat, i = .int .i64 (j : Int) ∧ j ≤ m ∧ Mod (fun _ => False) w7 wr) (fun i _ => m - (intOf i).toNat)
                case atStart => exact ⟨0, rfl, Nat.zero_le _, Mod.refl _ _⟩
                case round =>
                  obtain ⟨wy, hwy⟩ : ∃ wy : World, wy = wr := ⟨_, rfl⟩
                  subst hwy
                  obtain ⟨j, rfl, hj, hmj⟩ := hrel
                  have HMJ := Lib.hid hmj
                  clear hmj
                  by_cases hjm : j < m
                  · obtain ⟨x, hx⟩ : ∃ x, L[j]? = some x := ⟨_, List.getElem?_eq_getElem (by rw [← HML.out]; exact hjm)⟩
                    obtain ⟨s, hs⟩ : ∃ s, bl[j]? = some s := ⟨_, List.getElem?_eq_getElem (by rw [HBL.out]; exact hjm)⟩
                    have hsx : s.x = x := by
                      have h := congrArg (fun l => l[j]?) HBX.out
                      simp only [List.getElem?_map, hs, hx, Option.map_some] at h
                      injection h
                    obtain ⟨bi, offi, e0, hbi, r0⟩ := num_ent HD.out (i := j) (x := x.id) (by rw [List.getElem?_map, hx]; rfl) rfl
                    subst e0
                    replace r0 := HMJ.out.cell r0
                    have zbi : bi < wy.heap.size := Nat.lt_of_lt_of_le hbi HMJ.out.size
                    obtain ⟨bs, offs, e1, hbs, p0, p1, p2, p3⟩ := HBR.out.ent hs rfl
                    subst e1
                    replace p0 := HMJ.out.cell p0
                    replace p1 := HMJ.out.cell p1
                    replace p2 := HMJ.out.cell p2
                    replace p3 := HMJ.out.cell p3
                    have zbs : bs < wy.heap.size := Nat.lt_of_lt_of_le hbs HMJ.out.size
                    have HVS := Lib.hid ((HBR.out.at hs).keep HMJ.out)
                    have hxm := List.mem_of_getElem? hx
                    have c9 := cell_of_row (HMJ.out.heap HN9.out (fun f => f)) 0
                    have z9 := lt_of_block (HMJ.out.heap HN9.out (fun f => f))
                    simp at c9
                    have HVX : Hid (∀ w', Mod (fun _ => False) wy w' → Calls Tryz.prog 14 #[.pointer (some ⟨w1.heap.size + 1, 0, none⟩), .int .u32 (x.id : Int)] w' (Twins w' x)) := Lib.hid (fun w' mm => by
                      have := svertex_any _ _ L x.id w w' (HG7.out.keep (HMJ.out.trans mm)) (by have := (HG7.out.good.each x hxm).id; omega)
                      rwa [tellV_mem HG7.out.good.rise hxm] at this)
                    have HSV : Hid (∀ vp vh w', Mod (fun _ => False) wy w' → VRd w' vp vh x → Calls Tryz.prog 22 #[vtxV x vp vh, vtxV x s.vp s.vh] w' fun e w'' => e = .returned (.bool true) ∧ Mod (fun _ => False) w' w'') := Lib.hid (fun vp vh w' mm hv => vsame_yes x vp vh s.vp s.vh w' hv (by rw [← hsx]; exact HVS.out.keep mm))
                    clear hx hs hxm hbi hbs HVS
                    obtain ⟨sx, svp, svh⟩ := s
                    simp only at hsx p0 p1 p2 p3 HSV
                    subst hsx
                    obtain ⟨id, there, xs, ys⟩ := sx
                    simp only [vtxV] at r0 HVX HSV p0 p1 p2 p3
                    have HKEEP : Hid (∀ w', Mod (fun _ => False) wy w' → (fun w' => w'.cell? ⟨bs, offs + j * 4, none⟩ = some (.int .u32 (id : Int)) ∧ w'.cell? ⟨bs, offs + j * 4 + 1, none⟩ = some (.bool there) ∧ w'.cell? ⟨bs, offs + j * 4 + 2, none⟩ = some svp ∧ w'.cell? ⟨bs, offs + j * 4 + 3, none⟩ = some svh ∧ w'.cell? ⟨b9, 0, none⟩ = some (.pointer (some ⟨w1.heap.size + 1, 0, none⟩))) w') := Lib.hid (fun w' m => ⟨m.cell p0, m.cell p1, m.cell p2, m.cell p3, m.cell c9⟩)
                    go_wp2_with fail
                    obtain ⟨k0, k1, k2, k3, k4⟩ := HKEEP.out _ ((Mod.refl (fun _ => False) wy).drew)
                    go_region_held3 (fun w' => w'.cell? ⟨bs, offs + j * 4, none⟩ = some (.int .u32 (id : Int)) ∧ w'.cell? ⟨bs, offs + j * 4 + 1, none⟩ = some (.bool there) ∧ w'.cell? ⟨bs, offs + j * 4 + 2, none⟩ = some svp ∧ w'.cell? ⟨bs, offs + j * 4 + 3, none⟩ = some svh ∧ w'.cell? ⟨b9, 0, none⟩ = some (.pointer (some ⟨w1.heap.size + 1, 0, none⟩)))
                      (first
                        | go_keep
                        | exact HKEEP.out _ N6.out
                        | exact HKEEP.out _ N5.out)
                      ((first
                        | (go_at_call 22; go_loud (refine (HSV.out _ _ _ N5.out HN5.out.rd).mono ?_; (rintro e w6 ⟨rfl, hm6⟩); have N6 : Hid (Mod (fun _ => False) wy w6) := Lib.hid (N5.out.trans hm6); clear hm6))
                        | (go_at_call 14; go_loud (refine (HVX.out _ ((Mod.refl (fun _ => False) wy).drew)).mono ?_; (rintro e w5 ⟨vp5, vh5, rfl, hm5, hn5⟩); have N5 : Hid (Mod (fun _ => False) wy w5) := Lib.hid (((Mod.refl (fun _ => False) wy).drew).trans hm5); have HN5 := Lib.hid hn5; (obtain ⟨a5, c5, n5, rfl⟩ : ∃ a c n, vp5 = .slice a n c := (by obtain ⟨a, c, e, _⟩ := hn5.props.shape; exact ⟨_, _, _, e⟩)); (obtain ⟨a6, c6, n6, rfl⟩ : ∃ a c n, vh5 = .slice a n c := (by obtain ⟨a, c, e, _⟩ := hn5.halves.shape; exact ⟨_, _, _, e⟩)); clear hm5 hn5))))
                    all_goals
                      go_wp2
                      go_roundw
                      case rel => exact ⟨j + 1, by go_num, by omega, HMJ.out.trans N6.out⟩
                      case measure => simp [intOf]; omega
                  · skip
                    go_wp2
                    go_ret
                    exact ⟨rfl, HG7.out.mod.trans HMJ.out⟩
def InVal (W : World) (v : Value) : Prop := ∃ vk vn vs, v = .agg #[.int .u8 ((vk : Nat) : Int), .int .i64 vn, .string vs] ∧ (⟨vk, vn, vs⟩ : Val).Fits
section
open Go.ChangeShapes Go.WideShapes Go.ChangeAt
variable {H : Type} {enc : TypeId × Value → H} {W : World} {base : Nat} {v : Value} {d : DataW H} {p : List MemPlace}
set_option maxRecDepth 100000 in
theorem in_value (hv : Value.okWide Tryz.prog W .any base 44 v) (h : DataW.Trod enc Tryz.prog W 0 (fun _ => true) true 44 v d p) : InVal W v := by
  obtain ⟨cs, rfl, hl⟩ := okWide_struct Tryz.underlying44 hv
  obtain ⟨fuel, hf⟩ := h
  have hc : Tryz.prog.cellsOf 44 = 3 := by kernel_rfl
  obtain ⟨q, e, g⟩ := in_val fuel cs.toList (d, p) (by have := hl; simp only [hc] at this; simpa using this) (by simpa [Value.cells] using hf)
  refine ⟨q.k, q.n, q.s, ?_, g⟩
  have : cs = #[.int .u8 (q.k : Int), .int .i64 q.n, .string q.s] := by rw [← Array.toList_inj, e]
  rw [this]
end
theorem gback_all (v0 v1 v2 v3 : Value) (w : World) (hg : ErrT w) (h0 : InReqs w v0) (h1 : InU32 w v1) (h2 : InU32 w v2) (h3 : InVal w v3) : Calls Tryz.prog 8 #[v0, v1, v2, v3] w fun e w' => e = .returned (.bool true) ∧ Below w.heap.size w w' := by
  obtain ⟨l, h⟩ := h0
  obtain ⟨k, rfl, hk⟩ := h1
  obtain ⟨b, rfl, hb⟩ := h2
  obtain ⟨vk, vn, vs, rfl, hv⟩ := h3
  exact Calls.mono (R := fun e w' => e = .returned (.bool true) ∧ Mod (fun _ => False) w w') (gback_main v0 l k b hk hb vk vn vs hv w h hg) (fun _ _ ⟨h, m⟩ => ⟨h, m.toBelow (Nat.le_refl _) (fun _ _ f => f)⟩)
end Go.Proofs.YtbgjbikpenefoaaGreatDoor
