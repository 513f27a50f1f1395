/- YBL: what is needed of it (by shake.py). -/
import Derived.Test.YtbgjbikpenefoaaGreatDoorYBK
import Derived.Test.YtbgjbikpenefoaaGreatDoorYBC

/- YBL, as far as the seat goes. -/
/- gussetlaw03.GraphParts, walked. (Printed by gen_gparts.py.) -/
namespace Go.Proofs.YtbgjbikpenefoaaGreatDoor
set_option linter.unusedVariables false
set_option linter.unusedSimpArgs false
open Go.RowKit Go.Maps
set_option maxRecDepth 100000 in
set_option maxHeartbeats 16000000 in
theorem gparts_main (vs0 vo : Value) (rs : List Qs) (ops : List Opr) (w : World) (hs : QRd w vs0 rs) (ho : ORd w vo ops) (h48 : ops.length * 48 ≤ 140737488355328) (hg : ErrT w) :
    Calls Tryz.prog 7 #[vs0, vo] w fun e w' => e = .returned (.bool true) ∧ Mod (fun _ => False) w w' := by
  have HB48 := Lib.hid h48
  obtain ⟨ao, co, rfl, hco, hco2, -⟩ := ho.row.shape
  obtain ⟨no, hno⟩ : ∃ n, n = ops.length := ⟨_, rfl⟩
  have HNO := Lib.hid hno
  rw [← hno] at ho hco ⊢
  have HO := Lib.hid ho
  clear h48 ho hno
  have HAW := Lib.hid (awake_any w hg)
  have HE := Lib.hid hg
  have HRS := Lib.hid hs
  obtain ⟨as_, cs_, rfl, hcs, hcs2, -⟩ := hs.row.shape
  obtain ⟨n, hn⟩ : ∃ n, n = rs.length := ⟨_, rfl⟩
  rw [← hn] at HRS hcs ⊢
  have HN := Lib.hid hn
  clear hs hn hg
  go_enter Tryz.func7, Tryz.ntmps7
  go_wp2_with (first
    | (have hq := HST1.out; go_at_call 11; refine (new2_any w w2 _ _ HST1.out HZ2.out).mono ?_; (rintro e w3 ⟨rfl, hg3⟩); have HG0 := Lib.hid hg3; clear hg3 hq)
    | (go_at_call 11; refine (snew_any w w1 HM1.out).mono ?_; (rintro e w2 ⟨rfl, hm2, hst, hz2⟩); have HST1 := Lib.hid hst; have HZ2 := Lib.hid hz2; clear hm2 hst hz2)
    | (go_at_call 10; refine HAW.out.mono ?_; (rintro e w1 ⟨rfl, hm1⟩); have HM1 := Lib.hid hm1; clear hm1))
  go_loopw [23] (fun i wr => ∃ k : Nat, i = .int .i64 (k : Int) ∧ k ≤ n ∧ ∃ L, G2 w (w1.heap.size + 1) w1.heap.size (w2.heap.size + 1) w2.heap.size L L wr) (fun i _ => n - (intOf i).toNat)
  case atStart => exact ⟨0, rfl, Nat.zero_le _, _, HG0.out⟩
  case round =>
    obtain ⟨k, rfl, hk, L, hst⟩ := hrel
    have HT2 := Lib.hid hst
    have HST := Lib.hid hst.a
    clear hst HG0
    by_cases hkn : k < n
    · skip
      obtain ⟨q, hq⟩ : ∃ q, rs[k]? = some q := ⟨_, List.getElem?_eq_getElem (by rw [← HN.out]; exact hkn)⟩
      obtain ⟨bl, offl, e0, hbl, r0, r1, r2, r3, r4⟩ := HRS.out.ent hq rfl
      replace r0 := HST.out.mod.cell r0
      replace r1 := HST.out.mod.cell r1
      replace r2 := HST.out.mod.cell r2
      replace r3 := HST.out.mod.cell r3
      replace r4 := HST.out.mod.cell r4
      have zbl : bl < wr.heap.size := Nat.lt_of_lt_of_le hbl HST.out.mod.size
      have HOR := Lib.hid (HRS.out.each q (List.mem_of_getElem? hq))
      have HSM := Lib.hid (HRS.out.small q (List.mem_of_getElem? hq))
      clear hq hbl
      subst e0
      obtain ⟨⟨kind, opq, vq, kk, dd⟩, qo⟩ := q
      obtain ⟨aq, cq, hqe, -⟩ := HOR.out.row.shape
      simp only at hqe HOR r0 r1 r2 r3 r4
      subst hqe
      obtain ⟨nq, hnq⟩ : ∃ n, n = opq.length := ⟨_, rfl⟩
      rw [← hnq] at r1 HOR
      have HMQ : Hid (Mod (fun _ => False) wr (wr.alloc (.cells #[.int .u8 (kind : Int), .slice aq nq cq, .int .u32 (vq : Int), .int .i64 kk, .int .i64 dd] 29))) := Lib.hid ((Mod.refl _ _).alloc _)
      have HDO := Lib.hid (ldo2_any (w1.heap.size + 1) w1.heap.size (w2.heap.size + 1) w2.heap.size L L ⟨kind, opq, vq, kk, dd⟩ (.slice aq nq cq) w (wr.alloc (.cells #[.int .u8 (kind : Int), .slice aq nq cq, .int .u32 (vq : Int), .int .i64 kk, .int .i64 dd] 29)) (HT2.out.keep HMQ.out) (HOR.out.keep (HST.out.mod.trans HMQ.out)) HSM.out.fits.v HE.out HSM.out.size)
      have HDB : Hid (∀ w' L1, Mod (fun _ => False) w w' → G2 w (w1.heap.size + 1) w1.heap.size (w2.heap.size + 1) w2.heap.size L1 L w' → Calls Tryz.prog 12 #[.pointer (some ⟨w2.heap.size + 1, 0, none⟩), rqV ⟨kind, opq, vq, kk, dd⟩ (.slice aq nq cq)] w' (D2 w (w2.heap.size + 1) w2.heap.size (w1.heap.size + 1) w1.heap.size L L1 ⟨kind, opq, vq, kk, dd⟩ w')) := Lib.hid (fun w' L1 m h => ldo2_any (w2.heap.size + 1) w2.heap.size (w1.heap.size + 1) w1.heap.size L L1 ⟨kind, opq, vq, kk, dd⟩ (.slice aq nq cq) w w' h.swap (HOR.out.keep m) HSM.out.fits.v HE.out HSM.out.size)
      simp only [rqV] at HDO HDB
      have HBQ : Hid ((wr.alloc (.cells #[.int .u8 (kind : Int), .slice aq nq cq, .int .u32 (vq : Int), .int .i64 kk, .int .i64 dd] 29)).heap[wr.heap.size]? = some (.cells #[.int .u8 (kind : Int), .slice aq nq cq, .int .u32 (vq : Int), .int .i64 kk, .int .i64 dd] 29 (0, 0))) := Lib.hid (heap_alloc_new' _ _)
      have HSQ := Lib.hid (HT2.out.keep HMQ.out)
      obtain ⟨ze, hze⟩ : ∃ ze, ze = (doG L ⟨kind, opq, vq, kk, dd⟩).2.e := ⟨_, rfl⟩
      obtain ⟨za, hza⟩ : ∃ za, za = (doG L ⟨kind, opq, vq, kk, dd⟩).2.at_ := ⟨_, rfl⟩
      have HZE := Lib.hid hze
      have HZA := Lib.hid hza
      clear hnq hze hza
      by_cases hlim : k < 40
      · have hlim' : (k : Int) < 40 := by omega
        go_wp2_with (first
          | (have hq := HT5.out; go_at_call 12; go_loud (refine (HDB.out _ _ HT5.out.mod HT5.out).mono ?_; (rintro e w6 ⟨vv6, vl6, rfl, ht6, hk6, -, -, -⟩); have HT6 := Lib.hid ht6.swap; rw [← HZE.out, ← HZA.out]; clear ht6 hk6 hq))
          | (go_at_call 12; go_loud (refine HDO.out.mono ?_; (rintro e w5 ⟨vv5, vl5, rfl, ht5, hk5, -, -, -⟩); have HT5 := Lib.hid ht5; have hb5 := hk5.box HBQ.out; have q0 := cell_of_row hb5 0; have q1 := cell_of_row hb5 1; have q2 := cell_of_row hb5 2; have q3 := cell_of_row hb5 3; have q4 := cell_of_row hb5 4; have zq := lt_of_block hb5; simp at q0 q1 q2 q3 q4; rw [← HZE.out, ← HZA.out]; clear ht5 hk5 hb5)))
        go_roundw
        case rel => exact ⟨k + 1, by go_num, by omega, _, HT6.out⟩
        case measure => simp [intOf]; omega
      · have hlim' : ¬ (k : Int) < 40 := by omega
        go_wp2
        go_roundw
        case rel => exact ⟨k + 1, by go_num, by omega, _, HSQ.out⟩
        case measure => simp [intOf]; omega
    · clear HRS
      have HS8 : Hid (Mod (fun _ => False) wr (wr.alloc (.cells #[.int .u8 1, .slice ao no co, .int .u32 0, .int .i64 0, .int .i64 0] 29))) := Lib.hid ((Mod.refl _ _).alloc _)
      have HB80 : Hid ((wr.alloc (.cells #[.int .u8 1, .slice ao no co, .int .u32 0, .int .i64 0, .int .i64 0] 29)).heap[wr.heap.size]? = some (.cells #[.int .u8 1, .slice ao no co, .int .u32 0, .int .i64 0, .int .i64 0] 29 (0, 0))) := Lib.hid (heap_alloc_new' _ _)
      obtain ⟨cr, hcr⟩ : ∃ cr, cr = checkR (txR ops) := ⟨_, rfl⟩
      have HCK : Hid (Calls Tryz.prog 19 #[.agg #[.int .u8 1, .slice ao no co, .int .u32 0, .int .i64 0, .int .i64 0]] (wr.alloc (.cells #[.int .u8 1, .slice ao no co, .int .u32 0, .int .i64 0, .int .i64 0] 29)) fun e w'' => e = .returned (.int .i64 (cr : Int)) ∧ Mod (fun _ => False) (wr.alloc (.cells #[.int .u8 1, .slice ao no co, .int .u32 0, .int .i64 0, .int .i64 0] 29)) w'') := Lib.hid (by
        have h := gcheck_any (txR ops) (.slice ao no co) _ (HO.out.keep (HST.out.mod.trans HS8.out))
        rw [hcr]
        exact h)
      by_cases hc : cr = 0
      · subst hc
        have HCR := Lib.hid hcr.symm
        have HN6 : Hid (no ≤ 6) := Lib.hid (by have := (tx_parts HCR.out).2.1; have := HNO.out; omega)
        clear hcr HST
        cases hrun : okRun L ops with
        | some p =>
          obtain ⟨L1, vals1⟩ := p
          have hd := doG_tx_ok HCR.out hrun
          have HRUN := Lib.hid hrun
          have HD0 : Hid (∀ wc, Mod (fun _ => False) wr wc → Calls Tryz.prog 12 #[.pointer (some ⟨w1.heap.size + 1, 0, none⟩), .agg #[.int .u8 1, .slice ao no co, .int .u32 0, .int .i64 0, .int .i64 0]] wc fun e w'' => ∃ av nv cv al cl, e = .returned (.agg #[.int .i64 0, .int .i64 0, .slice av nv cv, .slice al 0 cl]) ∧ G2 w (w1.heap.size + 1) w1.heap.size (w2.heap.size + 1) w2.heap.size L1 L w'' ∧ RdS w'' 3 (.slice av nv cv) vals1.length (vvcells vals1) ∧ RdS w'' 1 (.slice al 0 cl) 0 [] ∧ (∀ b, (Value.slice av nv cv).ownBlock = some b → b < w''.heap.size)) := Lib.hid (fun wc m => (ldo2_any (w1.heap.size + 1) w1.heap.size (w2.heap.size + 1) w2.heap.size L L (txR ops) (.slice ao no co) w wc (HT2.out.keep m) (HO.out.keep (HT2.out.mod.trans m)) (show (0 : Nat) < 4294967296 by decide) HE.out HB48.out).mono (by
            rintro e w'' ⟨vv, vl, rfl, h1, h2, h3, h4, h5⟩
            rw [hd] at h1 h3 h4 ⊢
            simp only at h1 h3 h4 ⊢
            have hlt : ∀ b, vv.ownBlock = some b → b < w''.heap.size := fun b hb => h3.lt b hb
            obtain ⟨a, c, rfl, -⟩ := h3.rdS.shape
            obtain ⟨a', c', rfl, -⟩ := h4.rdS.shape
            exact ⟨a, _, c, a', c', rfl, h1, h3.rdS, h4.rdS, hlt⟩))
          clear hd hrun
          go_upto_region 15 with (first
            | (have hq := HC8.out; go_at_call 12; go_loud (refine (HD0.out _ HC8.out).mono ?_; (rintro e w5 ⟨aA, nA, cA, aB, cB, rfl, ht5, hra5, hrb5, hlt5⟩); have HT5 := Lib.hid ht5; have HRA5 := Lib.hid hra5; have HRB5 := Lib.hid hrb5; have HLT5 := Lib.hid hlt5; clear ht5 hra5 hrb5 hlt5 hq))
            | (go_at_call 19; go_loud (refine HCK.out.mono ?_; (rintro e wc ⟨rfl, hmc⟩); have HC8 := Lib.hid (HS8.out.trans hmc); have hbc := hmc.heap HB80.out (fun f => f); have t0 := cell_of_row hbc 0; have t1 := cell_of_row hbc 1; have t2 := cell_of_row hbc 2; have t3 := cell_of_row hbc 3; have t4 := cell_of_row hbc 4; have z8 := lt_of_block hbc; simp at t0 t1 t2 t3 t4; clear hmc hbc)))
          obtain ⟨W6, hW6⟩ : ∃ W6, W6 = w5.alloc (.cells #[.int .i64 0, .int .i64 0, .slice aA nA cA, .slice aB 0 cB] 34) := ⟨_, rfl⟩
          obtain ⟨b10, hb10⟩ : ∃ b, b = w5.heap.size := ⟨_, rfl⟩
          have hm6 : Mod (fun _ => False) w5 W6 := by rw [hW6]; exact (Mod.refl _ _).alloc _
          have HPL0 : Hid (PtLoop w (w1.heap.size + 1) w1.heap.size (w2.heap.size + 1) w2.heap.size L1 b10 #[.int .i64 0, .int .i64 0, .slice aA nA cA, .slice aB 0 cB] (.slice aA nA cA) vals1 L (.slice none 0 0) [] W6) := Lib.hid ⟨HT5.out.keep hm6, by rw [hW6, hb10]; exact heap_alloc_new' _ _, HRA5.out.keep hm6, Seg.nil _ _ _, fun b hb => by simp [Value.ownBlock] at hb, fun b hb => by simp [Value.ownBlock] at hb⟩
          have HRB : Hid (∀ w', RdS w' 1 (.slice aB 0 cB) 0 []) := Lib.hid (fun w' => HRB5.out.zero)
          have HLA : Hid (∀ b, (Value.slice aA nA cA).ownBlock = some b → b < W6.heap.size) := Lib.hid (fun b hb => Nat.lt_of_lt_of_le (HLT5.out b hb) hm6.size)
          obtain ⟨q0, zq⟩ : W6.cell? ⟨b10, 0, none⟩ = some (.int .i64 0) ∧ b10 < W6.heap.size := ⟨cell_of_row HPL0.out.box 0, lt_of_block HPL0.out.box⟩
          rw [← hW6, ← hb10]
          clear hW6 hb10 hm6 t0 t1 t2 t3 t4 z8 HD0 HC8 HCK HB80 HS8 HRA5 HRB5 HLT5
          obtain ⟨i0, hi, hz0, hz1, hz2⟩ := info_parts infoValue
          have HI : Hid (Tryz.prog.info? 44 = some i0 ∧ i0.zero = some (.agg #[.int .u8 0, .int .i64 0, zval]) ∧ i0.size = 3 ∧ i0.bytes = 32) := ⟨hi, hz0, hz1, hz2⟩
          clear hi hz0 hz1 hz2
          go_wp2
          clear q0 zq
          go_loopw [50, 11] (fun i u wx => ∃ (j : Nat) (Lk : Gr) (vk : List Val), i = .int .i64 (j : Int) ∧ j ≤ no ∧ PtLoop w (w1.heap.size + 1) w1.heap.size (w2.heap.size + 1) w2.heap.size L1 b10 #[.int .i64 0, .int .i64 0, .slice aA nA cA, .slice aB 0 cB] (.slice aA nA cA) vals1 Lk u vk wx ∧ okRun L (ops.take j) = some (Lk, vk) ∧ Mod (fun _ => False) w wx ∧ W6.heap.size ≤ wx.heap.size) (fun i _ _ => no - (intOf i).toNat)
          case atStart => exact ⟨0, L, [], rfl, Nat.zero_le _, HPL0.out, by simp [okRun], HPL0.out.two.mod, Nat.le_refl _⟩
          case round =>
            obtain ⟨wx, hwx⟩ : ∃ wx : World, wx = wr := ⟨_, rfl⟩
            subst hwx
            obtain ⟨j, Lk, vk, rfl, hj, hpl, hrk, hmx, hsx⟩ := hrel
            have HPL := Lib.hid hpl
            have HRK := Lib.hid hrk
            have HMX := Lib.hid hmx
            have HSX := Lib.hid hsx
            have HLV : Hid (vk.length ≤ 6) := Lib.hid (by have h := okRun_len hrk; rw [List.length_take] at h; have := HN6.out; omega)
            obtain ⟨nu, hnu⟩ : ∃ n, n = vk.length := ⟨_, rfl⟩
            have HNU := Lib.hid hnu
            obtain ⟨au, cu, hcu, hcu2, hue⟩ : ∃ a c, nu ≤ c ∧ c ≤ 9223372036854775807 ∧ _ = Value.slice a nu c := by
              obtain ⟨a, c, e, h1, h2, _⟩ := hpl.seg.rdS.shape
              rw [← hnu] at e h1
              exact ⟨a, c, h1, h2, e⟩
            subst hue
            clear hpl hrk hmx hsx HPL0 hnu
            by_cases hjn : j < no
            · obtain ⟨o, ho⟩ : ∃ o, ops[j]? = some o := ⟨_, List.getElem?_eq_getElem (by rw [← HNO.out]; exact hjn)⟩
              obtain ⟨bo, offo, e0, hbo, r0, r1, r2, r3, r4, r5, r6⟩ := HO.out.ent ho rfl
              subst e0
              replace r0 := HMX.out.cell r0
              replace r1 := HMX.out.cell r1
              replace r2 := HMX.out.cell r2
              replace r3 := HMX.out.cell r3
              replace r4 := HMX.out.cell r4
              replace r5 := HMX.out.cell r5
              replace r6 := HMX.out.cell r6
              have zbo : bo < wx.heap.size := Nat.lt_of_lt_of_le hbo HMX.out.size
              have he := ok_at HRUN.out ho HRK.out
              have HOF := Lib.hid (HO.out.fits o (List.mem_of_getElem? ho))
              have hdo := do_one_ok ((tx_parts HCR.out).2.2 o (List.mem_of_getElem? ho)) he
              have HNX := Lib.hid (okRun_next HRK.out ho he)
              have HV1 := Lib.hid (one_vals Lk o)
              obtain ⟨Ln, hLn⟩ : ∃ x, x = (oneG Lk o).g := ⟨_, rfl⟩
              obtain ⟨us, hus⟩ : ∃ x, x = (oneG Lk o).vals := ⟨_, rfl⟩
              rw [← hLn, ← hus] at hdo HNX
              rw [← hus] at HV1
              have HLIT := Lib.hid (fun wz : World => lit_one o HOF.out wz)
              have HD1 : Hid (∀ wz vo, G2 w (w1.heap.size + 1) w1.heap.size (w2.heap.size + 1) w2.heap.size L1 Lk wz → ORd wz vo [o] → Calls Tryz.prog 13 #[.pointer (some ⟨w2.heap.size + 1, 0, none⟩), .agg #[.int .u8 1, vo, .int .u32 0, .int .i64 0, .int .i64 0]] wz fun e w'' => ∃ av nv cv al nl cl, e = .returned (.agg #[.int .i64 0, .int .i64 0, .slice av nv cv, .slice al nl cl]) ∧ nv = us.length ∧ G2 w (w1.heap.size + 1) w1.heap.size (w2.heap.size + 1) w2.heap.size L1 Ln w'' ∧ Kept wz w'' ∧ RdS w'' 3 (.slice av nv cv) nv (vvcells us)) := Lib.hid (fun wz vo h hor => (gdo2_any (w2.heap.size + 1) w2.heap.size (w1.heap.size + 1) w1.heap.size Lk L1 (txR [o]) vo w wz h.swap hor (show (0 : Nat) < 4294967296 by decide) HE.out).mono (by
                rintro e w'' ⟨vv, vl, rfl, h1, h2, h3, h4, h5⟩
                rw [hdo] at h1 h3 h4 ⊢
                simp only at h1 h3 h4 ⊢
                obtain ⟨a, c, rfl, -⟩ := h3.rdS.shape
                obtain ⟨a', c', rfl, -⟩ := h4.rdS.shape
                exact ⟨a, _, c, a', _, c', rfl, rfl, h1.swap, h2, h3.rdS⟩))
              clear hdo he ho hbo hLn hus
              obtain ⟨okd, oa, ob, oky, ⟨vk0, vn, vs⟩⟩ := o
              simp only at r0 r1 r2 r3 r4 r5 r6 HLIT
              obtain ⟨W7, hW7⟩ : ∃ W7, W7 = wx.alloc (.cells #[.int .u8 (okd : Int), .int .u32 (oa : Int), .int .u32 (ob : Int), .int .u8 (oky : Int), .int .u8 (vk0 : Int), .int .i64 vn, .string vs] 71) := ⟨_, rfl⟩
              have hm7 : Mod (fun _ => False) wx W7 := by rw [hW7]; exact (Mod.refl _ _).alloc _
              have HP7 := Lib.hid (HPL.out.keep hm7)
              have hb13 : W7.heap[wx.heap.size]? = some (.cells #[.int .u8 (okd : Int), .int .u32 (oa : Int), .int .u32 (ob : Int), .int .u8 (oky : Int), .int .u8 (vk0 : Int), .int .i64 vn, .string vs] 71 (0, 0)) := by rw [hW7]; exact heap_alloc_new' _ _
              have s0 := cell_of_row hb13 0
              have s1 := cell_of_row hb13 1
              have s2 := cell_of_row hb13 2
              have s3 := cell_of_row hb13 3
              have s4 := cell_of_row hb13 4
              have s5 := cell_of_row hb13 5
              have s6 := cell_of_row hb13 6
              have zs := lt_of_block hb13
              simp at s0 s1 s2 s3 s4 s5 s6
              have HM7 := Lib.hid hm7
              have HZ7 : Hid (W7.heap.size = wx.heap.size + 1) := Lib.hid (by rw [hW7]; simp)
              clear hb13 hm7
              go_upto_region 21 with fail
              rw [← hW7]
              clear hW7 r0 r1 r2 r3 r4 r5 r6 zbo
              go_wp2_with (first
                | (at_builtin; go_loud (refine wpList_append_seg rfl (.tmp 62) (.tmp 64) 31 rfl i0 _ 3 32 Tryz.underlying31 HI.out.1 HI.out.2.1 HI.out.2.2.1 HI.out.2.2.2 rfl (by decide) rfl HSG9.out _ _ _ rfl HSR.out (by have := HLV.out; have := HV1.out; have := HNU.out; have := HNV.out; unfold maxLen; omega) (by have := HLV.out; have := HV1.out; have := HNU.out; have := HNV.out; omega) ?_; intro v3 w3 hs3 hg3 ho3; have HP3 := Lib.hid (HP9.out.next (us := us) (fun b hb => Nat.lt_of_lt_of_le (HLA.out b hb) HS9.out) (by rw [← HNU.out, ← HNV.out]; exact hs3) hg3 ho3); have HS3 : Hid (W6.heap.size ≤ w3.heap.size) := Lib.hid (Nat.le_trans HS9.out hg3.size); (obtain ⟨a3, c3, n3, rfl⟩ : ∃ a c n, v3 = .slice a n c := (by obtain ⟨a, c, e, _⟩ := hs3.shape; exact ⟨_, _, _, e⟩)); clear hs3 hg3 ho3))
                | (go_at_call 13; go_loud (refine (HD1.out _ _ (HP7.out.two.keep ((Mod.refl _ _).alloc _)) (HLIT.out _)).mono ?_; (rintro e w8 ⟨av8, nv8, cv8, al8, nl8, cl8, rfl, hnv8, ht8, hk8, hr8⟩); have HNV := Lib.hid hnv8; have hk7 : Kept W7 w8 := (Kept.mod ((Mod.refl (fun _ => False) W7).alloc _)).trans hk8; have hm9 : Mod (fun _ => False) w8 (w8.alloc (.cells #[.int .i64 0, .int .i64 0, .slice av8 nv8 cv8, .slice al8 nl8 cl8] 34)) := (Mod.refl _ _).alloc _; have HP9 := Lib.hid ((HP7.out.go ht8 hk7).keep hm9); have HSG9 := Lib.hid HP9.out.seg; rw [← HNU.out] at HSG9; have HSR := Lib.hid ((hr8.keep hm9).src (vvcells_one us)); have HS9 : Hid (W6.heap.size ≤ (w8.alloc (.cells #[.int .i64 0, .int .i64 0, .slice av8 nv8 cv8, .slice al8 nl8 cl8] 34)).heap.size) := Lib.hid (Nat.le_trans HSX.out (Nat.le_trans HM7.out.size (Nat.le_trans hk7.size hm9.size))); clear ht8 hk8 hk7 hr8 hm9 hnv8)))
              go_roundw
              case rel => exact ⟨j + 1, Ln, vk ++ us, by go_num, by omega, HP3.out, HNX.out, HP3.out.two.mod, HS3.out⟩
              case measure => simp [intOf]; omega
            · skip
              obtain rfl : j = no := by omega
              have hfull : okRun L ops = some (Lk, vk) := by have h := HRK.out; rwa [List.take_of_length_le (by have := HNO.out; omega)] at h
              have hLk : Lk = L1 ∧ vk = vals1 := by rw [HRUN.out] at hfull; injection hfull with hfull; injection hfull with h1 h2; exact ⟨h1.symm, h2.symm⟩
              obtain ⟨e1, e2⟩ := hLk
              subst e1 e2
              clear hfull
              have HRU := Lib.hid HPL.out.seg.rdS
              have q0 := cell_of_row HPL.out.box 0
              have q1 := cell_of_row HPL.out.box 1
              have q2 := cell_of_row HPL.out.box 2
              have q3 := cell_of_row HPL.out.box 3
              have zq := lt_of_block HPL.out.box
              simp at q0 q1 q2 q3
              have HSA : Hid (Calls Tryz.prog 18 #[.agg #[.int .i64 0, .int .i64 0, .slice aA nA cA, .slice aB 0 cB], .agg #[.int .i64 0, .int .i64 0, .slice au nu cu, .slice none 0 0]] wx fun e w'' => e = .returned (.bool true) ∧ Mod (fun _ => False) wx w'') := Lib.hid (by
                have h := anssame_any 0 0 0 0 vk vk [] [] (.slice aA nA cA) (.slice aB 0 cB) (.slice au nu cu) (.slice none 0 0) wx HPL.out.ra HRU.out (HRB.out wx) (RdS.none _ _)
                simpa using h)
              obtain ⟨m, hm⟩ : ∃ m, m = Lk.length := ⟨_, rfl⟩
              have HML := Lib.hid hm
              clear hm
              have HSN : Hid (∀ v u w', RdS w' 1 v m ((Lk.map Vtx.id).map (keyV .u32)) → RdS w' 1 u m ((Lk.map Vtx.id).map (keyV .u32)) → Calls Tryz.prog 24 #[v, u] w' fun e w'' => e = .returned (.bool true) ∧ Mod (fun _ => False) w' w'') := Lib.hid (fun v u w' hv hu => nsame_yes v u (Lk.map Vtx.id) w' (by rw [List.length_map, ← HML.out]; exact hv) (by rw [List.length_map, ← HML.out]; exact hu))
              have HRR : Hid (∀ w' w'' v, SegN w' w'' v (Lk.map Vtx.id) → ∃ a c, m ≤ c ∧ c ≤ 9223372036854775807 ∧ v = .slice a m c ∧ RdS w'' 1 v m ((Lk.map Vtx.id).map (keyV .u32))) := Lib.hid (fun w' w'' v h => by
                have h1 := h.seg.rdS
                rw [List.length_map, ← HML.out] at h1
                obtain ⟨a, c, e, h2, h3, _⟩ := h1.shape
                exact ⟨a, c, h2, h3, e, h1⟩)
              go_upto_region 27 with (first
                | (go_at_call 24; go_loud (refine (HSN.out _ _ _ HDA.out HDB.out).mono ?_; (rintro e w11 ⟨rfl, hm11⟩); have M11 := Lib.hid (M10.out.trans hm11); clear hm11))
                | (have hq := M9.out; go_at_call 25; go_loud (refine (slist_any _ _ Lk w _ (HPL.out.two.b.keep M9.out)).mono ?_; (rintro e w10 ⟨vb10, rfl, hsb⟩); have M10 := Lib.hid (M9.out.trans hsb.mod); replace HDA := Lib.hid (HDA.out.keep hsb.mod); (obtain ⟨ab, cb, hcb, hcb2, rfl, hdb⟩ := HRR.out _ _ _ hsb); have HDB := Lib.hid hdb; clear hsb hdb hq))
                | (have hq := M8.out; go_at_call 25; go_loud (refine (slist_any _ _ Lk w _ (HPL.out.two.a.keep M8.out)).mono ?_; (rintro e w9 ⟨va9, rfl, hsa⟩); have M9 := Lib.hid (M8.out.trans hsa.mod); (obtain ⟨aa, ca, hca, hca2, rfl, hda⟩ := HRR.out _ _ _ hsa); have HDA := Lib.hid hda; clear hsa hda hq))
                | (go_at_call 18; go_loud (refine HSA.out.mono ?_; (rintro e w8 ⟨rfl, hm8⟩); have M8 := Lib.hid hm8; clear hm8)))
              clear q0 q1 q2 q3 zq
              go_wp2_with (go_at_call 25; go_loud (refine (slist_any _ _ Lk w _ (HPL.out.two.a.keep M11.out)).mono ?_; (rintro e w12 ⟨va12, rfl, hsc⟩); have M12 := Lib.hid (M11.out.trans hsc.mod); (obtain ⟨ad, cd, hcd, hcd2, rfl, hdd⟩ := HRR.out _ _ _ hsc); have HDD := Lib.hid hdd; clear hsc hdd))
              have HT12 := Lib.hid (HPL.out.two.keep M12.out)
              clear HSA HSN HRR HDA HDB M8 M9 M10 M11 HPL HRU
              go_loopw [83] (fun i wr => ∃ j : Nat, i = .int .i64 (j : Int) ∧ j ≤ m ∧ Mod (fun _ => False) w12 wr) (fun i _ => m - (intOf i).toNat)
              case atStart => exact ⟨0, rfl, Nat.zero_le _, Mod.refl _ _⟩
              case round =>
                obtain ⟨wy, hwy⟩ : ∃ wy : World, wy = wr := ⟨_, rfl⟩
                subst hwy
                obtain ⟨i, rfl, hi, hmi⟩ := hrel
                have HMI := Lib.hid hmi
                clear hmi
                by_cases him : i < m
                · obtain ⟨x, hx⟩ : ∃ x, Lk[i]? = some x := ⟨_, List.getElem?_eq_getElem (by rw [← HML.out]; exact him)⟩
                  obtain ⟨bi, offi, e0, hbi, r0⟩ := num_ent HDD.out (i := i) (x := x.id) (by rw [List.getElem?_map, hx]; rfl) rfl
                  subst e0
                  replace r0 := HMI.out.cell r0
                  have zbi : bi < wy.heap.size := Nat.lt_of_lt_of_le hbi HMI.out.size
                  have hxm := List.mem_of_getElem? hx
                  have HVA : Hid (∀ w', Mod (fun _ => False) wy w' → Calls Tryz.prog 14 #[.pointer (some ⟨w1.heap.size + 1, 0, none⟩), .int .u32 (x.id : Int)] w' (Twins w' x)) := Lib.hid (fun w' mm => by
                    have := svertex_any _ _ Lk x.id w w' (HT12.out.a.keep (HMI.out.trans mm)) (by have := (HT12.out.ga.each x hxm).id; omega)
                    rwa [tellV_mem HT12.out.ga.rise hxm] at this)
                  have HVB : Hid (∀ w', Mod (fun _ => False) wy w' → Calls Tryz.prog 14 #[.pointer (some ⟨w2.heap.size + 1, 0, none⟩), .int .u32 (x.id : Int)] w' (Twins w' x)) := Lib.hid (fun w' mm => by
                    have := svertex_any _ _ Lk x.id w w' (HT12.out.b.keep (HMI.out.trans mm)) (by have := (HT12.out.ga.each x hxm).id; omega)
                    rwa [tellV_mem HT12.out.ga.rise hxm] at this)
                  have HSV : Hid (∀ vp vh vp' vh' w', VRd w' vp vh x → VRd w' vp' vh' x → Calls Tryz.prog 22 #[vtxV x vp vh, vtxV x vp' vh'] w' fun e w'' => e = .returned (.bool true) ∧ Mod (fun _ => False) w' w'') := Lib.hid (fun vp vh vp' vh' w' h1 h2 => vsame_yes x vp vh vp' vh' w' h1 h2)
                  clear hx hxm hbi
                  obtain ⟨id, there, xs, ys⟩ := x
                  simp only [vtxV] at r0 HVA HVB HSV
                  go_wp2_with (first
                    | (go_at_call 22; go_loud (refine (HSV.out _ _ _ _ _ HNA.out HNB.out).mono ?_; (rintro e w15 ⟨rfl, hm15⟩); have N15 := Lib.hid (N14.out.trans hm15); clear hm15))
                    | (have hq := N13.out; go_at_call 14; go_loud (refine (HVB.out _ N13.out).mono ?_; (rintro e w14 ⟨vp14, vh14, rfl, hm14, hn14⟩); have N14 := Lib.hid (N13.out.trans hm14); replace HNA := Lib.hid (HNA.out.keep hm14); have HNB := Lib.hid hn14.rd; (obtain ⟨a7, c7, n7, rfl⟩ : ∃ a c n, vp14 = .slice a n c := (by obtain ⟨a, c, e, _⟩ := hn14.props.shape; exact ⟨_, _, _, e⟩)); (obtain ⟨a8, c8, n8, rfl⟩ : ∃ a c n, vh14 = .slice a n c := (by obtain ⟨a, c, e, _⟩ := hn14.halves.shape; exact ⟨_, _, _, e⟩)); clear hm14 hn14 hq))
                    | (go_at_call 14; go_loud (refine (HVA.out _ (Mod.refl _ _)).mono ?_; (rintro e w13 ⟨vp13, vh13, rfl, hm13, hn13⟩); have N13 := Lib.hid hm13; have HNA := Lib.hid hn13.rd; (obtain ⟨a5, c5, n5, rfl⟩ : ∃ a c n, vp13 = .slice a n c := (by obtain ⟨a, c, e, _⟩ := hn13.props.shape; exact ⟨_, _, _, e⟩)); (obtain ⟨a6, c6, n6, rfl⟩ : ∃ a c n, vh13 = .slice a n c := (by obtain ⟨a, c, e, _⟩ := hn13.halves.shape; exact ⟨_, _, _, e⟩)); clear hm13 hn13)))
                  go_roundw
                  case rel => exact ⟨i + 1, by go_num, by omega, HMI.out.trans N15.out⟩
                  case measure => simp [intOf]; omega
                · go_wp2
                  go_ret
                  exact ⟨rfl, HT12.out.mod.trans HMI.out⟩
        | none =>
          obtain ⟨kp, z, hkp, hz, hfk, hcut⟩ := tx_cut HCR.out hrun
          have hd := doG_tx_no HCR.out hrun
          rw [hfk] at hd
          simp only at hd
          have HD0 : Hid (∀ wc, Mod (fun _ => False) wr wc → Calls Tryz.prog 12 #[.pointer (some ⟨w1.heap.size + 1, 0, none⟩), .agg #[.int .u8 1, .slice ao no co, .int .u32 0, .int .i64 0, .int .i64 0]] wc fun e w'' => ∃ av nv cv al nl cl, e = .returned (.agg #[.int .i64 (z : Int), .int .i64 (kp : Int), .slice av nv cv, .slice al nl cl]) ∧ Mod (fun _ => False) w w'') := Lib.hid (fun wc m => (ldo2_any (w1.heap.size + 1) w1.heap.size (w2.heap.size + 1) w2.heap.size L L (txR ops) (.slice ao no co) w wc (HT2.out.keep m) (HO.out.keep (HT2.out.mod.trans m)) (show (0 : Nat) < 4294967296 by decide) HE.out HB48.out).mono (by
            rintro e w'' ⟨vv, vl, rfl, h1, h2, h3, h4, h5⟩
            rw [hd] at h1 h3 h4 ⊢
            obtain ⟨a, c, rfl, -⟩ := h3.rdS.shape
            obtain ⟨a', c', rfl, -⟩ := h4.rdS.shape
            exact ⟨a, _, c, a', _, c', rfl, h1.mod⟩))
          have hz' : ((z : Int) != 0) = true := by simp [hz]
          clear hcut hd hfk hrun hkp hz
          go_wp2_with (first
            | (have hq := HC8.out; go_at_call 12; go_loud (refine (HD0.out _ HC8.out).mono ?_; (rintro e w5 ⟨av5, nv5, cv5, al5, nl5, cl5, rfl, hm5⟩); have HM5 := Lib.hid hm5; clear hm5 hq))
            | (go_at_call 19; go_loud (refine HCK.out.mono ?_; (rintro e wc ⟨rfl, hmc⟩); have HC8 := Lib.hid (HS8.out.trans hmc); have hbc := hmc.heap HB80.out (fun f => f); have t0 := cell_of_row hbc 0; have t1 := cell_of_row hbc 1; have t2 := cell_of_row hbc 2; have t3 := cell_of_row hbc 3; have t4 := cell_of_row hbc 4; have z8 := lt_of_block hbc; simp at t0 t1 t2 t3 t4; clear hmc hbc)))
          go_ret
          exact ⟨by first | rfl | simp, HM5.out.alloc _⟩
      · have hc' : ((cr : Int) != 0) = true := by simp [hc]
        clear hcr
        go_wp2_with (go_at_call 19; go_loud (refine HCK.out.mono ?_; (rintro e wc ⟨rfl, hmc⟩); have HC8 := Lib.hid (HS8.out.trans hmc); clear hmc))
        go_ret
        exact ⟨rfl, HST.out.mod.trans HC8.out⟩
theorem gparts_all (v0 v1 : Value) (w : World) (hg : ErrT w) (h0 : InReqs w v0) (h1 : InOps w v1) : Calls Tryz.prog 7 #[v0, v1] w fun e w' => e = .returned (.bool true) ∧ Below w.heap.size w w' := by
  obtain ⟨l, h⟩ := h0
  obtain ⟨ops, ho, hb⟩ := h1
  exact Calls.mono (R := fun e w' => e = .returned (.bool true) ∧ Mod (fun _ => False) w w') (gparts_main v0 v1 l ops w h ho hb hg) (fun _ _ ⟨h, m⟩ => ⟨h, m.toBelow (Nat.le_refl _) (fun _ _ f => f)⟩)
end Go.Proofs.YtbgjbikpenefoaaGreatDoor
