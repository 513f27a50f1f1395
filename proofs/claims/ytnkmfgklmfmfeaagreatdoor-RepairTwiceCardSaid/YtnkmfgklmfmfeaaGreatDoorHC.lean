/- HC: what is needed of it (by shake.py). -/
import Derived.Test.YtnkmfgklmfmfeaaGreatDoorM34

/- HC, as far as the seat goes. -/
/- gussetlaw23.RepairWhole, walked. (Printed by gen_repair.py.) -/
namespace Go.Proofs.YtnkmfgklmfmfeaaGreatDoor
set_option linter.unusedVariables false
set_option linter.unusedSimpArgs false
open Go.RowKit Go.Maps
set_option maxRecDepth 100000 in
set_option maxHeartbeats 8000000 in
theorem whole_main (vs vo : Value) (rs : List Qs) (ol : List Nat) (dw : Nat) (hd : dw < 256) (w : World) (hs : QRd w vs rs) (ho : RdS w 1 vo ol.length (ol.map (keyV .u8))) (ho2 : ∀ x ∈ ol, x < 256) (hg : ErrT w) :
    Calls Tryz.prog 3 #[vs, vo, .int .u8 (dw : Int)] w fun e w' => e = .returned (.bool true) ∧ Mod (fun _ => False) w w' := by
  have HDW := Lib.hid hd
  have HO256 := Lib.hid ho2
  have HOW := Lib.hid ho
  obtain ⟨ao, co, rfl, hco1, hco2, -⟩ := ho.shape
  obtain ⟨no, hno⟩ : ∃ n, n = ol.length := ⟨_, rfl⟩
  rw [← hno] at HOW hco1 ⊢
  have HNO := Lib.hid hno
  clear hd ho ho2 hno
  have HAW := Lib.hid (awake23_any w)
  have HE := Lib.hid hg
  have HRS := Lib.hid hs
  obtain ⟨as_, cs_, rfl, hcs, hcs2, -⟩ := hs.row.shape
  obtain ⟨n, hn⟩ : ∃ n, n = rs.length := ⟨_, rfl⟩
  rw [← hn] at HRS hcs ⊢
  have HN := Lib.hid hn
  clear hs hn hg
  go_enter Tryz.func3, Tryz.ntmps3
  go_wp2_with (first
    | (go_at_call 7; refine (snew_any w w1 HM1.out).mono ?_; (rintro e w2 ⟨rfl, hm2, hst, hz2⟩); have HST0 := Lib.hid hst; clear hm2 hst hz2)
    | (go_at_call 6; refine HAW.out.mono ?_; (rintro e w1 ⟨rfl, hm1⟩); have HM1 := Lib.hid hm1; clear hm1))
  go_loopw [30] (fun i wr => ∃ k : Nat, i = .int .i64 (k : Int) ∧ k ≤ n ∧ ∃ L, GSt w (w1.heap.size + 1) w1.heap.size L wr) (fun i _ => n - (intOf i).toNat)
  case atStart => exact ⟨0, rfl, Nat.zero_le _, _, HST0.out⟩
  case round =>
    obtain ⟨k, rfl, hk, L, hst⟩ := hrel
    have HST := Lib.hid hst
    clear hst HST0
    by_cases hkn : k < n
    · skip
      obtain ⟨q, hq⟩ : ∃ q, rs[k]? = some q := ⟨_, List.getElem?_eq_getElem (by rw [← HN.out]; exact hkn)⟩
      obtain ⟨bl, offl, e0, hbl, r0, r1, r2, r3, r4⟩ := HRS.out.ent hq rfl
      replace r0 := HST.out.mod.cell r0
      replace r1 := HST.out.mod.cell r1
      replace r2 := HST.out.mod.cell r2
      replace r3 := HST.out.mod.cell r3
      replace r4 := HST.out.mod.cell r4
      have zbl : bl < wr.heap.size := Nat.lt_of_lt_of_le hbl HST.out.mod.size
      have HOR := Lib.hid (HRS.out.each q (List.mem_of_getElem? hq))
      have HSM := Lib.hid (HRS.out.small q (List.mem_of_getElem? hq))
      clear hq hbl
      subst e0
      obtain ⟨⟨kind, ops, vq, kk, dd⟩, qo⟩ := q
      obtain ⟨aq, cq, hqe, -⟩ := HOR.out.row.shape
      simp only at hqe HOR r0 r1 r2 r3 r4
      subst hqe
      obtain ⟨nq, hnq⟩ : ∃ n, n = ops.length := ⟨_, rfl⟩
      rw [← hnq] at r1 HOR
      have HMQ : Hid (Mod (fun _ => False) wr (wr.alloc (.cells #[.int .u8 (kind : Int), .slice aq nq cq, .int .u32 (vq : Int), .int .i64 kk, .int .i64 dd] 30))) := Lib.hid ((Mod.refl _ _).alloc _)
      have HNQ := Lib.hid hnq
      clear hnq
      by_cases hlim : k < 50
      · have hlim' : (k : Int) < 50 := by omega
        have HTW : Hid (Calls Tryz.prog 9 #[.agg #[.int .u8 (kind : Int), .slice aq nq cq, .int .u32 (vq : Int), .int .i64 kk, .int .i64 dd]] (wr.alloc (.cells #[.int .u8 (kind : Int), .slice aq nq cq, .int .u32 (vq : Int), .int .i64 kk, .int .i64 dd] 30)) fun e w' => ∃ ao co, e = .returned (.agg #[.int .u8 (kind : Int), .slice ao nq co, .int .u32 (vq : Int), .int .i64 kk, .int .i64 dd]) ∧ Mod (fun _ => False) (wr.alloc (.cells #[.int .u8 (kind : Int), .slice aq nq cq, .int .u32 (vq : Int), .int .i64 kk, .int .i64 dd] 30)) w' ∧ ORd w' (.slice ao nq co) ops) := Lib.hid ((twinreq_any ⟨kind, ops, vq, kk, dd⟩ (.slice aq nq cq) (wr.alloc (.cells #[.int .u8 (kind : Int), .slice aq nq cq, .int .u32 (vq : Int), .int .i64 kk, .int .i64 dd] 30)) (HOR.out.keep (HST.out.mod.trans HMQ.out)) HSM.out.size).mono (by
          rintro e w' ⟨vo, rfl, m, ho⟩
          obtain ⟨a, c, e1, -⟩ := ho.row.shape
          simp only at e1
          rw [← HNQ.out] at e1
          subst e1
          exact ⟨a, c, rfl, m, ho⟩))
        have HDO : Hid (∀ ao co w', Mod (fun _ => False) wr w' → ORd w' (.slice ao nq co) ops → Calls Tryz.prog 8 #[.pointer (some ⟨w1.heap.size + 1, 0, none⟩), .agg #[.int .u8 (kind : Int), .slice ao nq co, .int .u32 (vq : Int), .int .i64 kk, .int .i64 dd]] w' fun e w'' => ∃ vd, e = .returned vd ∧ GSt w (w1.heap.size + 1) w1.heap.size (doG L ⟨kind, ops, vq, kk, dd⟩).1 w'') := Lib.hid (fun ao co w' m ho => (sgdo_any (w1.heap.size + 1) w1.heap.size L ⟨kind, ops, vq, kk, dd⟩ (.slice ao nq co) w w' (HST.out.keep m) ho HSM.out.fits.v HE.out).mono (by
          rintro e w'' ⟨vv, vl, rfl, hs⟩
          exact ⟨_, rfl, hs.st⟩))
        go_wp2_with (first
          | (have hq := HM5.out; go_at_call 8; go_loud (refine (HDO.out _ _ _ HM5.out HO5.out).mono ?_; (rintro e w6 ⟨vd, rfl, hs6⟩); have HS6 := Lib.hid hs6; clear hs6 hq))
          | (go_at_call 9; go_loud (refine HTW.out.mono ?_; (rintro e w5 ⟨ao, co, rfl, hm5, ho5⟩); have HM5 : Hid (Mod (fun _ => False) wr w5) := Lib.hid (HMQ.out.trans hm5); have HO5 := Lib.hid ho5; clear hm5 ho5)))
        go_roundw
        case rel => exact ⟨k + 1, by go_num, by omega, _, HS6.out⟩
        case measure => simp [intOf]; omega
      · have hlim' : ¬ (k : Int) < 50 := by omega
        have HSQ := Lib.hid (HST.out.keep HMQ.out)
        go_wp2
        go_roundw
        case rel => exact ⟨k + 1, by go_num, by omega, _, HSQ.out⟩
        case measure => simp [intOf]; omega
    · clear HRS HN
      obtain ⟨wx, hwx⟩ : ∃ wx : World, wx = wr := ⟨_, rfl⟩
      subst hwx
      obtain ⟨m, hm⟩ : ∃ m, m = L.length := ⟨_, rfl⟩
      have HML := Lib.hid hm
      clear hm
      have HG := HST
      have HLI : Hid (∀ w', Mod (fun _ => False) wx w' → Calls Tryz.prog 10 #[.pointer (some ⟨w1.heap.size + 1, 0, none⟩)] w' fun e w'' => ∃ ai ci, e = .returned (.slice ai m ci) ∧ Mod (fun _ => False) w' w'' ∧ m ≤ ci ∧ ci ≤ 9223372036854775807 ∧ Seg w'' 28 1 (.slice ai m ci) m ((L.map Vtx.id).map (keyV .u32))) := Lib.hid (fun w' mm => (slist_any _ _ L w w' (HG.out.keep mm)).mono (by
        rintro e w'' ⟨v, rfl, hs⟩
        have h := hs.seg
        rw [List.length_map, ← HML.out] at h
        obtain ⟨a, c, e1, h1, h2, -⟩ := h.rdS.shape
        subst e1
        exact ⟨a, c, rfl, hs.mod, h1, h2, h⟩))
      obtain ⟨i0, hi, hz0, hz1, hz2⟩ := info_parts infoVtx
      have HI : Hid (Tryz.prog.info? 44 = some i0 ∧ i0.zero = some (.agg #[.int .u32 0, .bool false, .slice none 0 0, .slice none 0 0]) ∧ i0.size = 4 ∧ i0.bytes = 56) := ⟨hi, hz0, hz1, hz2⟩
      clear hi hz0 hz1 hz2
      have HM40 : Hid (m ≤ 40) := Lib.hid (by have := HG.out.good.short; have := HML.out; omega)
      have hmk := mk4_lists wx
      go_wp2_with (go_at_call 10; go_loud (clear hmk; refine (HLI.out _ (by repeat (first | exact Mod.refl _ _ | apply Mod.drew | apply Mod.alloc))).mono ?_; (rintro e w3 ⟨ai, ci, rfl, hm3, hc31, hc32, hs3⟩); have HLB0 : Hid (LbAt wx wx.heap.size (List.replicate 4 ⟨.slice none 0 0, []⟩) w3) := Lib.hid ((LbAt.start wx 4).keep hm3); have HS3 := Lib.hid hs3; clear hm3 hs3))
      go_loopw [46] (fun i wy => ∃ (j : Nat) (ls : List Ls), i = .int .i64 (j : Int) ∧ j ≤ m ∧ LbAt wx wx.heap.size ls wy ∧ ls.length = 4 ∧ Seg wy 28 1 (.slice ai m ci) m ((L.map Vtx.id).map (keyV .u32)) ∧ Parted (L.take j) (dat ls)) (fun i _ => m - (intOf i).toNat)
      case atStart => exact ⟨0, _, rfl, Nat.zero_le _, HLB0.out, rfl, HS3.out, Parted.nil 4⟩
      case round =>
        obtain ⟨wy, hwy⟩ : ∃ wy : World, wy = wr := ⟨_, rfl⟩
        subst hwy
        obtain ⟨j, ls, rfl, hj, hlb, h4, hsg, hpt⟩ := hrel
        have HLB := Lib.hid hlb
        have HL4 := Lib.hid h4
        have HSG := Lib.hid hsg
        have HPT := Lib.hid hpt
        clear hlb h4 hsg hpt HLB0 HS3
        by_cases hjm : j < m
        · skip
          obtain ⟨x, hx⟩ : ∃ x, L[j]? = some x := ⟨_, List.getElem?_eq_getElem (by rw [← HML.out]; exact hjm)⟩
          obtain ⟨bi, offi, e0, zbi, r0⟩ := num_ent HSG.out.rdS (i := j) (x := x.id) (by rw [List.getElem?_map, hx]; rfl) rfl
          subst e0
          have hxm := List.mem_of_getElem? hx
          have HVX : Hid (∀ w', Mod (fun _ => False) wx w' → Calls Tryz.prog 11 #[.pointer (some ⟨w1.heap.size + 1, 0, none⟩), .int .u32 (x.id : Int)] w' (Twins w' x)) := Lib.hid (fun w' mm => by
            have := svertex_any _ _ L x.id w w' (HG.out.keep mm) (by have := (HG.out.good.each x hxm).id; omega)
            rwa [tellV_mem HG.out.good.rise hxm] at this)
          have HTK : Hid (L.take (j + 1) = L.take j ++ [x]) := Lib.hid (by
            obtain ⟨h1, h2⟩ := List.getElem?_eq_some_iff.1 hx
            rw [List.take_succ_eq_append_getElem h1, h2])
          clear hx hxm
          obtain ⟨id, there, xs, ys⟩ := x
          simp only at r0 HVX
          go_upto_if 54 with fail
          go_cut [13] (fun s wz => wy = wz ∧ ∃ nn : Nat, s = .int .i64 (nn : Int) ∧ nn < 4)
          case first =>
            by_cases hjo : j < no
            · obtain ⟨o, ho⟩ : ∃ o, ol[j]? = some o := ⟨_, List.getElem?_eq_getElem (by rw [← HNO.out]; exact hjo)⟩
              obtain ⟨bo, offo, e1, hbo, q0⟩ := HOW.out.one (i := j) (x := .int .u8 (o : Int)) (by rw [List.getElem?_map, ho]; rfl) rfl
              subst e1
              replace q0 := (HG.out.mod.trans HLB.out.mod).cell q0
              have zbo := Nat.lt_of_lt_of_le hbo (HG.out.mod.trans HLB.out.mod).size
              have ho256 := HO256.out o (List.mem_of_getElem? ho)
              clear ho hbo
              go_wp2
              go_meet
              exact ⟨rfl, o % 4, by first | rfl | simp | (congr 1; omega), by omega⟩
            · go_wp2
              go_meet
              exact ⟨rfl, 0, rfl, by omega⟩
          case rest =>
            obtain ⟨rfl, nn, rfl, hnn⟩ := hcut
            obtain ⟨t, ht⟩ : ∃ t, ls[nn]? = some t := ⟨_, List.getElem?_eq_getElem (by rw [HL4.out]; assumption)⟩
            obtain ⟨at_, ct, htv⟩ : ∃ a c, t.v = .slice a t.l.length c := by
              obtain ⟨a, c, e, _⟩ := (HLB.out.own t (List.mem_of_getElem? ht)).row.shape
              exact ⟨a, c, e⟩
            have HT := Lib.hid ht
            have HLT : Hid (t.l.length ≤ 40) := Lib.hid (by
              have h1 := (HPT.out.sub (t.l.map Vs.x) (List.mem_map_of_mem (List.mem_of_getElem? ht))).length_le
              rw [List.length_map, List.length_take] at h1
              have := HG.out.good.short
              omega)
            have y0 : wy.cell? ⟨wx.heap.size, nn, none⟩ = some (.slice at_ t.l.length ct) := by
              rw [cell_of_row HLB.out.box, ← htv]
              simp [ht]
            have zb := lt_of_block HLB.out.box
            have hn4 : (nn : Int) < 4 := by omega
            have HTV := Lib.hid htv
            obtain ⟨tn, htn⟩ : ∃ k, k = t.l.length := ⟨_, rfl⟩
            rw [← htn] at y0
            have HTN := Lib.hid htn
            clear ht htv htn
            go_wp2_with fail
            go_region_law (first
              | (go_simp; go_at_call 11; refine (HVX.out _ (HLB.out.mod.drew)).mono ?_; rintro e w4 ⟨vp4, vh4, rfl, hm4, hn4⟩; (obtain ⟨a5, c5, n5, rfl⟩ : ∃ a c n, vp4 = .slice a n c := (by obtain ⟨a, c, e, _⟩ := hn4.props.shape; exact ⟨_, _, _, e⟩)); (obtain ⟨a6, c6, n6, rfl⟩ : ∃ a c n, vh4 = .slice a n c := (by obtain ⟨a, c, e, _⟩ := hn4.halves.shape; exact ⟨_, _, _, e⟩)); have hm5 : Mod (fun _ => False) wy w4 := ((Mod.refl (fun _ => False) wy).drew).trans hm4; have q0 := hm5.cell y0; have zq := Nat.lt_of_lt_of_le zb hm5.size;
                 have hm6 : Mod (fun _ => False) wy (w4.alloc (.cells #[.int .u32 (id : Int), .bool there, .slice a5 n5 c5, .slice a6 n6 c6] 44)) := hm5.alloc _;
                 have HLB6 := Lib.hid (HLB.out.keep hm6);
                 have HSG6 := Lib.hid (HSG.out.mod hm6 (fun _ _ f => f));
                 have HV6 := Lib.hid (hn4.vown.mod ((Mod.refl (fun _ => False) w4).alloc (.cells #[.int .u32 (id : Int), .bool there, .slice a5 n5 c5, .slice a6 n6 c6] 44)) ⟨fun _ _ f => f, fun _ _ f => f⟩);
                 have HROW : Hid (Seg (w4.alloc (.cells #[.int .u32 (id : Int), .bool there, .slice a5 n5 c5, .slice a6 n6 c6] 44)) 44 4 (.slice at_ tn ct) tn (vcells t.l)) := Lib.hid (by have h := (HLB6.out.own t (List.mem_of_getElem? HT.out)).row; rw [HTV.out, ← HTN.out] at h; exact h);
                 have HSR := Lib.hid (src_cells (w := w4) rfl (size := 4) 44 #[.int .u32 (id : Int), .bool there, .slice a5 n5 c5, .slice a6 n6 c6] rfl (by simp [Value.oneCell'])); clear hm4 hm5 hm6 hn4)
              | (refine step_append_seg rfl (.tmp 66) (.tmp 70) 40 rfl i0 _ 4 56 Tryz.underlying40 HI.out.1 HI.out.2.1 HI.out.2.2.1 HI.out.2.2.2 rfl (by decide) rfl HROW.out _ 1 _ rfl HSR.out (by have := HLT.out; have := HTN.out; unfold maxLen; omega) (by have := HLT.out; have := HTN.out; omega) ?_; intro v3 w3 hs3 hg3 ho3;
                 have H3 := Lib.hid (HLB6.out.app (s := ⟨⟨id, there, xs, ys⟩, .slice a5 n5 c5, .slice a6 n6 c6⟩) HT.out HV6.out (by rw [HTN.out] at hs3; exact hs3) (by rw [HTV.out, ← HTN.out]; exact hg3) (by rw [HTV.out, ← HTN.out]; exact ho3)); (obtain ⟨a3, c3, n3, rfl⟩ : ∃ a c n, v3 = .slice a n c := (by obtain ⟨a, c, e, _⟩ := hs3.shape; exact ⟨_, _, _, e⟩)); have y3 : w3.cell? ⟨wx.heap.size, nn, none⟩ = some (.slice at_ tn ct) := (by rw [cell_of_row H3.out.1]; have h := HTV.out; rw [← HTN.out] at h; rw [← h]; simp [HT.out]); have y3f := free_of_row H3.out.1 nn; have z3 := lt_of_block H3.out.1; clear hs3 hg3 ho3))
            all_goals
              go_wp2
              go_roundw
              case rel => exact ⟨j + 1, ls.set nn ⟨.slice a3 n3 c3, t.l ++ [⟨⟨id, there, xs, ys⟩, .slice a5 n5 c5, .slice a6 n6 c6⟩]⟩, by go_num, by omega, H3.out.2.1, by rw [List.length_set]; exact HL4.out, H3.out.2.2 HSG6.out (by decide) (by decide), by rw [HTK.out, dat_set, List.map_append]; exact HPT.out.snoc (by rw [dat, List.getElem?_map, HT.out]; rfl)⟩
              case measure => simp [intOf]; omega
        · have HPL : Hid (Parted L (dat ls)) := Lib.hid (by have h := HPT.out; rwa [List.take_of_length_le (by have := HML.out; omega)] at h)
          have HRD : Hid (∀ w', Mod (fun _ => False) wy w' → LLRd w' (.slice (some ⟨wx.heap.size, 0, none⟩) 4 4) ls) := Lib.hid (fun w' mm => by
            have h := (HLB.out.keep mm).rd (by rw [HL4.out]; omega)
            rw [HL4.out] at h
            exact h)
          have HTWA : Hid (∀ w', Mod (fun _ => False) wy w' → Calls Tryz.prog 13 #[.slice (some ⟨wx.heap.size, 0, none⟩) 4 4] w' fun e w'' => ∃ vo ls', e = .returned vo ∧ Mod (fun _ => False) w' w'' ∧ LLRd w'' vo ls' ∧ dat ls' = dat ls ∧ ls'.length = 4) := Lib.hid (fun w' mm => (twins_any _ ls w' (HRD.out w' mm) (by rw [HL4.out]; omega) (HPL.out.short HG.out.good) (HPL.out.slim HG.out.good)).mono (by
            rintro e w'' ⟨vo, ls', rfl, m2, ho, hd⟩
            exact ⟨vo, ls', rfl, m2, ho.rd, hd, by have h := congrArg List.length hd; simp only [dat, List.length_map] at h; rw [h]; exact HL4.out⟩))
          have HC1 : Hid (∀ vu vl ls' w', dat ls' = dat ls → ls'.length = 4 → LLRd w' vl ls' → FRd w' vu [true, true, true, true] → Calls Tryz.prog 12 #[vl, vu] w' fun e w'' => ∃ ar cr, e = .returned (.tuple #[.slice ar 0 cr, .int .i64 0]) ∧ Mod (fun _ => False) w' w'') := Lib.hid (fun vu vl ls' w' h2 h3 hv hu => (compare_parted HG.out.good vl vu ls' [true, true, true, true] w' hv hu (by rw [h3]; rfl) (by rw [h3]; exact Nat.le_refl _) (by rw [h2]; exact HPL.out)).mono (by
            rintro e w'' ⟨vo, rfl, ht⟩
            have hz : allR (held [true, true, true, true] 0 ls') (![true, true, true, true].any (!·)) = [] := Parted.whole HG.out.good (by rw [h2]; exact HPL.out) (fun i hi => by
              rw [h3] at hi
              rcases i with _ | _ | _ | _ | i
              · rfl
              · rfl
              · rfl
              · rfl
              · omega) _
            rw [hz] at ht
            obtain ⟨a, c, e1, _⟩ := ht.out.shape
            subst e1
            exact ⟨a, c, rfl, ht.mod⟩))
          have HC2 : Hid (∀ (kk : Nat) vu vl ls' w', kk < 4 → dat ls' = dat ls → ls'.length = 4 → LLRd w' vl ls' → FRd w' vu ([true, true, true, true].set kk false) → Calls Tryz.prog 12 #[vl, vu] w' fun e w'' => ∃ ar nb cr reps, e = .returned (.tuple #[.slice ar nb cr, .int .i64 0]) ∧ Mod (fun _ => False) w' w'' ∧ RdS w'' 4 (.slice ar nb cr) nb (rcells reps) ∧ nb = reps.length ∧ nb ≤ cr ∧ cr ≤ 9223372036854775807 ∧ ∀ r ∈ reps, r.kind = 4 ∧ r.node ≠ kk ∧ ∃ l, (dat ls)[kk]? = some l ∧ ∃ z ∈ l, z.id = r.far) := Lib.hid (fun kk vu vl ls' w' hk h2 h3 hv hu => (compare_parted HG.out.good vl vu ls' ([true, true, true, true].set kk false) w' hv hu (by rw [h3]; simp) (by rw [h3]; exact Nat.le_refl _) (by rw [h2]; exact HPL.out)).mono (by
            rintro e w'' ⟨vo, rfl, ht⟩
            obtain ⟨a, c, e1, _⟩ := ht.out.shape
            subst e1
            obtain ⟨_, _, e2, h5, h6, _⟩ := ht.out.rdS.shape
            injection e2 with e2 e3 e4
            subst e4
            have hal : (!([true, true, true, true].set kk false).any (!·)) = false := by
              rcases kk with _ | _ | _ | _ | k
              · rfl
              · rfl
              · rfl
              · rfl
              · omega
            refine ⟨a, _, c, _, rfl, ht.mod, ht.out.rdS, rfl, h5, h6, fun r hr => ?_⟩
            rw [hal] at hr
            have h := Parted.down (k := kk) HG.out.good (by rw [h2]; exact HPL.out) (fun i hi hne => by
              rw [h3] at hi
              rw [List.getElem?_set_ne (Ne.symm hne)]
              rcases i with _ | _ | _ | _ | i
              · rfl
              · rfl
              · rfl
              · rfl
              · omega) (by rw [List.getElem?_set_self (by simpa using hk)]) hr
            rw [h2] at h
            exact h))
          have HUP : Hid (∀ (kk : Nat) (w' : World), kk < 4 → w'.heap[wy.heap.size]? = some (.cells #[.bool true, .bool true, .bool true, .bool true] 4 (0, 0)) → (w'.setCell ⟨wy.heap.size, kk, none⟩ (.bool false)).heap[wy.heap.size]? = some (.cells (([true, true, true, true].set kk false).map Value.bool).toArray 4 (0, 0))) := Lib.hid (fun kk w' hk hb => by
            rw [row_setCell hb kk (.bool false)]
            rcases kk with _ | _ | _ | _ | k
            · rfl
            · rfl
            · rfl
            · rfl
            · omega)
          go_upto_region 21 with (first
            | (have hq := HL1.out; go_at_call 12; go_loud (refine (HC1.out _ _ _ _ HD1.out HN1.out HL1.out HU1.out).mono ?_; (rintro e w6 ⟨ar1, cr1, rfl, hm6⟩); have HM6 := Lib.hid (HM5.out.trans hm6); have HB6 := Lib.hid (hm6.heap HB5.out (fun f => f)); clear hm6 hq))
            | (go_at_call 13; go_loud (refine (HTWA.out _ ((Mod.refl (fun _ => False) wy).alloc (.cells #[.bool true, .bool true, .bool true, .bool true] 4))).mono ?_; (rintro e w5 ⟨vo1, ls1, rfl, hm5, hl5, hd5, hn5⟩); have HM5 : Hid (Mod (fun _ => False) wy w5) := Lib.hid (((Mod.refl (fun _ => False) wy).alloc (.cells #[.bool true, .bool true, .bool true, .bool true] 4)).trans hm5); have HB5 : Hid (w5.heap[wy.heap.size]? = some (.cells #[.bool true, .bool true, .bool true, .bool true] 4 (0, 0))) := Lib.hid (hm5.heap (heap_alloc_new' wy _) (fun f => f)); have HU1 : Hid (FRd w5 (.slice (some ⟨wy.heap.size, 0, none⟩) 4 4) [true, true, true, true]) := Lib.hid (frd_box (n := 4) HB5.out rfl (by omega)); have HL1 := Lib.hid hl5; have HD1 := Lib.hid hd5; have HN1 := Lib.hid hn5; clear hm5 hl5 hd5 hn5)))
          clear HL1 HD1 HN1 HU1 HM5 HB5 HC1
          go_cut [17] (fun s wz => w6 = wz ∧ ∃ kk : Nat, s = .int .i64 (kk : Int) ∧ kk < 4)
          case first =>
            have hdw := HDW.out
            go_wp2
            go_meet
            exact ⟨rfl, dw % 4, by first | rfl | simp | (congr 1; omega), by omega⟩
          case rest =>
            obtain ⟨rfl, kk, rfl, hkk⟩ := hcut
            have hk4 : (kk : Int) < 4 := by omega
            have u0 : w6.cell? ⟨wy.heap.size, kk, none⟩ = some (.bool true) := by
              rw [cell_of_row HB6.out kk]
              rcases kk with _ | _ | _ | _ | k
              · rfl
              · rfl
              · rfl
              · rfl
              · omega
            have uf := free_of_row HB6.out kk
            have zu := lt_of_block HB6.out
            have HM7 : Hid (Mod (fun _ => False) wy (w6.setCell ⟨wy.heap.size, kk, none⟩ (.bool false))) := Lib.hid (HM6.out.setCell (p := ⟨wy.heap.size, kk, none⟩) (fun h => absurd h (Nat.lt_irrefl _)) _)
            have HB7 := Lib.hid (HUP.out kk w6 hkk HB6.out)
            go_upto_region 24 with (first
              | (have hq := HL2.out; go_at_call 12; go_loud (refine (HC2.out kk _ _ _ _ hkk HD2.out HN2.out HL2.out HU2.out).mono ?_; (rintro e w9 ⟨ar2, nb, cr2, reps, rfl, hm9, hr9, hnb, hcr1, hcr2, hrep⟩); have HM9 := Lib.hid (HM8.out.trans hm9); have HR9 := Lib.hid hr9; have HNB := Lib.hid hnb; have HREP := Lib.hid hrep; clear hm9 hr9 hnb hrep hq))
              | (go_at_call 13; go_loud (refine (HTWA.out _ HM7.out).mono ?_; (rintro e w8 ⟨vo2, ls2, rfl, hm8, hl8, hd8, hn8⟩); have HM8 := Lib.hid (HM7.out.trans hm8); have HU2 : Hid (FRd w8 (.slice (some ⟨wy.heap.size, 0, none⟩) 4 4) ([true, true, true, true].set kk false)) := Lib.hid (frd_box (n := 4) (hm8.heap HB7.out (fun f => f)) (by simp) (by omega)); have HL2 := Lib.hid hl8; have HD2 := Lib.hid hd8; have HN2 := Lib.hid hn8; clear hm8 hl8 hd8 hn8)))
            clear HL2 HD2 HN2 HU2 HM8 HB7 HM7 HC2 HUP HTWA u0 uf zu HB6 HM6
            obtain ⟨t, ht⟩ : ∃ t, ls[kk]? = some t := ⟨_, List.getElem?_eq_getElem (by rw [HL4.out]; exact hkk)⟩
            obtain ⟨at_, ct, htv, htc1, htc2⟩ : ∃ a c, t.v = .slice a t.l.length c ∧ t.l.length ≤ c ∧ c ≤ 9223372036854775807 := by
              obtain ⟨a, c, e, h1, h2, _⟩ := (HLB.out.own t (List.mem_of_getElem? ht)).row.rdS.shape
              exact ⟨a, c, e, h1, h2⟩
            have HT := Lib.hid ht
            have HTV := Lib.hid htv
            have HLBM := Lib.hid (HLB.out.keep HM9.out)
            have HTL : Hid (LRd w9 t.v t.l) := Lib.hid (HLBM.out.own t (List.mem_of_getElem? ht)).rd
            obtain ⟨tn, htn⟩ : ∃ k, k = t.l.length := ⟨_, rfl⟩
            have HTN := Lib.hid htn
            rw [htv, ← htn] at HTL
            rw [← htn] at htc1
            clear ht htv htn
            go_wp2
            go_loopw [108] (fun i wz => ∃ j : Nat, i = .int .i64 (j : Int) ∧ j ≤ nb ∧ Mod (fun _ => False) w9 wz) (fun i _ => nb - (intOf i).toNat)
            case atStart => exact ⟨0, rfl, Nat.zero_le _, Mod.refl _ _⟩
            case round =>
              obtain ⟨wz, hwz⟩ : ∃ wz : World, wz = wr := ⟨_, rfl⟩
              subst hwz
              obtain ⟨j2, rfl, hj2, hmz⟩ := hrel
              have HMZ := Lib.hid hmz
              clear hmz
              by_cases hjb : j2 < nb
              · obtain ⟨r, hr⟩ : ∃ r, reps[j2]? = some r := ⟨_, List.getElem?_eq_getElem (by rw [← HNB.out]; exact hjb)⟩
                obtain ⟨br, offr, e0, hbr, p0, p1, p2, p3⟩ := rep_ent HR9.out hr rfl
                subst e0
                replace p0 := HMZ.out.cell p0
                replace p1 := HMZ.out.cell p1
                replace p2 := HMZ.out.cell p2
                replace p3 := HMZ.out.cell p3
                have zbr := Nat.lt_of_lt_of_le hbr HMZ.out.size
                obtain ⟨k4, knd, l, hl, z, hz, hzf⟩ := HREP.out r (List.mem_of_getElem? hr)
                have HANY : Hid ((t.l.any fun s => s.x.id == r.far) = true) := Lib.hid (by
                  rw [dat, List.getElem?_map, HT.out] at hl
                  injection hl with hl
                  subst hl
                  rw [List.mem_map] at hz
                  obtain ⟨s, hs, rfl⟩ := hz
                  rw [List.any_eq_true]
                  exact ⟨s, hs, by simpa using hzf⟩)
                clear hr hbr hl hz hzf z l
                obtain ⟨rk, rn, rid, far⟩ := r
                simp only at p0 p1 p2 p3 k4 knd HANY
                subst k4
                have fn : ((rn : Int) == (kk : Int)) = false := by simp; omega
                clear knd
                have y0 : wz.cell? ⟨wx.heap.size, kk, none⟩ = some (.slice at_ tn ct) := by
                  rw [cell_of_row (HLBM.out.keep HMZ.out).box]
                  have h := HTV.out
                  rw [← HTN.out] at h
                  rw [← h]
                  simp [HT.out]
                have zy := lt_of_block (HLBM.out.keep HMZ.out).box
                obtain ⟨w10, hw10⟩ : ∃ W, W = wz.alloc (.cells #[.int .u8 4, .int .i64 (rn : Int), .int .u32 (rid : Int), .int .u32 (far : Int)] 52) := ⟨_, rfl⟩
                have HB10 : Hid (w10.heap[wz.heap.size]? = some (.cells #[.int .u8 4, .int .i64 (rn : Int), .int .u32 (rid : Int), .int .u32 (far : Int)] 52 (0, 0))) := Lib.hid (by rw [hw10]; exact heap_alloc_new' _ _)
                have HM10 : Hid (Mod (fun _ => False) wz w10) := Lib.hid (by rw [hw10]; exact (Mod.refl _ _).alloc _)
                have HW10 := Lib.hid hw10
                clear hw10
                go_wp2
                clear p0 p1 p2 p3 zbr y0 zy
                rw [← HW10.out]
                go_loopw [117, 22] (fun i g wa => ∃ (a : Nat) (b : Bool), i = .int .i64 (a : Int) ∧ a ≤ tn ∧ g = .bool b ∧ b = ((t.l.take a).any fun s => s.x.id == far) ∧ Mod (fun _ => False) w10 wa) (fun i _ _ => tn - (intOf i).toNat)
                case atStart => exact ⟨0, false, rfl, Nat.zero_le _, rfl, by simp, Mod.refl _ _⟩
                case round =>
                  obtain ⟨a, b, rfl, ha, rfl, hb, hma⟩ := hrel
                  have HMA := Lib.hid hma
                  have HBA := Lib.hid hb
                  clear hma hb
                  have hb10 := HMA.out.heap HB10.out (fun f => f)
                  have q0 := cell_of_row hb10 0
                  have q1 := cell_of_row hb10 1
                  have q3 := cell_of_row hb10 3
                  have zq := lt_of_block hb10
                  simp at q0 q1 q3
                  clear hb10
                  by_cases hat : a < tn
                  · obtain ⟨s, hs⟩ : ∃ s, t.l[a]? = some s := ⟨_, List.getElem?_eq_getElem (by rw [← HTN.out]; exact hat)⟩
                    obtain ⟨bs, offs, e1, hbs, s0, s1, s2, s3⟩ := HTL.out.ent hs rfl
                    subst e1
                    have hmz : Mod (fun _ => False) w9 wr := HMZ.out.trans (HM10.out.trans HMA.out)
                    replace s0 := hmz.cell s0
                    replace s1 := hmz.cell s1
                    replace s2 := hmz.cell s2
                    replace s3 := hmz.cell s3
                    have zbs := Nat.lt_of_lt_of_le hbs hmz.size
                    have HSTEP : Hid (((t.l.take (a + 1)).any fun s => s.x.id == far) = (b || (s.x.id == far))) := Lib.hid (by
                      obtain ⟨h1, h2⟩ := List.getElem?_eq_some_iff.1 hs
                      rw [List.take_succ_eq_append_getElem h1, h2, List.any_append, ← HBA.out]
                      simp)
                    have hvr := HTL.out.at hs
                    clear hs hbs hmz
                    obtain ⟨⟨sid, sth, sp, sh⟩, svp, svh⟩ := s
                    simp only at s0 s1 s2 s3 HSTEP
                    obtain ⟨a7, c7, n7, rfl⟩ : ∃ a c n, svp = .slice a n c := by
                      obtain ⟨a, c, e, _⟩ := hvr.props.shape
                      exact ⟨_, _, _, e⟩
                    obtain ⟨a8, c8, n8, rfl⟩ : ∃ a c n, svh = .slice a n c := by
                      obtain ⟨a, c, e, _⟩ := hvr.halves.shape
                      exact ⟨_, _, _, e⟩
                    clear hvr
                    cases b with
                    | true =>
                      go_wp2
                      go_roundw
                      case rel => exact ⟨a + 1, true, by go_num, by omega, rfl, by rw [HSTEP.out]; rfl, HMA.out.trans ((Mod.refl _ _).alloc _)⟩
                      case measure => simp [intOf]; omega
                    | false =>
                      by_cases he : sid = far
                      · have f1 : ((sid : Int) == (far : Int)) = true := by simp; omega
                        go_wp2
                        go_roundw
                        case rel => exact ⟨a + 1, true, by go_num, by omega, rfl, by rw [HSTEP.out]; simp [he], HMA.out.trans ((Mod.refl _ _).alloc _)⟩
                        case measure => simp [intOf]; omega
                      · have f1 : ((sid : Int) == (far : Int)) = false := by simp; omega
                        go_wp2
                        go_roundw
                        case rel => exact ⟨a + 1, false, by go_num, by omega, rfl, by rw [HSTEP.out]; simp [he], HMA.out.trans ((Mod.refl _ _).alloc _)⟩
                        case measure => simp [intOf]; omega
                  · have hbt : b = true := by
                      rw [HBA.out, List.take_of_length_le (by have := HTN.out; omega)]
                      exact HANY.out
                    subst hbt
                    have HMF := Lib.hid (HMZ.out.trans (HM10.out.trans HMA.out))
                    go_wp2
                    go_roundw
                    case rel => exact ⟨j2 + 1, by go_num, by omega, HMF.out⟩
                    case measure => simp [intOf]; omega
              · go_wp2
                go_ret
                exact ⟨rfl, HG.out.mod.trans (HLB.out.mod.trans (HM9.out.trans HMZ.out))⟩
end Go.Proofs.YtnkmfgklmfmfeaaGreatDoor
