/- Lemmas for the claim, in one text: HE, HF, YLaid. -/
import Derived.Test.YtnkmfgklmfmfeaaGreatDoorM34
import Derived.Test.YtnkmfgklmfmfeaaGreatDoorHD
import Derived.Test.YtnkmfgklmfmfeaaGreatDoorHC
import Derived.Test.YtnkmfgklmfmfeaaGreatDoorM33
import Derived.Test.YtnkmfgklmfmfeaaGreatDoorM13
import Derived.Test.YtnkmfgklmfmfeaaGreatDoorM16
import Derived.Test.YtnkmfgklmfmfeaaGreatDoorRows
import Derived.LaidLaws
import Derived.LaidHandle
import Derived.Handed
import Derived.RowKit

/- HE: what is needed of it (by shake.py). -/

/- HE, as far as the seat goes. -/
/- gussetlaw23.RepairTwice, walked. (Printed by gen_repair.py.) -/
namespace Go.Proofs.YtnkmfgklmfmfeaaGreatDoor
set_option linter.unusedVariables false
set_option linter.unusedSimpArgs false
open Go.RowKit Go.Maps
set_option maxRecDepth 100000 in
set_option maxHeartbeats 8000000 in
theorem twice_main (vs : Value) (rs : List Qs) (pk pa pb : Nat) (hpk : pk < 256) (hpa : pa < 256) (hpb : pb < 256) (w : World) (hs : QRd w vs rs) (hg : ErrT w) :
    Calls Tryz.prog 5 #[vs, .int .u8 (pk : Int), .int .u8 (pa : Int), .int .u8 (pb : Int)] w fun e w' => e = .returned (.bool true) ∧ Mod (fun _ => False) w w' := by
  have HPK := Lib.hid hpk
  have HPA := Lib.hid hpa
  have HPB := Lib.hid hpb
  clear hpk hpa hpb
  have HAW := Lib.hid (awake23_any w)
  have HE := Lib.hid hg
  have HRS := Lib.hid hs
  obtain ⟨as_, cs_, rfl, hcs, hcs2, -⟩ := hs.row.shape
  obtain ⟨n, hn⟩ : ∃ n, n = rs.length := ⟨_, rfl⟩
  rw [← hn] at HRS hcs ⊢
  have HN := Lib.hid hn
  clear hs hn hg
  go_enter Tryz.func5, Tryz.ntmps5
  go_wp2_with (first
    | (go_at_call 7; refine (snew_any w w1 HM1.out).mono ?_; (rintro e w2 ⟨rfl, hm2, hst, hz2⟩); have HST0 := Lib.hid hst; clear hm2 hst hz2)
    | (go_at_call 6; refine HAW.out.mono ?_; (rintro e w1 ⟨rfl, hm1⟩); have HM1 := Lib.hid hm1; clear hm1))
  go_loopw [26] (fun i wr => ∃ k : Nat, i = .int .i64 (k : Int) ∧ k ≤ n ∧ ∃ L, GSt w (w1.heap.size + 1) w1.heap.size L wr) (fun i _ => n - (intOf i).toNat)
  case atStart => exact ⟨0, rfl, Nat.zero_le _, _, HST0.out⟩
  case round =>
    obtain ⟨k, rfl, hk, L, hst⟩ := hrel
    have HST := Lib.hid hst
    clear hst HST0
    by_cases hkn : k < n
    · skip
      obtain ⟨q, hq⟩ : ∃ q, rs[k]? = some q := ⟨_, List.getElem?_eq_getElem (by rw [← HN.out]; exact hkn)⟩
      obtain ⟨bl, offl, e0, hbl, r0, r1, r2, r3, r4⟩ := HRS.out.ent hq rfl
      replace r0 := HST.out.mod.cell r0
      replace r1 := HST.out.mod.cell r1
      replace r2 := HST.out.mod.cell r2
      replace r3 := HST.out.mod.cell r3
      replace r4 := HST.out.mod.cell r4
      have zbl : bl < wr.heap.size := Nat.lt_of_lt_of_le hbl HST.out.mod.size
      have HOR := Lib.hid (HRS.out.each q (List.mem_of_getElem? hq))
      have HSM := Lib.hid (HRS.out.small q (List.mem_of_getElem? hq))
      clear hq hbl
      subst e0
      obtain ⟨⟨kind, ops, vq, kk, dd⟩, qo⟩ := q
      obtain ⟨aq, cq, hqe, -⟩ := HOR.out.row.shape
      simp only at hqe HOR r0 r1 r2 r3 r4
      subst hqe
      obtain ⟨nq, hnq⟩ : ∃ n, n = ops.length := ⟨_, rfl⟩
      rw [← hnq] at r1 HOR
      have HMQ : Hid (Mod (fun _ => False) wr (wr.alloc (.cells #[.int .u8 (kind : Int), .slice aq nq cq, .int .u32 (vq : Int), .int .i64 kk, .int .i64 dd] 30))) := Lib.hid ((Mod.refl _ _).alloc _)
      have HNQ := Lib.hid hnq
      clear hnq
      by_cases hlim : k < 50
      · have hlim' : (k : Int) < 50 := by omega
        have HTW : Hid (Calls Tryz.prog 9 #[.agg #[.int .u8 (kind : Int), .slice aq nq cq, .int .u32 (vq : Int), .int .i64 kk, .int .i64 dd]] (wr.alloc (.cells #[.int .u8 (kind : Int), .slice aq nq cq, .int .u32 (vq : Int), .int .i64 kk, .int .i64 dd] 30)) fun e w' => ∃ ao co, e = .returned (.agg #[.int .u8 (kind : Int), .slice ao nq co, .int .u32 (vq : Int), .int .i64 kk, .int .i64 dd]) ∧ Mod (fun _ => False) (wr.alloc (.cells #[.int .u8 (kind : Int), .slice aq nq cq, .int .u32 (vq : Int), .int .i64 kk, .int .i64 dd] 30)) w' ∧ ORd w' (.slice ao nq co) ops) := Lib.hid ((twinreq_any ⟨kind, ops, vq, kk, dd⟩ (.slice aq nq cq) (wr.alloc (.cells #[.int .u8 (kind : Int), .slice aq nq cq, .int .u32 (vq : Int), .int .i64 kk, .int .i64 dd] 30)) (HOR.out.keep (HST.out.mod.trans HMQ.out)) HSM.out.size).mono (by
          rintro e w' ⟨vo, rfl, m, ho⟩
          obtain ⟨a, c, e1, -⟩ := ho.row.shape
          simp only at e1
          rw [← HNQ.out] at e1
          subst e1
          exact ⟨a, c, rfl, m, ho⟩))
        have HDO : Hid (∀ ao co w', Mod (fun _ => False) wr w' → ORd w' (.slice ao nq co) ops → Calls Tryz.prog 8 #[.pointer (some ⟨w1.heap.size + 1, 0, none⟩), .agg #[.int .u8 (kind : Int), .slice ao nq co, .int .u32 (vq : Int), .int .i64 kk, .int .i64 dd]] w' fun e w'' => ∃ vd, e = .returned vd ∧ GSt w (w1.heap.size + 1) w1.heap.size (doG L ⟨kind, ops, vq, kk, dd⟩).1 w'') := Lib.hid (fun ao co w' m ho => (sgdo_any (w1.heap.size + 1) w1.heap.size L ⟨kind, ops, vq, kk, dd⟩ (.slice ao nq co) w w' (HST.out.keep m) ho HSM.out.fits.v HE.out).mono (by
          rintro e w'' ⟨vv, vl, rfl, hs⟩
          exact ⟨_, rfl, hs.st⟩))
        go_wp2_with (first
          | (have hq := HM5.out; go_at_call 8; go_loud (refine (HDO.out _ _ _ HM5.out HO5.out).mono ?_; (rintro e w6 ⟨vd, rfl, hs6⟩); have HS6 := Lib.hid hs6; clear hs6 hq))
          | (go_at_call 9; go_loud (refine HTW.out.mono ?_; (rintro e w5 ⟨ao, co, rfl, hm5, ho5⟩); have HM5 : Hid (Mod (fun _ => False) wr w5) := Lib.hid (HMQ.out.trans hm5); have HO5 := Lib.hid ho5; clear hm5 ho5)))
        go_roundw
        case rel => exact ⟨k + 1, by go_num, by omega, _, HS6.out⟩
        case measure => simp [intOf]; omega
      · have hlim' : ¬ (k : Int) < 50 := by omega
        have HSQ := Lib.hid (HST.out.keep HMQ.out)
        go_wp2
        go_roundw
        case rel => exact ⟨k + 1, by go_num, by omega, _, HSQ.out⟩
        case measure => simp [intOf]; omega
    · clear HRS HN
      obtain ⟨wx, hwx⟩ : ∃ wx : World, wx = wr := ⟨_, rfl⟩
      subst hwx
      obtain ⟨m, hm⟩ : ∃ m, m = L.length := ⟨_, rfl⟩
      have HML := Lib.hid hm
      clear hm
      have HG := HST
      have HLI : Hid (∀ w', Mod (fun _ => False) wx w' → Calls Tryz.prog 10 #[.pointer (some ⟨w1.heap.size + 1, 0, none⟩)] w' fun e w'' => ∃ ai ci, e = .returned (.slice ai m ci) ∧ Mod (fun _ => False) w' w'' ∧ m ≤ ci ∧ ci ≤ 9223372036854775807 ∧ Seg w'' 28 1 (.slice ai m ci) m ((L.map Vtx.id).map (keyV .u32))) := Lib.hid (fun w' mm => (slist_any _ _ L w w' (HG.out.keep mm)).mono (by
        rintro e w'' ⟨v, rfl, hs⟩
        have h := hs.seg
        rw [List.length_map, ← HML.out] at h
        obtain ⟨a, c, e1, h1, h2, -⟩ := h.rdS.shape
        subst e1
        exact ⟨a, c, rfl, hs.mod, h1, h2, h⟩))
      obtain ⟨i0, hi, hz0, hz1, hz2⟩ := info_parts infoVtx
      have HI : Hid (Tryz.prog.info? 44 = some i0 ∧ i0.zero = some (.agg #[.int .u32 0, .bool false, .slice none 0 0, .slice none 0 0]) ∧ i0.size = 4 ∧ i0.bytes = 56) := ⟨hi, hz0, hz1, hz2⟩
      clear hi hz0 hz1 hz2
      have HM40 : Hid (m ≤ 40) := Lib.hid (by have := HG.out.good.short; have := HML.out; omega)
      go_upto_region 11 with (go_at_call 10; go_loud (refine (HLI.out _ (Mod.refl _ _)).mono ?_; (rintro e w3 ⟨ai, ci, rfl, hm3, hc31, hc32, hs3⟩); have HG3 := Lib.hid (HG.out.keep hm3); have HS3 := Lib.hid hs3; clear hm3 hs3))
      clear HG HLI HST
      obtain ⟨wx, hwx⟩ : ∃ W : World, W = w3 := ⟨_, rfl⟩
      subst hwx
      have HG := HG3
      clear HG3
      go_cut [13, 14] (fun s s' wz => wx = wz ∧ ∃ xx yy : Nat, s = .int .i64 (xx : Int) ∧ s' = .int .i64 (yy : Int) ∧ xx < 4 ∧ yy < 4)
      case first =>
        have hpa := HPA.out
        have hpb := HPB.out
        go_wp2
        go_meet
        exact ⟨rfl, pa % 4, pb % 4, by first | rfl | simp | (congr 1; omega), by first | rfl | simp | (congr 1; omega), by omega, by omega⟩
      case rest =>
        obtain ⟨rfl, xx, yy, rfl, rfl, hx4, hy4⟩ := hcut
        by_cases hm0 : m = 0
        · have f0 : ((m : Int) == 0) = true := by simp; omega
          go_wp2
          go_ret
          exact ⟨rfl, HG.out.mod⟩
        · have f0 : ((m : Int) == 0) = false := by simp; omega
          by_cases hxy : xx = yy
          · have f1 : ((xx : Int) == (yy : Int)) = true := by simp; omega
            go_wp2
            go_ret
            exact ⟨rfl, HG.out.mod⟩
          · have f1 : ((xx : Int) == (yy : Int)) = false := by simp; omega
            have HXY := Lib.hid hxy
            obtain ⟨pi, hpi, hpm⟩ : ∃ pi : Nat, (pk : Int) % (m : Int) = (pi : Int) ∧ pi < m := ⟨pk % m, by simp, Nat.mod_lt _ (by omega)⟩
            obtain ⟨v, hv⟩ : ∃ v, L[pi]? = some v := ⟨_, List.getElem?_eq_getElem (by rw [← HML.out]; exact hpm)⟩
            have HVL : Hid (v ∈ L) := Lib.hid (List.mem_of_getElem? hv)
            obtain ⟨b0, off0, e0, zb0, r0⟩ := num_ent HS3.out.rdS (i := pi) (x := v.id) (by rw [List.getElem?_map, hv]; rfl) rfl
            subst e0
            obtain ⟨vid, hvid⟩ : ∃ k, k = v.id := ⟨_, rfl⟩
            rw [← hvid] at r0
            have HVID := Lib.hid hvid
            have hpk := HPK.out
            clear hv hvid hxy
            have hmk := mk4_lists wx
            go_wp2
            have HLB0 : Hid (LbAt wx wx.heap.size (List.replicate 4 ⟨.slice none 0 0, []⟩) (wx.alloc (.cells #[.slice none 0 0, .slice none 0 0, .slice none 0 0, .slice none 0 0] 40))) := Lib.hid (LbAt.start wx 4)
            have HS4 := Lib.hid (HS3.out.alloc (.cells #[.slice none 0 0, .slice none 0 0, .slice none 0 0, .slice none 0 0] 40))
            clear hmk r0 zb0 hpi hpm f0 f1 hpk
            go_loopw [65] (fun i wy => ∃ (j : Nat) (ls : List Ls), i = .int .i64 (j : Int) ∧ j ≤ m ∧ LbAt wx wx.heap.size ls wy ∧ ls.length = 4 ∧ Seg wy 28 1 (.slice (some ⟨b0, off0, none⟩) m ci) m ((L.map Vtx.id).map (keyV .u32)) ∧ dat ls = twParts xx yy vid (L.take j)) (fun i _ => m - (intOf i).toNat)
            case atStart => exact ⟨0, _, rfl, Nat.zero_le _, HLB0.out, rfl, HS4.out, by
              have h : dat (List.replicate 4 (⟨.slice none 0 0, []⟩ : Ls)) = List.replicate 4 [] := rfl
              rw [h, List.take_zero]
              unfold twParts
              rw [List.filter_nil, List.set_replicate_self, List.set_replicate_self]⟩
            case round =>
              obtain ⟨wy, hwy⟩ : ∃ wy : World, wy = wr := ⟨_, rfl⟩
              subst hwy
              obtain ⟨j, ls, rfl, hj, hlb, h4, hsg, hdt⟩ := hrel
              have HLB := Lib.hid hlb
              have HL4 := Lib.hid h4
              have HSG := Lib.hid hsg
              have HDT := Lib.hid hdt
              clear hlb h4 hsg hdt HLB0 HS3 HS4
              by_cases hjm : j < m
              · skip
                obtain ⟨x, hx⟩ : ∃ x, L[j]? = some x := ⟨_, List.getElem?_eq_getElem (by rw [← HML.out]; exact hjm)⟩
                obtain ⟨bi, offi, e0, zbi, r0⟩ := num_ent HSG.out.rdS (i := j) (x := x.id) (by rw [List.getElem?_map, hx]; rfl) rfl
                obtain ⟨rfl, rfl⟩ : b0 = bi ∧ off0 = offi := by simpa using e0
                clear e0
                have hxm := List.mem_of_getElem? hx
                have HVX : Hid (∀ w', Mod (fun _ => False) wx w' → Calls Tryz.prog 11 #[.pointer (some ⟨w1.heap.size + 1, 0, none⟩), .int .u32 (x.id : Int)] w' (Twins w' x)) := Lib.hid (fun w' mm => by
                  have := svertex_any _ _ L x.id w w' (HG.out.keep mm) (by have := (HG.out.good.each x hxm).id; omega)
                  rwa [tellV_mem HG.out.good.rise hxm] at this)
                have HTK : Hid (L.take (j + 1) = L.take j ++ [x]) := Lib.hid (by
                  obtain ⟨h1, h2⟩ := List.getElem?_eq_some_iff.1 hx
                  rw [List.take_succ_eq_append_getElem h1, h2])
                clear hx hxm
                obtain ⟨id, there, xs, ys⟩ := x
                simp only at r0 HVX
                have HJ40 : Hid (j < 40) := Lib.hid (by have := HM40.out; omega)
                go_upto_region 19 with fail
                go_cut [79] (fun s wz => ∃ ls', LbAt wx wx.heap.size ls' wz ∧ ls'.length = 4 ∧ Seg wz 28 1 (.slice (some ⟨b0, off0, none⟩) m ci) m ((L.map Vtx.id).map (keyV .u32)) ∧ dat ls' = (twParts xx yy vid (L.take j)).set xx (L.take j ++ [⟨id, there, xs, ys⟩]))
                case first =>
                  obtain ⟨t, ht⟩ : ∃ t, ls[xx]? = some t := ⟨_, List.getElem?_eq_getElem (by rw [HL4.out]; assumption)⟩
                  obtain ⟨at_, ct, htv⟩ : ∃ a c, t.v = .slice a t.l.length c := by
                    obtain ⟨a, c, e, _⟩ := (HLB.out.own t (List.mem_of_getElem? ht)).row.shape
                    exact ⟨a, c, e⟩
                  have HT := Lib.hid ht
                  have HTM : Hid (t.l.map Vs.x = L.take j) := Lib.hid (by
                    have h : (dat ls)[xx]? = some (t.l.map Vs.x) := by rw [dat, List.getElem?_map, ht]; rfl
                    rw [HDT.out, twParts_x (by omega) HXY.out] at h
                    injection h with h
                    exact h.symm)
                  have HLT : Hid (t.l.length ≤ 40) := Lib.hid (by
                    have h1 := congrArg List.length HTM.out
                    rw [List.length_map, List.length_take] at h1
                    have := HJ40.out
                    omega)
                  have y0 : wy.cell? ⟨wx.heap.size, xx, none⟩ = some (.slice at_ t.l.length ct) := by
                    rw [cell_of_row HLB.out.box, ← htv]
                    simp [ht]
                  have zb := lt_of_block HLB.out.box
                  have hn4 : (xx : Int) < 4 := by omega
                  have HTV := Lib.hid htv
                  obtain ⟨tn, htn⟩ : ∃ k, k = t.l.length := ⟨_, rfl⟩
                  rw [← htn] at y0
                  have HTN := Lib.hid htn
                  clear ht htv htn
                  go_wp2_with fail
                  go_region_law (first
                    | (go_simp; go_at_call 11; refine (HVX.out _ (HLB.out.mod.drew)).mono ?_; rintro e w4 ⟨vp4, vh4, rfl, hm4, hn4⟩; (obtain ⟨a5, c5, n5, rfl⟩ : ∃ a c n, vp4 = .slice a n c := (by obtain ⟨a, c, e, _⟩ := hn4.props.shape; exact ⟨_, _, _, e⟩)); (obtain ⟨a6, c6, n6, rfl⟩ : ∃ a c n, vh4 = .slice a n c := (by obtain ⟨a, c, e, _⟩ := hn4.halves.shape; exact ⟨_, _, _, e⟩)); have hm5 : Mod (fun _ => False) wy w4 := ((Mod.refl (fun _ => False) wy).drew).trans hm4; have q0 := hm5.cell y0; have zq := Nat.lt_of_lt_of_le zb hm5.size;
                       have hm6 : Mod (fun _ => False) wy (w4.alloc (.cells #[.int .u32 (id : Int), .bool there, .slice a5 n5 c5, .slice a6 n6 c6] 44)) := hm5.alloc _;
                       have HLB6 := Lib.hid (HLB.out.keep hm6);
                       have HSG6 := Lib.hid (HSG.out.mod hm6 (fun _ _ f => f));
                       have HV6 := Lib.hid (hn4.vown.mod ((Mod.refl (fun _ => False) w4).alloc (.cells #[.int .u32 (id : Int), .bool there, .slice a5 n5 c5, .slice a6 n6 c6] 44)) ⟨fun _ _ f => f, fun _ _ f => f⟩);
                       have HROW : Hid (Seg (w4.alloc (.cells #[.int .u32 (id : Int), .bool there, .slice a5 n5 c5, .slice a6 n6 c6] 44)) 44 4 (.slice at_ tn ct) tn (vcells t.l)) := Lib.hid (by have h := (HLB6.out.own t (List.mem_of_getElem? HT.out)).row; rw [HTV.out, ← HTN.out] at h; exact h);
                       have HSR := Lib.hid (src_cells (w := w4) rfl (size := 4) 44 #[.int .u32 (id : Int), .bool there, .slice a5 n5 c5, .slice a6 n6 c6] rfl (by simp [Value.oneCell'])); clear hm4 hm5 hm6 hn4)
                    | (refine step_append_seg rfl (.tmp 74) (.tmp 78) 40 rfl i0 _ 4 56 Tryz.underlying40 HI.out.1 HI.out.2.1 HI.out.2.2.1 HI.out.2.2.2 rfl (by decide) rfl HROW.out _ 1 _ rfl HSR.out (by have := HLT.out; have := HTN.out; unfold maxLen; omega) (by have := HLT.out; have := HTN.out; omega) ?_; intro v3 w3 hs3 hg3 ho3;
                       have H3 := Lib.hid (HLB6.out.app (s := ⟨⟨id, there, xs, ys⟩, .slice a5 n5 c5, .slice a6 n6 c6⟩) HT.out HV6.out (by rw [HTN.out] at hs3; exact hs3) (by rw [HTV.out, ← HTN.out]; exact hg3) (by rw [HTV.out, ← HTN.out]; exact ho3)); (obtain ⟨a3, c3, n3, rfl⟩ : ∃ a c n, v3 = .slice a n c := (by obtain ⟨a, c, e, _⟩ := hs3.shape; exact ⟨_, _, _, e⟩)); have y3 : w3.cell? ⟨wx.heap.size, xx, none⟩ = some (.slice at_ tn ct) := (by rw [cell_of_row H3.out.1]; have h := HTV.out; rw [← HTN.out] at h; rw [← h]; simp [HT.out]); have y3f := free_of_row H3.out.1 xx; have z3 := lt_of_block H3.out.1; clear hs3 hg3 ho3))
                  all_goals
                    go_step
                    go_step
                    go_meet
                    exact ⟨ls.set xx ⟨.slice a3 n3 c3, t.l ++ [⟨⟨id, there, xs, ys⟩, .slice a5 n5 c5, .slice a6 n6 c6⟩]⟩, H3.out.2.1, by rw [List.length_set]; exact HL4.out, H3.out.2.2 HSG6.out (by decide) (by decide), by rw [dat_set, List.map_append, HTM.out, HDT.out]; rfl⟩
                case rest =>
                  obtain ⟨ls, hlb, h4, hsg, hdt⟩ := hcut
                  have HLB := Lib.hid hlb
                  have HL4 := Lib.hid h4
                  have HSG := Lib.hid hsg
                  have HDT := Lib.hid hdt
                  clear hlb h4 hsg hdt
                  obtain ⟨wy, hwy⟩ : ∃ wy : World, wy = wc := ⟨_, rfl⟩
                  subst hwy
                  by_cases hidv : id = vid
                  · have f1 : ((id : Int) == (vid : Int)) = true := by simp; omega
                    go_upto_region 21 with fail
                    obtain ⟨t, ht⟩ : ∃ t, ls[yy]? = some t := ⟨_, List.getElem?_eq_getElem (by rw [HL4.out]; assumption)⟩
                    obtain ⟨at_, ct, htv⟩ : ∃ a c, t.v = .slice a t.l.length c := by
                      obtain ⟨a, c, e, _⟩ := (HLB.out.own t (List.mem_of_getElem? ht)).row.shape
                      exact ⟨a, c, e⟩
                    have HT := Lib.hid ht
                    have HTM : Hid (t.l.map Vs.x = (L.take j).filter fun z => z.id == vid) := Lib.hid (by
                      have h : (dat ls)[yy]? = some (t.l.map Vs.x) := by rw [dat, List.getElem?_map, ht]; rfl
                      rw [HDT.out, List.getElem?_set_ne HXY.out, twParts_y (by omega)] at h
                      injection h with h
                      exact h.symm)
                    have HLT : Hid (t.l.length ≤ 40) := Lib.hid (by
                      have h1 := congrArg List.length HTM.out
                      have h2 := List.length_filter_le (fun z : Vtx => z.id == vid) (L.take j)
                      rw [List.length_map] at h1
                      rw [List.length_take] at h2
                      have := HJ40.out
                      omega)
                    have HRL : Hid ((dat ls).set yy (t.l.map Vs.x ++ [⟨id, there, xs, ys⟩]) = twParts xx yy vid (L.take (j + 1))) := Lib.hid (by rw [HTK.out, twParts_yes HXY.out (z := ⟨id, there, xs, ys⟩) hidv, HTM.out, HDT.out])
                    clear hidv
                    have y0 : wy.cell? ⟨wx.heap.size, yy, none⟩ = some (.slice at_ t.l.length ct) := by
                      rw [cell_of_row HLB.out.box, ← htv]
                      simp [ht]
                    have zb := lt_of_block HLB.out.box
                    have hn4 : (yy : Int) < 4 := by omega
                    have HTV := Lib.hid htv
                    obtain ⟨tn, htn⟩ : ∃ k, k = t.l.length := ⟨_, rfl⟩
                    rw [← htn] at y0
                    have HTN := Lib.hid htn
                    clear ht htv htn
                    go_wp2_with fail
                    go_region_law (first
                      | (go_simp; go_at_call 11; refine (HVX.out _ (HLB.out.mod.drew)).mono ?_; rintro e w4 ⟨vp4, vh4, rfl, hm4, hn4⟩; (obtain ⟨a5, c5, n5, rfl⟩ : ∃ a c n, vp4 = .slice a n c := (by obtain ⟨a, c, e, _⟩ := hn4.props.shape; exact ⟨_, _, _, e⟩)); (obtain ⟨a6, c6, n6, rfl⟩ : ∃ a c n, vh4 = .slice a n c := (by obtain ⟨a, c, e, _⟩ := hn4.halves.shape; exact ⟨_, _, _, e⟩)); have hm5 : Mod (fun _ => False) wy w4 := ((Mod.refl (fun _ => False) wy).drew).trans hm4; have q0 := hm5.cell y0; have zq := Nat.lt_of_lt_of_le zb hm5.size;
                         have hm6 : Mod (fun _ => False) wy (w4.alloc (.cells #[.int .u32 (id : Int), .bool there, .slice a5 n5 c5, .slice a6 n6 c6] 44)) := hm5.alloc _;
                         have HLB6 := Lib.hid (HLB.out.keep hm6);
                         have HSG6 := Lib.hid (HSG.out.mod hm6 (fun _ _ f => f));
                         have HV6 := Lib.hid (hn4.vown.mod ((Mod.refl (fun _ => False) w4).alloc (.cells #[.int .u32 (id : Int), .bool there, .slice a5 n5 c5, .slice a6 n6 c6] 44)) ⟨fun _ _ f => f, fun _ _ f => f⟩);
                         have HROW : Hid (Seg (w4.alloc (.cells #[.int .u32 (id : Int), .bool there, .slice a5 n5 c5, .slice a6 n6 c6] 44)) 44 4 (.slice at_ tn ct) tn (vcells t.l)) := Lib.hid (by have h := (HLB6.out.own t (List.mem_of_getElem? HT.out)).row; rw [HTV.out, ← HTN.out] at h; exact h);
                         have HSR := Lib.hid (src_cells (w := w4) rfl (size := 4) 44 #[.int .u32 (id : Int), .bool there, .slice a5 n5 c5, .slice a6 n6 c6] rfl (by simp [Value.oneCell'])); clear hm4 hm5 hm6 hn4)
                      | (refine step_append_seg rfl (.tmp 89) (.tmp 93) 40 rfl i0 _ 4 56 Tryz.underlying40 HI.out.1 HI.out.2.1 HI.out.2.2.1 HI.out.2.2.2 rfl (by decide) rfl HROW.out _ 1 _ rfl HSR.out (by have := HLT.out; have := HTN.out; unfold maxLen; omega) (by have := HLT.out; have := HTN.out; omega) ?_; intro v3 w3 hs3 hg3 ho3;
                         have H3 := Lib.hid (HLB6.out.app (s := ⟨⟨id, there, xs, ys⟩, .slice a5 n5 c5, .slice a6 n6 c6⟩) HT.out HV6.out (by rw [HTN.out] at hs3; exact hs3) (by rw [HTV.out, ← HTN.out]; exact hg3) (by rw [HTV.out, ← HTN.out]; exact ho3)); (obtain ⟨a3, c3, n3, rfl⟩ : ∃ a c n, v3 = .slice a n c := (by obtain ⟨a, c, e, _⟩ := hs3.shape; exact ⟨_, _, _, e⟩)); have y3 : w3.cell? ⟨wx.heap.size, yy, none⟩ = some (.slice at_ tn ct) := (by rw [cell_of_row H3.out.1]; have h := HTV.out; rw [← HTN.out] at h; rw [← h]; simp [HT.out]); have y3f := free_of_row H3.out.1 yy; have z3 := lt_of_block H3.out.1; clear hs3 hg3 ho3))
                    all_goals
                      go_wp2
                      go_roundw
                      case rel => exact ⟨j + 1, ls.set yy ⟨.slice a3 n3 c3, t.l ++ [⟨⟨id, there, xs, ys⟩, .slice a5 n5 c5, .slice a6 n6 c6⟩]⟩, by go_num, by omega, H3.out.2.1, by rw [List.length_set]; exact HL4.out, H3.out.2.2 HSG6.out (by decide) (by decide), by rw [dat_set, List.map_append, ← HRL.out]; rfl⟩
                      case measure => simp [intOf]; omega
                  · have f1 : ((id : Int) == (vid : Int)) = false := by simp; omega
                    have HRL : Hid (dat ls = twParts xx yy vid (L.take (j + 1))) := Lib.hid (by rw [HTK.out, twParts_no HXY.out (z := ⟨id, there, xs, ys⟩) hidv]; exact HDT.out)
                    clear hidv
                    go_wp2
                    go_roundw
                    case rel => exact ⟨j + 1, ls, by go_num, by omega, HLB.out, HL4.out, HSG.out, HRL.out⟩
                    case measure => simp [intOf]; omega
              · have HDL : Hid (dat ls = twParts xx yy vid L) := Lib.hid (by have h := HDT.out; rwa [List.take_of_length_le (by have := HML.out; omega)] at h)
                have HRD : Hid (∀ w', Mod (fun _ => False) wy w' → LLRd w' (.slice (some ⟨wx.heap.size, 0, none⟩) 4 4) ls) := Lib.hid (fun w' mm => by
                  have h := (HLB.out.keep mm).rd (by rw [HL4.out]; omega)
                  rw [HL4.out] at h
                  exact h)
                obtain ⟨mx, hmx, hmx2⟩ : ∃ mx : Nat, max (xx : Int) (yy : Int) = (mx : Int) ∧ max xx yy = mx := ⟨max xx yy, by omega, rfl⟩
                have HCT : Hid (∀ vu w', Mod (fun _ => False) wy w' → FRd w' vu [true, true, true, true] → Calls Tryz.prog 12 #[.slice (some ⟨wx.heap.size, 0, none⟩) 4 4, vu] w' fun e w'' => ∃ br offr cr, e = .returned (.tuple #[.slice (some ⟨br, offr, none⟩) 1 cr, .int .i64 0]) ∧ Mod (fun _ => False) wy w'' ∧ br < w''.heap.size ∧ w''.cell? ⟨br, offr, none⟩ = some (.int .u8 1) ∧ w''.cell? ⟨br, offr + 1, none⟩ = some (.int .i64 (mx : Int)) ∧ w''.cell? ⟨br, offr + 2, none⟩ = some (.int .u32 (vid : Int)) ∧ w''.cell? ⟨br, offr + 3, none⟩ = some (.int .u32 0)) := Lib.hid (fun vu w' mm hu => by
                  have hsub : ∀ s ∈ ls, (s.l.map Vs.x).Sublist L := fun s hs => twParts_in _ (by rw [← HDL.out]; exact List.mem_map_of_mem hs)
                  have h40 := HG.out.good.short
                  have hlen : ∀ s ∈ ls, s.l.length ≤ 40 := fun s hs => by
                    have h1 := (hsub s hs).length_le
                    rw [List.length_map] at h1
                    omega
                  have hlw : allR (held [true, true, true, true] 0 ls) (![true, true, true, true].any (!·)) = [⟨1, mx, vid, 0⟩] := by
                    have h := twice_law (ls := ls) HG.out.good HVL.out (by assumption : xx < 4) (by assumption : yy < 4) HXY.out hmx2 HL4.out (by rw [← HVID.out]; exact HDL.out) (![true, true, true, true].any (!·))
                    rw [← HVID.out] at h
                    exact h
                  have hok : ls.any notOK = false := by
                    rw [notOK_of, List.any_eq_false]
                    intro l hl
                    rw [HDL.out] at hl
                    have hs := twParts_in l hl
                    rw [okX_rise none l (List.Pairwise.sublist hs HG.out.good.rise) (fun x hx => ⟨(HG.out.good.each x (hs.subset hx)).there, (HG.out.good.each x (hs.subset hx)).isRight⟩) (fun _ _ => rfl)]
                    simp
                  have h1 := held_len [true, true, true, true] ls 0 40 hlen
                  refine (compare_good _ vu ls [true, true, true, true] w' (HRD.out w' mm) hu (by rw [HL4.out]; rfl) (by rw [HL4.out]; exact Nat.le_refl _) (fun s hs => by have := hlen s hs; omega) hok (by rw [HL4.out] at h1; unfold maxLen; omega) (by rw [hlw]; simp)).mono ?_
                  rintro e w'' ⟨vo, rfl, ht⟩
                  rw [hlw] at ht
                  obtain ⟨a, c, e1, _⟩ := ht.out.shape
                  subst e1
                  obtain ⟨br, offr, ea, hbr, p0, p1, p2, p3⟩ := rep_ent ht.out.rdS (i := 0) (x := ⟨1, mx, vid, 0⟩) rfl rfl
                  subst ea
                  rw [Nat.zero_mul, Nat.add_zero] at p0 p1 p2 p3
                  exact ⟨br, offr, c, rfl, mm.trans ht.mod, hbr, p0, p1, p2, p3⟩)
                go_wp2_with (go_at_call 12; go_loud (refine (HCT.out _ _ ((Mod.refl (fun _ => False) wy).alloc (.cells #[.bool true, .bool true, .bool true, .bool true] 4)) (frd_box (n := 4) (heap_alloc_new' wy _) rfl (by omega))).mono ?_; (rintro e w9 ⟨br, offr, cr, rfl, hm9, hbr, p0, p1, p2, p3⟩); have HM9 := Lib.hid hm9; clear hm9))
                go_ret
                exact ⟨by simp, HG.out.mod.trans (HLB.out.mod.trans HM9.out)⟩
end Go.Proofs.YtnkmfgklmfmfeaaGreatDoor

/- HF: what is needed of it (by shake.py). -/

/- HF, as far as the seat goes. -/
/- RepairWhole, RepairTwice for every argument. -/
namespace Go.Proofs.YtnkmfgklmfmfeaaGreatDoor
set_option linter.unusedVariables false
set_option linter.unusedSimpArgs false
open Go.RowKit Go.Maps
theorem whole_all (v0 v1 v2 : Value) (w : World) (hg : ErrT w) (h0 : InReqs w v0) (h1 : InBytes w v1) (h2 : InU8 w v2) : Calls Tryz.prog 3 #[v0, v1, v2] w fun e w' => e = .returned (.bool true) ∧ Below w.heap.size w w' := by
  obtain ⟨l, h⟩ := h0
  obtain ⟨ol, ho, ho2⟩ := h1
  obtain ⟨d, rfl, hd⟩ := h2
  exact Calls.mono (R := fun e w' => e = .returned (.bool true) ∧ Mod (fun _ => False) w w') (whole_main v0 v1 l ol d hd w h ho ho2 hg) (fun _ _ ⟨h, m⟩ => ⟨h, m.toBelow (Nat.le_refl _) (fun _ _ f => f)⟩)
theorem twice_all (v0 v1 v2 v3 : Value) (w : World) (hg : ErrT w) (h0 : InReqs w v0) (h1 : InU8 w v1) (h2 : InU8 w v2) (h3 : InU8 w v3) : Calls Tryz.prog 5 #[v0, v1, v2, v3] w fun e w' => e = .returned (.bool true) ∧ Below w.heap.size w w' := by
  obtain ⟨l, h⟩ := h0
  obtain ⟨p, rfl, hp⟩ := h1
  obtain ⟨a, rfl, ha⟩ := h2
  obtain ⟨b, rfl, hb⟩ := h3
  exact Calls.mono (R := fun e w' => e = .returned (.bool true) ∧ Mod (fun _ => False) w w') (twice_main v0 l p a b hp ha hb w h hg) (fun _ _ ⟨h, m⟩ => ⟨h, m.toBelow (Nat.le_refl _) (fun _ _ f => f)⟩)
end Go.Proofs.YtnkmfgklmfmfeaaGreatDoor

/- YLaid: what is needed of it (by shake.py). -/

/- YLaid, as far as the seat goes. -/
/- What a row that lists errors.errorType gives a walk; a world that meets it. After the kit's worked Toyas row. -/
namespace Go.Proofs.YtnkmfgklmfmfeaaGreatDoor
open Go.RowKit
theorem laid_et : Tryz.prog.globalNamed "errors.errorType" = some 0 := by kernel_rfl
theorem laid_rt : (Tryz.prog.cutTypes.find? (·.1 == "internal/reflectlite.rtype")).map (·.2) = some 183 := by kernel_rfl
theorem laid_row : ((List.range Tryz.prog.types.size).filter fun t => Tryz.prog.rowNamed t [101, 114, 114, 111, 114]) = [103] := by kernel_rfl
theorem errT_of_laid {W : World} (h : laidMetH Tryz.prog [("errors.errorType", Rows.laid_errors_errorType)] W) : ErrT W := by
  have h' : laidMet Tryz.prog [] W ∧ handlesMet Tryz.prog [("errors.errorType", Rows.laid_errors_errorType)] W := h
  obtain ⟨name, u, ty, e1, e2, e3, e4, e5⟩ := h'.2 _ (List.mem_singleton.2 rfl)
  have en : name = [101, 114, 114, 111, 114] := (Option.some.inj e1).symm
  subst en
  obtain rfl := Option.some.inj (laid_rt.symm.trans e2)
  have hm : ty ∈ (List.range Tryz.prog.types.size).filter fun t => Tryz.prog.rowNamed t [101, 114, 114, 111, 114] := List.mem_filter.2 ⟨List.mem_range.2 e3, e4⟩
  rw [laid_row] at hm
  obtain rfl := List.mem_singleton.1 hm
  have hh : typeHandle Tryz.prog 103 = .pointer (some ⟨1, 103, none⟩) := by kernel_rfl
  rw [hh] at e5
  have h0 := World.var?_cell laid_et e5 0
  unfold ErrT
  simpa using h0
/-- A world that meets the condition. -/
noncomputable def laidWorld (os : Os) : World :=
  let w0 := World.holding Tryz.prog os ⟨#[], #[], []⟩
  { w0 with heap := w0.heap.modify 0 fun
      | .cells _ t frozen => .cells #[.iface 183 (.agg #[.pointer (some ⟨1, 103, none⟩)])] t frozen
      | o => o }
end Go.Proofs.YtnkmfgklmfmfeaaGreatDoor
