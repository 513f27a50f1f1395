/- HI: what is needed of it (by shake.py). -/
import Derived.Test.YtnkmfgklmfmfeaaGreatDoorM35

/- HI, as far as the seat goes. -/
/- gussetlaw23.RepairFinds, walked. (Printed by gen_repair.py.) -/
namespace Go.Proofs.YtnkmfgklmfmfeaaGreatDoor
set_option linter.unusedVariables false
set_option linter.unusedSimpArgs false
open Go.RowKit Go.Maps
def hasH (x : Vtx) : Bool := decide (0 < x.halves.length)
set_option maxRecDepth 100000 in
set_option maxHeartbeats 16000000 in
theorem finds_main (vs : Value) (rs : List Qs) (pk : Nat) (hpk : pk < 256) (gn : Bool) (w : World) (hs : QRd w vs rs) (hg : ErrT w) :
    Calls Tryz.prog 4 #[vs, .int .u8 (pk : Int), .bool gn] w fun e w' => e = .returned (.bool true) ∧ Mod (fun _ => False) w w' := by
  have HPK := Lib.hid hpk
  clear hpk
  have HAW := Lib.hid (awake23_any w)
  have HE := Lib.hid hg
  have HRS := Lib.hid hs
  obtain ⟨as_, cs_, rfl, hcs, hcs2, -⟩ := hs.row.shape
  obtain ⟨n, hn⟩ : ∃ n, n = rs.length := ⟨_, rfl⟩
  rw [← hn] at HRS hcs ⊢
  have HN := Lib.hid hn
  clear hs hn hg
  go_enter Tryz.func4, Tryz.ntmps4
  go_wp2_with (first
    | (go_at_call 7; refine (snew_any w w1 HM1.out).mono ?_; (rintro e w2 ⟨rfl, hm2, hst, hz2⟩); have HST0 := Lib.hid hst; clear hm2 hst hz2)
    | (go_at_call 6; refine HAW.out.mono ?_; (rintro e w1 ⟨rfl, hm1⟩); have HM1 := Lib.hid hm1; clear hm1))
  go_loopw [30] (fun i wr => ∃ k : Nat, i = .int .i64 (k : Int) ∧ k ≤ n ∧ ∃ L, GSt w (w1.heap.size + 1) w1.heap.size L wr) (fun i _ => n - (intOf i).toNat)
  case atStart => exact ⟨0, rfl, Nat.zero_le _, _, HST0.out⟩
  case round =>
    obtain ⟨k, rfl, hk, L, hst⟩ := hrel
    have HST := Lib.hid hst
    clear hst HST0
    by_cases hkn : k < n
    · skip
      obtain ⟨q, hq⟩ : ∃ q, rs[k]? = some q := ⟨_, List.getElem?_eq_getElem (by rw [← HN.out]; exact hkn)⟩
      obtain ⟨bl, offl, e0, hbl, r0, r1, r2, r3, r4⟩ := HRS.out.ent hq rfl
      replace r0 := HST.out.mod.cell r0
      replace r1 := HST.out.mod.cell r1
      replace r2 := HST.out.mod.cell r2
      replace r3 := HST.out.mod.cell r3
      replace r4 := HST.out.mod.cell r4
      have zbl : bl < wr.heap.size := Nat.lt_of_lt_of_le hbl HST.out.mod.size
      have HOR := Lib.hid (HRS.out.each q (List.mem_of_getElem? hq))
      have HSM := Lib.hid (HRS.out.small q (List.mem_of_getElem? hq))
      clear hq hbl
      subst e0
      obtain ⟨⟨kind, ops, vq, kk, dd⟩, qo⟩ := q
      obtain ⟨aq, cq, hqe, -⟩ := HOR.out.row.shape
      simp only at hqe HOR r0 r1 r2 r3 r4
      subst hqe
      obtain ⟨nq, hnq⟩ : ∃ n, n = ops.length := ⟨_, rfl⟩
      rw [← hnq] at r1 HOR
      have HMQ : Hid (Mod (fun _ => False) wr (wr.alloc (.cells #[.int .u8 (kind : Int), .slice aq nq cq, .int .u32 (vq : Int), .int .i64 kk, .int .i64 dd] 30))) := Lib.hid ((Mod.refl _ _).alloc _)
      have HNQ := Lib.hid hnq
      clear hnq
      by_cases hlim : k < 50
      · have hlim' : (k : Int) < 50 := by omega
        have HTW : Hid (Calls Tryz.prog 9 #[.agg #[.int .u8 (kind : Int), .slice aq nq cq, .int .u32 (vq : Int), .int .i64 kk, .int .i64 dd]] (wr.alloc (.cells #[.int .u8 (kind : Int), .slice aq nq cq, .int .u32 (vq : Int), .int .i64 kk, .int .i64 dd] 30)) fun e w' => ∃ ao co, e = .returned (.agg #[.int .u8 (kind : Int), .slice ao nq co, .int .u32 (vq : Int), .int .i64 kk, .int .i64 dd]) ∧ Mod (fun _ => False) (wr.alloc (.cells #[.int .u8 (kind : Int), .slice aq nq cq, .int .u32 (vq : Int), .int .i64 kk, .int .i64 dd] 30)) w' ∧ ORd w' (.slice ao nq co) ops) := Lib.hid ((twinreq_any ⟨kind, ops, vq, kk, dd⟩ (.slice aq nq cq) (wr.alloc (.cells #[.int .u8 (kind : Int), .slice aq nq cq, .int .u32 (vq : Int), .int .i64 kk, .int .i64 dd] 30)) (HOR.out.keep (HST.out.mod.trans HMQ.out)) HSM.out.size).mono (by
          rintro e w' ⟨vo, rfl, m, ho⟩
          obtain ⟨a, c, e1, -⟩ := ho.row.shape
          simp only at e1
          rw [← HNQ.out] at e1
          subst e1
          exact ⟨a, c, rfl, m, ho⟩))
        have HDO : Hid (∀ ao co w', Mod (fun _ => False) wr w' → ORd w' (.slice ao nq co) ops → Calls Tryz.prog 8 #[.pointer (some ⟨w1.heap.size + 1, 0, none⟩), .agg #[.int .u8 (kind : Int), .slice ao nq co, .int .u32 (vq : Int), .int .i64 kk, .int .i64 dd]] w' fun e w'' => ∃ vd, e = .returned vd ∧ GSt w (w1.heap.size + 1) w1.heap.size (doG L ⟨kind, ops, vq, kk, dd⟩).1 w'') := Lib.hid (fun ao co w' m ho => (sgdo_any (w1.heap.size + 1) w1.heap.size L ⟨kind, ops, vq, kk, dd⟩ (.slice ao nq co) w w' (HST.out.keep m) ho HSM.out.fits.v HE.out).mono (by
          rintro e w'' ⟨vv, vl, rfl, hs⟩
          exact ⟨_, rfl, hs.st⟩))
        go_wp2_with (first
          | (have hq := HM5.out; go_at_call 8; go_loud (refine (HDO.out _ _ _ HM5.out HO5.out).mono ?_; (rintro e w6 ⟨vd, rfl, hs6⟩); have HS6 := Lib.hid hs6; clear hs6 hq))
          | (go_at_call 9; go_loud (refine HTW.out.mono ?_; (rintro e w5 ⟨ao, co, rfl, hm5, ho5⟩); have HM5 : Hid (Mod (fun _ => False) wr w5) := Lib.hid (HMQ.out.trans hm5); have HO5 := Lib.hid ho5; clear hm5 ho5)))
        go_roundw
        case rel => exact ⟨k + 1, by go_num, by omega, _, HS6.out⟩
        case measure => simp [intOf]; omega
      · have hlim' : ¬ (k : Int) < 50 := by omega
        have HSQ := Lib.hid (HST.out.keep HMQ.out)
        go_wp2
        go_roundw
        case rel => exact ⟨k + 1, by go_num, by omega, _, HSQ.out⟩
        case measure => simp [intOf]; omega
    · clear HRS HN
      obtain ⟨wx, hwx⟩ : ∃ wx : World, wx = wr := ⟨_, rfl⟩
      subst hwx
      obtain ⟨m, hm⟩ : ∃ m, m = L.length := ⟨_, rfl⟩
      have HML := Lib.hid hm
      clear hm
      have HG := HST
      have HLI : Hid (∀ w', Mod (fun _ => False) wx w' → Calls Tryz.prog 10 #[.pointer (some ⟨w1.heap.size + 1, 0, none⟩)] w' fun e w'' => ∃ ai ci, e = .returned (.slice ai m ci) ∧ Mod (fun _ => False) w' w'' ∧ m ≤ ci ∧ ci ≤ 9223372036854775807 ∧ Seg w'' 28 1 (.slice ai m ci) m ((L.map Vtx.id).map (keyV .u32))) := Lib.hid (fun w' mm => (slist_any _ _ L w w' (HG.out.keep mm)).mono (by
        rintro e w'' ⟨v, rfl, hs⟩
        have h := hs.seg
        rw [List.length_map, ← HML.out] at h
        obtain ⟨a, c, e1, h1, h2, -⟩ := h.rdS.shape
        subst e1
        exact ⟨a, c, rfl, hs.mod, h1, h2, h⟩))
      obtain ⟨i0, hi, hz0, hz1, hz2⟩ := info_parts infoVtx
      have HI : Hid (Tryz.prog.info? 44 = some i0 ∧ i0.zero = some (.agg #[.int .u32 0, .bool false, .slice none 0 0, .slice none 0 0]) ∧ i0.size = 4 ∧ i0.bytes = 56) := ⟨hi, hz0, hz1, hz2⟩
      clear hi hz0 hz1 hz2
      have HM40 : Hid (m ≤ 40) := Lib.hid (by have := HG.out.good.short; have := HML.out; omega)
      have hmk := mk2_lists wx
      go_wp2_with (go_at_call 10; go_loud (clear hmk; refine (HLI.out _ (by repeat (first | exact Mod.refl _ _ | apply Mod.drew | apply Mod.alloc))).mono ?_; (rintro e w3 ⟨ai, ci, rfl, hm3, hc31, hc32, hs3⟩); have HBL : Hid (w3.heap[wx.heap.size]? = some (.cells #[.slice none 0 0, .slice none 0 0] 40 (0, 0))) := Lib.hid (hm3.heap (heap_alloc_new' wx _) (fun f => f)); have HM3 : Hid (Mod (fun _ => False) wx w3) := Lib.hid (((Mod.refl (fun _ => False) wx).alloc (.cells #[.slice none 0 0, .slice none 0 0] 40)).trans hm3); have HS3 := Lib.hid hs3; clear hm3 hs3))
      go_loopw [46, 11] (fun i u wy => ∃ (j : Nat) (al : List Vs), i = .int .i64 (j : Int) ∧ j ≤ m ∧ BfAt w3 u al wy ∧ al.map Vs.x = (L.take j).filter hasH) (fun i _ _ => m - (intOf i).toNat)
      case atStart => exact ⟨0, [], rfl, Nat.zero_le _, BfAt.start _, by simp⟩
      case round =>
        obtain ⟨wy, hwy⟩ : ∃ wy : World, wy = wr := ⟨_, rfl⟩
        subst hwy
        obtain ⟨j, al, rfl, hj, hbf, hal⟩ := hrel
        have HBF := Lib.hid hbf
        have HAL := Lib.hid hal
        have HLA : Hid (al.length ≤ j) := Lib.hid (by
          have h := congrArg List.length hal
          have h2 := List.length_filter_le hasH (L.take j)
          rw [List.length_map] at h
          rw [List.length_take] at h2
          omega)
        obtain ⟨ab, cb, hcb, hcb2, hub⟩ : ∃ a c, al.length ≤ c ∧ c ≤ 9223372036854775807 ∧ _ = Value.slice a al.length c := by
          obtain ⟨a, c, e, h1, h2, _⟩ := hbf.la.row.rdS.shape
          exact ⟨a, c, h1, h2, e⟩
        subst hub
        obtain ⟨q, hq⟩ : ∃ q, q = al.length := ⟨_, rfl⟩
        rw [← hq] at HBF HLA hcb ⊢
        have HQ := Lib.hid hq
        clear hbf hal hq
        by_cases hjm : j < m
        · obtain ⟨x, hx⟩ : ∃ x, L[j]? = some x := ⟨_, List.getElem?_eq_getElem (by rw [← HML.out]; exact hjm)⟩
          obtain ⟨bi, offi, e0, zbi, r0⟩ := num_ent (HS3.out.rdS.keep HBF.out.mod) (i := j) (x := x.id) (by rw [List.getElem?_map, hx]; rfl) rfl
          subst e0
          have hxm := List.mem_of_getElem? hx
          have HVX : Hid (∀ w', Mod (fun _ => False) wx w' → Calls Tryz.prog 11 #[.pointer (some ⟨w1.heap.size + 1, 0, none⟩), .int .u32 (x.id : Int)] w' (Twins w' x)) := Lib.hid (fun w' mm => by
            have := svertex_any _ _ L x.id w w' (HG.out.keep mm) (by have := (HG.out.good.each x hxm).id; omega)
            rwa [tellV_mem HG.out.good.rise hxm] at this)
          have HTK : Hid ((L.take (j + 1)).filter hasH = (L.take j).filter hasH ++ [x].filter hasH) := Lib.hid (by
            obtain ⟨h1, h2⟩ := List.getElem?_eq_some_iff.1 hx
            rw [List.take_succ_eq_append_getElem h1, h2, List.filter_append])
          clear hx hxm
          obtain ⟨id, there, xs, ys⟩ := x
          simp only at r0 HVX
          obtain ⟨nh, hnh⟩ : ∃ n, n = ys.length := ⟨_, rfl⟩
          have HNH := Lib.hid hnh
          clear hnh
          go_upto_region 16 with (go_at_call 11; go_loud (refine (HVX.out _ (HM3.out.trans HBF.out.mod)).mono ?_; (rintro e w4 ⟨vp4, vh4, rfl, hm4, hn4⟩); (obtain ⟨a5, c5, n5, rfl⟩ : ∃ a c n, vp4 = .slice a n c := (by obtain ⟨a, c, e, _⟩ := hn4.props.shape; exact ⟨_, _, _, e⟩)); (obtain ⟨a6, c6, rfl⟩ : ∃ a c, vh4 = .slice a nh c := (by obtain ⟨a, c, e, _⟩ := hn4.halves.shape; exact ⟨a, c, by rw [e, HNH.out]⟩)); have HM4 := Lib.hid hm4; have HN4 := Lib.hid hn4.vown; clear hm4 hn4))
          obtain ⟨w5, hw5⟩ : ∃ W, W = w4.alloc (.cells #[.int .u32 (id : Int), .bool there, .slice a5 n5 c5, .slice a6 nh c6] 44) := ⟨_, rfl⟩
          obtain ⟨bx, hbx⟩ : ∃ b, b = w4.heap.size := ⟨_, rfl⟩
          have h45 : Mod (fun _ => False) w4 w5 := by rw [hw5]; exact (Mod.refl _ _).alloc _
          have hb5 : w5.heap[bx]? = some (.cells #[.int .u32 (id : Int), .bool there, .slice a5 n5 c5, .slice a6 nh c6] 44 (0, 0)) := by rw [hw5, hbx]; exact heap_alloc_new' _ _
          have HBF5 := Lib.hid ((HBF.out.keep HM4.out).keep h45)
          have HV5 := Lib.hid (HN4.out.mod h45 ⟨fun _ _ f => f, fun _ _ f => f⟩)
          have y0 := cell_of_row hb5 0
          have y1 := cell_of_row hb5 1
          have y2 := cell_of_row hb5 2
          have y3 := cell_of_row hb5 3
          have zy := lt_of_block hb5
          simp at y0 y1 y2 y3
          rw [← hw5, ← hbx]
          clear hw5 hbx h45 hb5 HM4 HN4 r0 zbi
          by_cases hnz : 0 < nh
          · have HFS : Hid ([(⟨id, there, xs, ys⟩ : Vtx)].filter hasH = [⟨id, there, xs, ys⟩]) := Lib.hid (List.filter_cons_of_pos (by simp [hasH]; rw [← HNH.out]; exact hnz))
            have HB6 := Lib.hid (HBF5.out.keep ((Mod.refl (fun _ => False) w5).alloc (.cells #[.int .u32 (id : Int), .bool there, .slice a5 n5 c5, .slice a6 nh c6] 44)))
            have HV6 := Lib.hid (HV5.out.mod ((Mod.refl (fun _ => False) w5).alloc (.cells #[.int .u32 (id : Int), .bool there, .slice a5 n5 c5, .slice a6 nh c6] 44)) ⟨fun _ _ f => f, fun _ _ f => f⟩)
            have HSR := Lib.hid (src_cells (w := w5) rfl (size := 4) 44 #[.int .u32 (id : Int), .bool there, .slice a5 n5 c5, .slice a6 nh c6] rfl (by simp [Value.oneCell']))
            have HROW : Hid (Seg (w5.alloc (.cells #[.int .u32 (id : Int), .bool there, .slice a5 n5 c5, .slice a6 nh c6] 44)) 44 4 (.slice ab q cb) q (vcells al)) := Lib.hid (by have h := HB6.out.la.row; rw [← HQ.out] at h; exact h)
            go_wp2_with (at_builtin; refine wpList_append_seg rfl (.tmp 57) (.tmp 59) 40 rfl i0 _ 4 56 Tryz.underlying40 HI.out.1 HI.out.2.1 HI.out.2.2.1 HI.out.2.2.2 rfl (by decide) rfl HROW.out _ 1 _ rfl HSR.out (by have := HM40.out; have := HLA.out; unfold maxLen; omega) (by have := HM40.out; have := HLA.out; omega) ?_; intro v3 w3' hs3' hg3' ho3'; have H3 := Lib.hid (HB6.out.next HV6.out (by rw [HQ.out] at hs3'; exact hs3') hg3' ho3'); (obtain ⟨a3, c3, n3, rfl⟩ : ∃ a c n, v3 = .slice a n c := (by obtain ⟨a, c, e, _⟩ := hs3'.shape; exact ⟨_, _, _, e⟩)); clear hs3' hg3' ho3')
            go_roundw
            case rel => exact ⟨j + 1, al ++ [⟨⟨id, there, xs, ys⟩, .slice a5 n5 c5, .slice a6 nh c6⟩], by go_num, by omega, H3.out, by rw [List.map_append, HAL.out, HTK.out, HFS.out]; rfl⟩
            case measure => simp [intOf]; omega
          · have HFS : Hid ([(⟨id, there, xs, ys⟩ : Vtx)].filter hasH = []) := Lib.hid (List.filter_cons_of_neg (by simp [hasH]; rw [← List.length_eq_zero_iff, ← HNH.out]; omega))
            go_wp2
            go_roundw
            case rel => exact ⟨j + 1, al, by go_num, by omega, HBF5.out, by rw [HAL.out, HTK.out, HFS.out, List.append_nil]⟩
            case measure => simp [intOf]; omega
        · skip
          have HALL : Hid (al.map Vs.x = L.filter hasH) := Lib.hid (by have h := HAL.out; rwa [List.take_of_length_le (by have := HML.out; omega)] at h)
          by_cases hq0 : q = 0
          · have f0 : ((q : Int) == 0) = true := by simp; omega
            go_wp2
            go_ret
            exact ⟨rfl, HG.out.mod.trans (HM3.out.trans HBF.out.mod)⟩
          · have f0 : ((q : Int) == 0) = false := by simp; omega
            obtain ⟨pi, hpi, hpm⟩ : ∃ pi : Nat, (pk : Int) % (q : Int) = (pi : Int) ∧ pi < q := ⟨pk % q, by simp, Nat.mod_lt _ (by omega)⟩
            obtain ⟨s, hs⟩ : ∃ s, al[pi]? = some s := ⟨_, List.getElem?_eq_getElem (by rw [← HQ.out]; exact hpm)⟩
            obtain ⟨bs, offs, e1, hbs, s0, s1, s2, s3⟩ := HBF.out.la.rd.ent hs rfl
            have hsx : s.x ∈ L.filter hasH := by rw [← HALL.out]; exact List.mem_map_of_mem (List.mem_of_getElem? hs)
            rw [List.mem_filter] at hsx
            have hvr := HBF.out.la.rd.at hs
            subst e1
            obtain ⟨v, svp, svh⟩ := s
            simp only at s0 s1 s2 s3 hsx hvr
            have HVM := Lib.hid hsx.1
            obtain ⟨nv, hnv⟩ : ∃ k, k = v.halves.length := ⟨_, rfl⟩
            have hnv0 : 0 < nv := by rw [hnv]; have h := hsx.2; simpa [hasH] using h
            have HNV := Lib.hid hnv
            obtain ⟨a7, c7, n7, rfl⟩ : ∃ a c n, svp = .slice a n c := by
              obtain ⟨a, c, e, _⟩ := hvr.props.shape
              exact ⟨_, _, _, e⟩
            obtain ⟨a8, c8, e8, hc81, hc82⟩ : ∃ a c, svh = .slice a nv c ∧ nv ≤ c ∧ c ≤ 9223372036854775807 := by
              obtain ⟨a, c, e, h1, h2, _⟩ := hvr.halves.shape
              rw [← hnv] at e h1
              exact ⟨a, c, e, h1, h2⟩
            subst e8
            obtain ⟨hi, hhi, hhm⟩ : ∃ hi : Nat, hi = pk % nv ∧ hi < nv := ⟨_, rfl, Nat.mod_lt _ hnv0⟩
            have hh1 : (pk : Int) % (nv : Int) = (hi : Int) := by rw [hhi]; simp
            have hh2 : Int.tmod (pk : Int) (nv : Int) = (hi : Int) := by rw [hhi]; rfl
            have hz1 : ¬ (nv : Int) = 0 := by omega
            have hz3 : ¬ nv = 0 := by omega
            have hz2 : ((nv : Int) == 0) = false := by simp; omega
            have hiN : (hi : Int) < (nv : Int) := by omega
            have hi0 : (0 : Int) ≤ (hi : Int) := by omega
            have HW1 : Hid (IntKind.i64.wrap (pk : Int) = (pk : Int)) := Lib.hid (by have := HPK.out; rw [IntKind.wrap_i64]; omega)
            obtain ⟨h, hh⟩ : ∃ h, v.halves[hi]? = some h := ⟨_, List.getElem?_eq_getElem (by rw [← hnv]; exact hhm)⟩
            obtain ⟨bh, offh, e2, hbh, x0, x1, x2, x3⟩ := hvr.halves.ent hh (by rw [← hnv])
            subst e2
            have HHM := Lib.hid (List.mem_of_getElem? hh)
            have HVG := Lib.hid (HG.out.good.each v HVM.out)
            have HHF := Lib.hid (hvr.fits.halves h (List.mem_of_getElem? hh))
            clear hsx hvr hnv hhi hh hs
            obtain ⟨f, ⟨hk, hn, hs⟩⟩ := h
            simp only at x0 x1 x2 x3
            have HF32 : Hid (f < 4294967296) := Lib.hid (by have := (HVG.out.halves _ HHM.out); simp only at this; omega)
            have hpkb := HPK.out
            go_upto_region 22 with fail
            obtain ⟨w6, hw6⟩ : ∃ W, W = wy.alloc (.cells #[.int .u32 (v.id : Int), .bool v.there, .slice a7 n7 c7, .slice (some ⟨bh, offh, none⟩) nv c8] 44) := ⟨_, rfl⟩
            obtain ⟨b15, hb15⟩ : ∃ b, b = wy.heap.size := ⟨_, rfl⟩
            have hm6 : Mod (fun _ => False) wy w6 := by rw [hw6]; exact (Mod.refl _ _).alloc _
            have hb6 : w6.heap[b15]? = some (.cells #[.int .u32 (v.id : Int), .bool v.there, .slice a7 n7 c7, .slice (some ⟨bh, offh, none⟩) nv c8] 44 (0, 0)) := by rw [hw6, hb15]; exact heap_alloc_new' _ _
            rw [← hw6, ← hb15]
            replace x0 := hm6.cell x0
            replace x1 := hm6.cell x1
            replace x2 := hm6.cell x2
            replace x3 := hm6.cell x3
            have zbh := Nat.lt_of_lt_of_le hbh hm6.size
            have u3 := cell_of_row hb6 3
            have z15 := lt_of_block hb6
            simp at u3
            have HM6 := Lib.hid hm6
            have HB6 := Lib.hid hb6
            have HKEEP : Hid (∀ w' : World, Mod (fun _ => False) w6 w' → (fun w' => w'.cell? ⟨b15, 3, none⟩ = some (.slice (some ⟨bh, offh, none⟩) nv c8) ∧ w'.cell? ⟨bh, offh + hi * 4, none⟩ = some (.int .u32 (f : Int)) ∧ w'.cell? ⟨bh, offh + hi * 4 + 1, none⟩ = some (.int .u8 (hk : Int)) ∧ w'.cell? ⟨bh, offh + hi * 4 + 2, none⟩ = some (.int .i64 hn) ∧ w'.cell? ⟨bh, offh + hi * 4 + 3, none⟩ = some (.string hs)) w') := Lib.hid (fun w' m => ⟨m.cell u3, m.cell x0, m.cell x1, m.cell x2, m.cell x3⟩)
            clear hw6 hb15 hm6 hb6 s0 s1 s2 s3 hbs hbh hpi hpm f0
            obtain ⟨k0, k1, k2, k3, k4⟩ := HKEEP.out _ ((Mod.refl (fun _ => False) w6).drew)
            go_cut [16] (fun s wz => ∃ b16, s = .pointer (some ⟨b16, 0, none⟩) ∧ Mod (fun _ => False) w6 wz ∧ wz.heap[b16]? = some (.cells #[.int .u32 (f : Int), .int .u8 (hk : Int), .int .i64 hn, .string hs] 57 (0, 0)))
            case first =>
              have hw1 := HW1.out
              go_region_held3 (fun w' => w'.cell? ⟨b15, 3, none⟩ = some (.slice (some ⟨bh, offh, none⟩) nv c8) ∧ w'.cell? ⟨bh, offh + hi * 4, none⟩ = some (.int .u32 (f : Int)) ∧ w'.cell? ⟨bh, offh + hi * 4 + 1, none⟩ = some (.int .u8 (hk : Int)) ∧ w'.cell? ⟨bh, offh + hi * 4 + 2, none⟩ = some (.int .i64 hn) ∧ w'.cell? ⟨bh, offh + hi * 4 + 3, none⟩ = some (.string hs))
                (first
                  | go_keep
                  | exact HKEEP.out _ (by repeat (first | exact Mod.refl _ _ | apply Mod.drew | apply Mod.alloc)))
                ((fail))
              all_goals
                go_step
                go_step
                go_meet
                exact ⟨_, rfl, by repeat (with_reducible (first | exact Mod.refl _ _ | refine Mod.drew ?_ | refine Mod.alloc ?_ _)), heap_alloc_new' _ _⟩
            case rest =>
              obtain ⟨b16, rfl, hm7, hb16⟩ := hcut
              obtain ⟨w7, hw7⟩ : ∃ W : World, W = wc := ⟨_, rfl⟩
              subst hw7
              have HM7 := Lib.hid (HM6.out.trans hm7)
              have HC15 := Lib.hid (hm7.heap HB6.out (fun f => f))
              have HC16 := Lib.hid hb16
              clear hm7 hb16 k0 k1 k2 k3 k4 u3 x0 x1 x2 x3 zbh z15 HKEEP
              go_upto_region 24 with fail
              obtain ⟨w8, hw8⟩ : ∃ W, W = w7.alloc (.cells #[.int .u8 1, .int .i64 1, .string ⟨#[]⟩] 55) := ⟨_, rfl⟩
              obtain ⟨b17, hb17⟩ : ∃ b, b = w7.heap.size := ⟨_, rfl⟩
              have hm8 : Mod (fun _ => False) w7 w8 := by rw [hw8]; exact (Mod.refl _ _).alloc _
              have hb8 : w8.heap[b17]? = some (.cells #[.int .u8 1, .int .i64 1, .string ⟨#[]⟩] 55 (0, 0)) := by rw [hw8, hb17]; exact heap_alloc_new' _ _
              have HGE17 : Hid (wy.heap.size ≤ b17) := Lib.hid (by rw [hb17]; exact HM7.out.size)
              rw [← hw8, ← hb17]
              have HM8 := Lib.hid (HM7.out.trans hm8)
              have HD15 := Lib.hid (hm8.heap HC15.out (fun f => f))
              have HD16 := Lib.hid (hm8.heap HC16.out (fun f => f))
              have HD17 := Lib.hid hb8
              clear hw8 hb17 hm8 hb8
              have y1 := cell_of_row HD16.out 1
              have y2 := cell_of_row HD16.out 2
              have y3 := cell_of_row HD16.out 3
              have t0 := cell_of_row HD17.out 0
              have t1 := cell_of_row HD17.out 1
              have t2 := cell_of_row HD17.out 2
              have z16 := lt_of_block HD16.out
              have z17 := lt_of_block HD17.out
              simp at y1 y2 y3 t0 t1 t2
              go_cut [87] (fun s wz => w8 = wz ∧ ∃ bb : Bool, s = .bool bb ∧ (bb = true ↔ (⟨hk, hn, hs⟩ : Val) = ⟨1, 1, ⟨#[]⟩⟩))
              case first =>
                rcases val_cases (⟨hk, hn, hs⟩ : Val) ⟨1, 1, ⟨#[]⟩⟩ with heq | ⟨hne, hcs⟩
                · have HEQ := Lib.hid heq
                  injection heq with e1 e2 e3
                  subst e1 e2 e3
                  go_wp2
                  go_meet
                  exact ⟨rfl, true, rfl, by simp⟩
                · have HNE := Lib.hid hne
                  clear hne
                  simp only at hcs
                  rcases hcs with ⟨f1, f2⟩ | ⟨rfl, f1, f2⟩ | ⟨rfl, rfl, f1⟩
                  · have g1 : ((hk : Int) == 1) = false := by simpa using f1
                    have g2 : ¬ (hk : Int) = 1 := by simpa using f2
                    clear f1 f2
                    go_wp2
                    go_meet
                    exact ⟨rfl, false, rfl, by simp [HNE.out]⟩
                  · go_wp2
                    go_meet
                    exact ⟨rfl, false, rfl, by simp [HNE.out]⟩
                  · have g1 : ¬ hs.toList = [] := by simpa [ByteArray.toList_eq] using f1
                    go_wp2
                    go_meet
                    exact ⟨rfl, false, rfl, by simp [HNE.out]⟩
              case rest =>
                obtain ⟨rfl, bb, rfl, hbb⟩ := hcut
                have HBB := Lib.hid hbb
                clear hbb y1 y2 y3
                go_upto_if 87 with fail
                go_cut [] (fun wz => ∃ on : Int, Mod (fun _ => False) wy wz ∧ wz.heap[b15]? = some (.cells #[.int .u32 (v.id : Int), .bool v.there, .slice a7 n7 c7, .slice (some ⟨bh, offh, none⟩) nv c8] 44 (0, 0)) ∧ wz.heap[b16]? = some (.cells #[.int .u32 (f : Int), .int .u8 (hk : Int), .int .i64 hn, .string hs] 57 (0, 0)) ∧ wz.heap[b17]? = some (.cells #[.int .u8 1, .int .i64 on, .string ⟨#[]⟩] 55 (0, 0)) ∧ (⟨1, on, ⟨#[]⟩⟩ : Val) ≠ ⟨hk, hn, hs⟩ ∧ (on = 1 ∨ on = 2))
                case first =>
                  cases bb with
                  | false =>
                    have HNE : Hid ((⟨1, 1, ⟨#[]⟩⟩ : Val) ≠ ⟨hk, hn, hs⟩) := Lib.hid (fun e => by have := HBB.out.2 e.symm; cases this)
                    go_wp2
                    go_meet
                    exact ⟨1, HM8.out, HD15.out, HD16.out, HD17.out, HNE.out, .inl rfl⟩
                  | true =>
                    have HNE : Hid ((⟨1, 2, ⟨#[]⟩⟩ : Val) ≠ ⟨hk, hn, hs⟩) := Lib.hid (fun e => by have h := HBB.out.1 rfl; rw [h] at e; injection e with _ e _; exact absurd e (by decide))
                    have tf := free_of_row HD17.out 1
                    have HMS : Hid (Mod (fun k => k = b17) w8 (w8.setCell ⟨b17, 1, none⟩ (.int .i64 2))) := Lib.hid ((Mod.refl (fun k => k = b17) w8).setCell (p := ⟨b17, 1, none⟩) (fun _ => rfl) _)
                    go_wp2
                    go_meet
                    exact ⟨2, HM8.out.trans' HMS.out (fun i hi e => by have := HGE17.out; omega), HMS.out.heap HD15.out (fun e => by rw [e, HD17.out] at HD15; exact absurd HD15.out (by simp)), HMS.out.heap HD16.out (fun e => by rw [e, HD17.out] at HD16; exact absurd HD16.out (by simp)), row_setCell HD17.out 1 _, HNE.out, .inr rfl⟩
                case rest =>
                  obtain ⟨on, hm9, h15, h16, h17, hone, hon⟩ := hcut
                  obtain ⟨w9, hw9⟩ : ∃ W : World, W = wc := ⟨_, rfl⟩
                  subst hw9
                  have HM9 := Lib.hid (HM3.out.trans (HBF.out.mod.trans hm9))
                  have HA15 := Lib.hid h15
                  have HA16 := Lib.hid h16
                  have HA17 := Lib.hid h17
                  have HBL9 := Lib.hid ((HBF.out.mod.trans hm9).heap HBL.out (fun f => f))
                  have HOF : Hid ((⟨1, on, ⟨#[]⟩⟩ : Val).Fits) := Lib.hid ⟨by show (1 : Nat) < 256; omega, by show -9223372036854775808 ≤ on ∧ on < 9223372036854775808; omega, Nat.zero_le _⟩
                  have HOK : Hid ((⟨1, on, ⟨#[]⟩⟩ : Val).ok = true) := Lib.hid (by unfold Val.ok; simp [ByteArray.toList_eq])
                  obtain ⟨u, huk, hodd⟩ := Odd.of HG.out.good HVM.out HHM.out hone HOK.out
                  have HUK : Hid (u.id = f) := Lib.hid huk
                  have HODD := Lib.hid hodd
                  have HFV : Hid (f ≠ v.id) := Lib.hid (by rw [← HUK.out]; exact hodd.apart)
                  clear hm9 h15 h16 h17 hone hon huk hodd t0 t1 t2 z16 z17
                  go_wp2_with (go_at_call 10; go_loud (refine (HLI.out _ HM9.out).mono ?_; (rintro e w9b ⟨ai2, ci2, rfl, hm9b, hc91, hc92, hs9⟩); have HM9 := Lib.hid (HM9.out.trans hm9b); have HB15 := Lib.hid (hm9b.heap HA15.out (fun f => f)); have HB16 := Lib.hid (hm9b.heap HA16.out (fun f => f)); have HB17 := Lib.hid (hm9b.heap HA17.out (fun f => f)); have HLC0 := Lib.hid (LcAt.start (n := 2) (hm9b.heap HBL9.out (fun f => f))); have HS9 := Lib.hid hs9; have HBLB := Lib.hid (hm9b.heap HBL9.out (fun f => f)); clear hm9b hs9))
                  have HNE15 : Hid (¬ b15 = wx.heap.size) := Lib.hid (fun e => by have h := HB15.out; rw [e, HBLB.out] at h; exact absurd h (by simp))
                  have HNE16 : Hid (¬ b16 = wx.heap.size) := Lib.hid (fun e => by have h := HB16.out; rw [e, HBLB.out] at h; exact absurd h (by simp))
                  have HNE17 : Hid (¬ b17 = wx.heap.size) := Lib.hid (fun e => by have h := HB17.out; rw [e, HBLB.out] at h; exact absurd h (by simp))
                  go_loopw [92] (fun i wy => ∃ (j : Nat) (ls : List Ls), i = .int .i64 (j : Int) ∧ j ≤ m ∧ LcAt w9b wx.heap.size ls wy ∧ ls.length = 2 ∧ Seg wy 28 1 (.slice ai2 m ci2) m ((L.map Vtx.id).map (keyV .u32)) ∧ dat ls = opParts ((L.take j).map (sub1 v (setH v u.id ⟨1, on, ⟨#[]⟩⟩ (!gn))))) (fun i _ => m - (intOf i).toNat)
                  case atStart => exact ⟨0, _, rfl, Nat.zero_le _, HLC0.out, rfl, HS9.out, rfl⟩
                  case round =>
                    obtain ⟨wy, hwy⟩ : ∃ wy : World, wy = wr := ⟨_, rfl⟩
                    subst hwy
                    obtain ⟨j2, ls, rfl, hj2, hlc, h2, hsg, hdt⟩ := hrel
                    have HLC := Lib.hid hlc
                    have HL2 := Lib.hid h2
                    have HSG := Lib.hid hsg
                    have HDT := Lib.hid hdt
                    clear hlc h2 hsg hdt HLC0 HS9
                    have HMX : Hid (Mod (fun _ => False) wx wy) := Lib.hid (HM9.out.trans' HLC.out.mod (fun i hi e => by omega))
                    have e15 : wy.heap[b15]? = some (.cells #[.int .u32 (v.id : Int), .bool v.there, .slice a7 n7 c7, .slice (some ⟨bh, offh, none⟩) nv c8] 44 (0, 0)) := HLC.out.mod.heap HB15.out HNE15.out
                    have e16 : wy.heap[b16]? = some (.cells #[.int .u32 (f : Int), .int .u8 (hk : Int), .int .i64 hn, .string hs] 57 (0, 0)) := HLC.out.mod.heap HB16.out HNE16.out
                    have e17 : wy.heap[b17]? = some (.cells #[.int .u8 1, .int .i64 on, .string ⟨#[]⟩] 55 (0, 0)) := HLC.out.mod.heap HB17.out HNE17.out
                    have HE15 := Lib.hid e15
                    have HE16 := Lib.hid e16
                    have HE17 := Lib.hid e17
                    clear e15 e16 e17
                    by_cases hjm : j2 < m
                    · obtain ⟨x, hx⟩ : ∃ x, L[j2]? = some x := ⟨_, List.getElem?_eq_getElem (by rw [← HML.out]; exact hjm)⟩
                      obtain ⟨bi, offi, e0, zbi, r0⟩ := num_ent HSG.out.rdS (i := j2) (x := x.id) (by rw [List.getElem?_map, hx]; rfl) rfl
                      have hxm := List.mem_of_getElem? hx
                      have HXM := Lib.hid hxm
                      have HVX : Hid (∀ w', Mod (fun _ => False) wx w' → Calls Tryz.prog 11 #[.pointer (some ⟨w1.heap.size + 1, 0, none⟩), .int .u32 (x.id : Int)] w' (Twins w' x)) := Lib.hid (fun w' mm => by
                        have := svertex_any _ _ L x.id w w' (HG.out.keep mm) (by have := (HG.out.good.each x hxm).id; omega)
                        rwa [tellV_mem HG.out.good.rise hxm] at this)
                      have HTK : Hid (L.take (j2 + 1) = L.take j2 ++ [x]) := Lib.hid (by
                        obtain ⟨h1, h2⟩ := List.getElem?_eq_some_iff.1 hx
                        rw [List.take_succ_eq_append_getElem h1, h2])
                      clear hx hxm
                      subst e0
                      obtain ⟨id, there, xs, ys⟩ := x
                      simp only at r0 HVX
                      go_upto_region 30 with (go_at_call 11; go_loud (refine (HVX.out _ HMX.out).mono ?_; (rintro e w10 ⟨vp4, vh4, rfl, hm4, hn4⟩); (obtain ⟨a5, c5, n5, rfl⟩ : ∃ a c n, vp4 = .slice a n c := (by obtain ⟨a, c, e, _⟩ := hn4.props.shape; exact ⟨_, _, _, e⟩)); (obtain ⟨a6, c6, n6, rfl⟩ : ∃ a c n, vh4 = .slice a n c := (by obtain ⟨a, c, e, _⟩ := hn4.halves.shape; exact ⟨_, _, _, e⟩)); have HM10 := Lib.hid hm4; have HN10 := Lib.hid hn4.vown; clear hm4 hn4))
                      obtain ⟨w11, hw11⟩ : ∃ W, W = w10.alloc (.cells #[.int .u32 (id : Int), .bool there, .slice a5 n5 c5, .slice a6 n6 c6] 44) := ⟨_, rfl⟩
                      obtain ⟨b20, hb20⟩ : ∃ b, b = w10.heap.size := ⟨_, rfl⟩
                      have h1011 : Mod (fun _ => False) w10 w11 := by rw [hw11]; exact (Mod.refl _ _).alloc _
                      have HB20 : Hid (w11.heap[b20]? = some (.cells #[.int .u32 (id : Int), .bool there, .slice a5 n5 c5, .slice a6 n6 c6] 44 (0, 0))) := Lib.hid (by rw [hw11, hb20]; exact heap_alloc_new' _ _)
                      have HGE20 : Hid (wy.heap.size ≤ b20) := Lib.hid (by rw [hb20]; exact HM10.out.size)
                      have HM11 := Lib.hid (HM10.out.trans h1011)
                      have HV11 := Lib.hid (HN10.out.mod h1011 ⟨fun _ _ f => f, fun _ _ f => f⟩)
                      rw [← hw11, ← hb20]
                      clear hw11 hb20 h1011 HM10 HN10 r0 zbi
                      have g15 := HM11.out.heap HE15.out (fun f => f)
                      have s15 := cell_of_row g15 0
                      have z15 := lt_of_block g15
                      simp at s15
                      clear g15
                      go_cut [102] (fun s wz => w11 = wz ∧ ∃ bb : Bool, s = .bool bb ∧ (bb = true ↔ id = v.id))
                      case first =>
                        by_cases hidv : id = v.id
                        · have f1 : ((id : Int) == (v.id : Int)) = true := by simp; omega
                          have HIDV := Lib.hid hidv
                          clear hidv
                          go_wp2
                          go_meet
                          exact ⟨rfl, true, rfl, by simp [HIDV.out]⟩
                        · have f1 : ((id : Int) == (v.id : Int)) = false := by simp; omega
                          have HIDV := Lib.hid hidv
                          clear hidv
                          go_wp2
                          go_meet
                          exact ⟨rfl, false, rfl, by simp [HIDV.out]⟩
                      case rest =>
                        obtain ⟨rfl, bb, rfl, hbb⟩ := hcut
                        have HBBI := Lib.hid hbb
                        clear hbb s15 z15
                        go_upto_if 102 with fail
                        go_cut [] (fun wz => ∃ (z : Vtx) (az ay : Option Addr) (nz cz ny cy : Nat), z = sub1 v (setH v u.id ⟨1, on, ⟨#[]⟩⟩ (!gn)) ⟨id, there, xs, ys⟩ ∧ Mod (fun _ => False) wy wz ∧ wz.heap[b20]? = some (.cells #[.int .u32 (z.id : Int), .bool z.there, .slice az nz cz, .slice ay ny cy] 44 (0, 0)) ∧ VOwn wz ⟨z, .slice az nz cz, .slice ay ny cy⟩)
                        case first =>
                          cases bb with
                          | false =>
                            have HZ : Hid (sub1 v (setH v u.id ⟨1, on, ⟨#[]⟩⟩ (!gn)) ⟨id, there, xs, ys⟩ = ⟨id, there, xs, ys⟩) := Lib.hid (by unfold sub1; rw [if_neg (fun e => by have := HBBI.out.2 e; cases this)])
                            go_wp2
                            go_meet
                            exact ⟨_, a5, a6, n5, c5, n6, c6, HZ.out.symm, HM11.out, HB20.out, HV11.out⟩
                          | true =>
                            have hid' := HBBI.out.1 rfl
                            have HXV : Hid ((⟨id, there, xs, ys⟩ : Vtx) = v) := Lib.hid (HG.out.good.rise.uniq HXM.out HVM.out hid')
                            have HZ : Hid (sub1 v (setH v u.id ⟨1, on, ⟨#[]⟩⟩ (!gn)) ⟨id, there, xs, ys⟩ = setH ⟨id, there, xs, ys⟩ f ⟨1, on, ⟨#[]⟩⟩ (!gn)) := Lib.hid (by unfold sub1; rw [if_pos hid', HUK.out, ← HXV.out])
                            have HSH : Hid (Calls Tryz.prog 14 #[.agg #[.int .u32 (id : Int), .bool there, .slice a5 n5 c5, .slice a6 n6 c6], .int .u32 (f : Int), .agg #[.int .u8 1, .int .i64 on, .string ⟨#[]⟩], .bool (!gn)] w11 fun e w' => Mod (fun _ => False) w11 w' ∧ ∃ ay ny cy, e = .returned (.agg #[.int .u32 (id : Int), .bool there, .slice a5 n5 c5, .slice ay ny cy]) ∧ VOwn w' ⟨setH ⟨id, there, xs, ys⟩ f ⟨1, on, ⟨#[]⟩⟩ (!gn), .slice a5 n5 c5, .slice ay ny cy⟩) := Lib.hid ((sethalf_own ⟨id, there, xs, ys⟩ (.slice a5 n5 c5) (.slice a6 n6 c6) f ⟨1, on, ⟨#[]⟩⟩ (!gn) w11 HV11.out.rd HF32.out HOF.out (by have := (HG.out.good.each _ HXM.out).few; omega)).mono (by
                              rintro e w' ⟨m, vo, rfl, hr, hsg⟩
                              obtain ⟨a, c, e1, _⟩ := hsg.shape
                              subst e1
                              exact ⟨m, a, _, c, rfl, hr.fits, HV11.out.props.mod m (fun _ _ f => f), hsg⟩))
                            have g16 := HM11.out.heap HE16.out (fun f => f)
                            have g17 := HM11.out.heap HE17.out (fun f => f)
                            have s16 := cell_of_row g16 0
                            have t0 := cell_of_row g17 0
                            have t1 := cell_of_row g17 1
                            have t2 := cell_of_row g17 2
                            have k0 := cell_of_row HB20.out 0
                            have k1 := cell_of_row HB20.out 1
                            have k2 := cell_of_row HB20.out 2
                            have k3 := cell_of_row HB20.out 3
                            have z16 := lt_of_block g16
                            have z17 := lt_of_block g17
                            have z20 := lt_of_block HB20.out
                            simp at s16 t0 t1 t2 k0 k1 k2 k3
                            clear g16 g17 hid'
                            go_wp2_with (go_at_call 14; go_loud (refine HSH.out.mono ?_; (rintro e w12 ⟨hm12, ay, ny, cy, rfl, hv12⟩); have HV12 := Lib.hid hv12; have HM12 := Lib.hid (HM11.out.trans hm12); have HB21 := Lib.hid (hm12.heap HB20.out (fun f => f)); clear hv12 hm12 s16 t0 t1 t2 k0 k1 k2 k3 z16 z17 z20; have k0 := cell_of_row HB21.out 0; have k1 := cell_of_row HB21.out 1; have k2 := cell_of_row HB21.out 2; have k3 := cell_of_row HB21.out 3; have kf0 := free_of_row HB21.out 0; have kf1 := free_of_row HB21.out 1; have kf2 := free_of_row HB21.out 2; have kf3 := free_of_row HB21.out 3; have z20 := lt_of_block HB21.out; simp at k0 k1 k2 k3))
                            go_meet
                            refine ⟨_, a5, ay, n5, c5, ny, cy, HZ.out.symm, ?_, row_setCell (row_setCell (row_setCell (row_setCell HB21.out 0 _) 1 _) 2 _) 3 _, ?_⟩
                            · exact (((HM12.out.setCell (p := ⟨b20, 0, none⟩) (fun h => absurd h (by have := HGE20.out; simp; omega)) _).setCell (p := ⟨b20, 1, none⟩) (fun h => absurd h (by have := HGE20.out; simp; omega)) _).setCell (p := ⟨b20, 2, none⟩) (fun h => absurd h (by have := HGE20.out; simp; omega)) _).setCell (p := ⟨b20, 3, none⟩) (fun h => absurd h (by have := HGE20.out; simp; omega)) _
                            · refine HV12.out.mod (S := fun k => k = b20) (((((Mod.refl (fun k => k = b20) w12).setCell (p := ⟨b20, 0, none⟩) (fun _ => rfl) _).setCell (p := ⟨b20, 1, none⟩) (fun _ => rfl) _).setCell (p := ⟨b20, 2, none⟩) (fun _ => rfl) _).setCell (p := ⟨b20, 3, none⟩) (fun _ => rfl) _) ⟨off_type HV12.out.props HB21.out (by decide), off_type HV12.out.halves HB21.out (by decide)⟩
                        case rest =>
                          obtain ⟨z, az, ay, nz, cz, ny, cy, hz, hmz, hbz, hvz⟩ := hcut
                          obtain ⟨wz, hwz⟩ : ∃ wz : World, wz = wc := ⟨_, rfl⟩
                          subst hwz
                          have HZ := Lib.hid hz
                          have HMZ := Lib.hid hmz
                          have HBZ := Lib.hid hbz
                          have HVZ := Lib.hid hvz
                          have HLZ := Lib.hid (HLC.out.keep hmz)
                          have HSZ := Lib.hid (HSG.out.mod hmz (fun _ _ f => f))
                          clear hz hmz hbz hvz
                          have HZID : Hid (z.id = id) := Lib.hid ((congrArg Vtx.id HZ.out).trans (sub1_id (v := v) (show (setH v u.id ⟨1, on, ⟨#[]⟩⟩ (!gn)).id = v.id from rfl) _))
                          obtain ⟨nn, hnn⟩ : ∃ k, k = id % 2 := ⟨_, rfl⟩
                          have hn2 : nn < 2 := by omega
                          have hn2i : (nn : Int) < 2 := by omega
                          have hmod : (id : Int) % 2 = (nn : Int) := by omega
                          have htm : Int.tmod (id : Int) 2 = (nn : Int) := by rw [hnn]; rfl
                          have HNN := Lib.hid hnn
                          clear hnn
                          obtain ⟨t, ht⟩ : ∃ t, ls[nn]? = some t := ⟨_, List.getElem?_eq_getElem (by rw [HL2.out]; exact hn2)⟩
                          obtain ⟨at_, ct, htv⟩ : ∃ a c, t.v = .slice a t.l.length c := by
                            obtain ⟨a, c, e, _⟩ := (HLZ.out.own t (List.mem_of_getElem? ht)).row.shape
                            exact ⟨a, c, e⟩
                          have HT := Lib.hid ht
                          have HTM : Hid (t.l.map Vs.x = ((L.take j2).map (sub1 v (setH v u.id ⟨1, on, ⟨#[]⟩⟩ (!gn)))).filter fun y => y.id % 2 == nn) := Lib.hid (by
                            have h : (dat ls)[nn]? = some (t.l.map Vs.x) := by rw [dat, List.getElem?_map, ht]; rfl
                            rw [HDT.out, opParts_at hn2] at h
                            injection h with h
                            exact h.symm)
                          have HLT : Hid (t.l.length ≤ 40) := Lib.hid (by
                            have h1 := congrArg List.length HTM.out
                            have h2 := List.length_filter_le (fun y : Vtx => y.id % 2 == nn) ((L.take j2).map (sub1 v (setH v u.id ⟨1, on, ⟨#[]⟩⟩ (!gn))))
                            rw [List.length_map] at h1
                            rw [List.length_map, List.length_take] at h2
                            have := HG.out.good.short
                            omega)
                          have y0 : wz.cell? ⟨wx.heap.size, nn, none⟩ = some (.slice at_ t.l.length ct) := by
                            rw [cell_of_row HLZ.out.box, ← htv]
                            simp [ht]
                          have zb := lt_of_block HLZ.out.box
                          have HTV := Lib.hid htv
                          obtain ⟨tn, htn⟩ : ∃ k, k = t.l.length := ⟨_, rfl⟩
                          rw [← htn] at y0
                          have HTN := Lib.hid htn
                          clear ht htv htn
                          have k0 := cell_of_row HBZ.out 0
                          have k1 := cell_of_row HBZ.out 1
                          have k2 := cell_of_row HBZ.out 2
                          have k3 := cell_of_row HBZ.out 3
                          have z20 := lt_of_block HBZ.out
                          simp at k0 k1 k2 k3
                          have hm6 : Mod (fun _ => False) wz (wz.drew.alloc (.cells #[.int .u32 (z.id : Int), .bool z.there, .slice az nz cz, .slice ay ny cy] 44)) := (Mod.refl _ _).drew.alloc _
                          have HLC6 := Lib.hid (HLZ.out.keep hm6)
                          have HSG6 := Lib.hid (HSZ.out.mod hm6 (fun _ _ f => f))
                          have HV6 := Lib.hid (HVZ.out.mod hm6 ⟨fun _ _ f => f, fun _ _ f => f⟩)
                          have HROW : Hid (Seg (wz.drew.alloc (.cells #[.int .u32 (z.id : Int), .bool z.there, .slice az nz cz, .slice ay ny cy] 44)) 44 4 (.slice at_ tn ct) tn (vcells t.l)) := Lib.hid (by have h := (HLC6.out.own t (List.mem_of_getElem? HT.out)).row; rw [HTV.out, ← HTN.out] at h; exact h)
                          have HSR := Lib.hid (src_cells (w := wz.drew) rfl (size := 4) 44 #[.int .u32 (z.id : Int), .bool z.there, .slice az nz cz, .slice ay ny cy] rfl (by simp [Value.oneCell']))
                          clear hm6
                          go_wp2_with fail
                          go_region_law (first
                            | (refine step_append_seg rfl (.tmp 117) (.tmp 119) 40 rfl i0 _ 4 56 Tryz.underlying40 HI.out.1 HI.out.2.1 HI.out.2.2.1 HI.out.2.2.2 rfl (by decide) rfl HROW.out _ 1 _ rfl HSR.out (by have := HLT.out; have := HTN.out; unfold maxLen; omega) (by have := HLT.out; have := HTN.out; omega) ?_; intro v3 w13 hs3 hg3 ho3;
                               have H3 := Lib.hid (HLC6.out.app (s := ⟨z, .slice az nz cz, .slice ay ny cy⟩) HT.out HV6.out (by rw [HTN.out] at hs3; exact hs3) (by rw [HTV.out, ← HTN.out]; exact hg3) (by rw [HTV.out, ← HTN.out]; exact ho3)); (obtain ⟨a3, c3, n3, rfl⟩ : ∃ a c n, v3 = .slice a n c := (by obtain ⟨a, c, e, _⟩ := hs3.shape; exact ⟨_, _, _, e⟩)); have y3 : w13.cell? ⟨wx.heap.size, nn, none⟩ = some (.slice at_ tn ct) := (by rw [cell_of_row H3.out.1]; have h := HTV.out; rw [← HTN.out] at h; rw [← h]; simp [HT.out]); have y3f := free_of_row H3.out.1 nn; have z3 := lt_of_block H3.out.1; clear hs3 hg3 ho3))
                          all_goals
                            go_wp2
                            go_roundw
                            case rel => exact ⟨j2 + 1, ls.set nn ⟨.slice a3 n3 c3, t.l ++ [⟨z, .slice az nz cz, .slice ay ny cy⟩]⟩, by go_num, by omega, H3.out.2.1, by rw [List.length_set]; exact HL2.out, H3.out.2.2 HSG6.out (by decide) (by decide), by rw [HTK.out, List.map_append, dat_set, List.map_append, HTM.out, HDT.out]; show _ = opParts (_ ++ [sub1 v _ _]); rw [← HZ.out, opParts_snoc (i := nn) (by rw [HZID.out]; exact HNN.out.symm)]; rfl⟩
                            case measure => simp [intOf]; omega
                    · have HDL : Hid (dat ls = opParts (oddL L v u ⟨1, on, ⟨#[]⟩⟩ (!gn))) := Lib.hid (by have h := HDT.out; rwa [List.take_of_length_le (by have := HML.out; omega)] at h)
                      obtain ⟨wq, hwq⟩ : ∃ wq : World, wq = wy := ⟨_, rfl⟩
                      subst hwq
                      have HRD : Hid (∀ w', Mod (fun _ => False) wq w' → LLRd w' (.slice (some ⟨wx.heap.size, 0, none⟩) 2 2) ls) := Lib.hid (fun w' mm => by
                        have h := (HLC.out.keep mm).rd (by rw [HL2.out]; omega)
                        rw [HL2.out] at h
                        exact h)
                      have HCO : Hid (∀ w', Mod (fun _ => False) wq w' → ∀ vu, FRd w' vu [true, true] → Calls Tryz.prog 12 #[.slice (some ⟨wx.heap.size, 0, none⟩) 2 2, vu] w' fun e w'' => ∃ ar nb cr reps, e = .returned (.tuple #[.slice ar nb cr, .int .i64 0]) ∧ Mod (fun _ => False) wq w'' ∧ RdS w'' 4 (.slice ar nb cr) nb (rcells reps) ∧ nb = reps.length ∧ nb ≤ cr ∧ cr ≤ 9223372036854775807 ∧ (gn = true → reps = [⟨2, f % 2, f, v.id⟩]) ∧ (gn = false → reps.Perm [⟨3, f % 2, f, v.id⟩, ⟨3, v.id % 2, v.id, f⟩])) := Lib.hid (fun w' mm vu hu => (compare_odd HODD.out _ vu ls w' (HRD.out w' mm) hu HL2.out HDL.out).mono (by
                        rintro e w'' ⟨vo, reps, rfl, ht, h1, h2⟩
                        obtain ⟨a, c, e1, _⟩ := ht.out.shape
                        subst e1
                        obtain ⟨_, _, e2, h5, h6, _⟩ := ht.out.rdS.shape
                        injection e2 with e2 e3 e4
                        subst e4
                        rw [HUK.out] at h1 h2
                        exact ⟨a, _, c, reps, rfl, mm.trans ht.mod, ht.out.rdS, rfl, h5, h6, fun hg => h1 (by rw [hg]; rfl), fun hg => h2 (by rw [hg]; rfl)⟩))
                      go_upto_region 35 with (go_at_call 12; go_loud (refine (HCO.out _ ((Mod.refl (fun _ => False) wq).alloc (.cells #[.bool true, .bool true] 4)) _ (frd_box (n := 2) (heap_alloc_new' wq _) rfl (by omega))).mono ?_; (rintro e w14 ⟨ar, nb, cr, reps, rfl, hm14, hr14, hnb, hcr1, hcr2, hg1, hg2⟩); have HM14 := Lib.hid hm14; have HR14 := Lib.hid hr14; have HNB := Lib.hid hnb; have HG1 := Lib.hid hg1; have HG2 := Lib.hid hg2; clear hm14 hr14 hnb hg1 hg2))
                      have g15 := HM14.out.heap HE15.out (fun f => f)
                      have g16 := HM14.out.heap HE16.out (fun f => f)
                      have HG15 := Lib.hid g15
                      have HG16 := Lib.hid g16
                      have HEND : Hid (Mod (fun _ => False) w w14) := Lib.hid (HG.out.mod.trans (HMX.out.trans HM14.out))
                      cases gn with
                      | true =>
                        have hre := HG1.out rfl
                        subst hre
                        obtain rfl : nb = 1 := HNB.out
                        obtain ⟨br, offr, ea, hbr, p0, p1, p2, p3⟩ := rep_ent HR14.out (i := 0) (x := ⟨2, f % 2, f, v.id⟩) rfl rfl
                        subst ea
                        rw [Nat.zero_mul, Nat.add_zero] at p0 p1 p2 p3
                        obtain ⟨f2, hf2⟩ : ∃ k, k = f % 2 := ⟨_, rfl⟩
                        simp only [← hf2] at p0 p1 p2 p3
                        have hfm : (f : Int) % 2 = (f2 : Int) := by omega
                        have hft : Int.tmod (f : Int) 2 = (f2 : Int) := by rw [hf2]; rfl
                        clear hf2
                        go_upto_region 38 with fail
                        have p0 : ∀ x : MW w14, x.w.cell? _ = some _ := fun x => x.cell p0
                        have p1 : ∀ x : MW w14, x.w.cell? _ = some _ := fun x => x.cell p1
                        have p2 : ∀ x : MW w14, x.w.cell? _ = some _ := fun x => x.cell p2
                        have p3 : ∀ x : MW w14, x.w.cell? _ = some _ := fun x => x.cell p3
                        have q15 : ∀ x : MW w14, x.w.cell? ⟨b15, 0, none⟩ = some (.int .u32 (v.id : Int)) := fun x => x.cell (cell_of_row g15 0)
                        have q16 : ∀ x : MW w14, x.w.cell? ⟨b16, 0, none⟩ = some (.int .u32 (f : Int)) := fun x => x.cell (cell_of_row g16 0)
                        clear g15 g16
                        refine wp_region_quietM (by kernel_rfl) (by kernel_rfl) ?_
                        repeat (go_big_quiet_step (fail))
                        refine wpQuiet_nil ?_
                        intro w15 hm15
                        have HM15 := Lib.hid (HEND.out.trans (MW.mod_of hm15))
                        clear hm15 p0 p1 p2 p3 q15 q16
                        go_wp2
                        go_ret
                        exact ⟨by simp, HM15.out⟩
                      | false =>
                        have hre := HG2.out rfl
                        have hnb2 : nb = 2 := by have h := hre.length_eq; rw [← HNB.out] at h; exact h
                        have HREP : Hid (∀ r ∈ reps, r.kind = 3 ∧ ((r.id = f ∧ r.far = v.id) ∨ (r.id = v.id ∧ r.far = f))) := Lib.hid (fun r hr => by
                          have h := hre.mem_iff.1 hr
                          simp only [List.mem_cons, List.not_mem_nil, or_false] at h
                          rcases h with rfl | rfl
                          · exact ⟨rfl, .inl ⟨rfl, rfl⟩⟩
                          · exact ⟨rfl, .inr ⟨rfl, rfl⟩⟩)
                        clear hre
                        subst hnb2
                        clear g15 g16
                        go_wp2
                        go_loopw [155] (fun i wz => ∃ j : Nat, i = .int .i64 (j : Int) ∧ j ≤ 2 ∧ Mod (fun _ => False) w14 wz) (fun i _ => 2 - (intOf i).toNat)
                        case atStart => exact ⟨0, rfl, Nat.zero_le _, Mod.refl _ _⟩
                        case round =>
                          obtain ⟨wz, hwz⟩ : ∃ wz : World, wz = wr := ⟨_, rfl⟩
                          subst hwz
                          obtain ⟨j3, rfl, hj3, hmz⟩ := hrel
                          have HMZ := Lib.hid hmz
                          clear hmz
                          by_cases hjb : j3 < 2
                          · obtain ⟨r, hr⟩ : ∃ r, reps[j3]? = some r := ⟨_, List.getElem?_eq_getElem (by rw [← HNB.out]; exact hjb)⟩
                            obtain ⟨br, offr, e0, hbr, p0, p1, p2, p3⟩ := rep_ent HR14.out hr rfl
                            subst e0
                            replace p0 := HMZ.out.cell p0
                            replace p1 := HMZ.out.cell p1
                            replace p2 := HMZ.out.cell p2
                            replace p3 := HMZ.out.cell p3
                            have zbr := Nat.lt_of_lt_of_le hbr HMZ.out.size
                            obtain ⟨k3, hcs⟩ := HREP.out r (List.mem_of_getElem? hr)
                            clear hr hbr
                            obtain ⟨rk, rn, rid, rfar⟩ := r
                            simp only at p0 p1 p2 p3 k3 hcs
                            subst k3
                            have q15 := cell_of_row (HMZ.out.heap HG15.out (fun f => f)) 0
                            have q16 := cell_of_row (HMZ.out.heap HG16.out (fun f => f)) 0
                            have z15 := lt_of_block (HMZ.out.heap HG15.out (fun f => f))
                            have z16 := lt_of_block (HMZ.out.heap HG16.out (fun f => f))
                            simp at q15 q16
                            have HMN : Hid (∀ o : Obj, Mod (fun _ => False) w14 (wz.alloc o)) := Lib.hid (fun o => HMZ.out.alloc o)
                            have f1 : ((f : Int) == (v.id : Int)) = false := by have h := HFV.out; simp; omega
                            have f2 : ((v.id : Int) == (f : Int)) = false := by have h := HFV.out; simp; omega
                            have f3 : ¬ (f : Int) = (v.id : Int) := by have h := HFV.out; omega
                            have f4 : ¬ (v.id : Int) = (f : Int) := by have h := HFV.out; omega
                            rcases hcs with ⟨rfl, rfl⟩ | ⟨rfl, rfl⟩
                            · go_wp2
                              go_roundw
                              case rel => exact ⟨j3 + 1, by go_num, by omega, HMN.out _⟩
                              case measure => simp [intOf]; omega
                            · go_wp2
                              go_roundw
                              case rel => exact ⟨j3 + 1, by go_num, by omega, HMN.out _⟩
                              case measure => simp [intOf]; omega
                          · go_wp2
                            go_ret
                            exact ⟨rfl, HEND.out.trans HMZ.out⟩
end Go.Proofs.YtnkmfgklmfmfeaaGreatDoor
