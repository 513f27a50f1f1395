/- gussetlaw12.GhostTallies, walked. -/
import Derived.Test.YtdblilhkojafgaaG11
import Derived.Test.YtdblilhkojafgaaG2
namespace Go.Proofs.Ytdblilhkojafgaa
set_option linter.unusedVariables false
open Go.RowKit Go.Maps

open Go.ChangeShapes Go.WideShapes Go.ChangeAt in
section
variable {H : Type} {enc : TypeId × Value → H} {W : World} {base : Nat} {v : Value} {d : DataW H} {p : List MemPlace}
def InU32 (W : World) (v : Value) : Prop := ∃ t : Nat, v = .int .u32 (t : Int) ∧ t < 4294967296
set_option maxRecDepth 100000 in
theorem in_u32 (hv : Value.okWide Try.prog W .any base 27 v) (h : DataW.Trod enc Try.prog W 0 (fun _ => true) true 27 v d p) : InU32 W v := by
  obtain ⟨a, rfl, _, _, hw⟩ := open_int Try.underlying27 hv h
  have b := bounds_u32 hw
  obtain ⟨m, rfl⟩ := Int.eq_ofNat_of_zero_le b.1
  exact ⟨m, rfl, by omega⟩
end

set_option maxRecDepth 100000 in
set_option maxHeartbeats 4000000 in
theorem tallies_main (va : Value) (la : List Vs) (v : Nat) (w : World) (ha : LRd w va la) (za : ∀ s ∈ la, Slim s.x) (hv : v < 4294967296) :
    Calls Try.prog 6 #[va, .int .u32 (v : Int)] w fun e w' => e = .returned (.bool true) ∧ Mod (fun _ => False) w w' := by
  have HAW := Lib.hid (awake12_any)
  have HNW := Lib.hid (tally_new)
  have HA := Lib.hid ha
  have HZA := Lib.hid za
  have HV := Lib.hid hv
  obtain ⟨aa, ca, rfl, hca, hca2, -⟩ := ha.row.shape
  obtain ⟨n, hna⟩ : ∃ n, n = la.length := ⟨_, rfl⟩
  have HNA := Lib.hid hna
  rw [← hna] at HA hca ⊢
  clear hna ha za hv
  obtain ⟨i0, hi, hz0, hz1, hz2⟩ := info_parts infoVtx
  have HI : Hid (Try.prog.info? 31 = some i0 ∧ i0.zero = some (.agg #[.int .u32 0, .bool false, .slice none 0 0, .slice none 0 0]) ∧ i0.size = 4 ∧ i0.bytes = 56) := ⟨hi, hz0, hz1, hz2⟩
  clear hi hz0 hz1 hz2
  go_enter Try.func6, Try.ntmps6
  go_wp2_with (first
    | (go_at_call 13; refine (HAW.out _).mono ?_; (rintro e w1 ⟨rfl, hm1⟩); have HM1 := Lib.hid hm1; clear hm1)
    | (go_at_call 25; refine (HNW.out _).mono ?_; (rintro e w2 ⟨rfl, hm2, ht2⟩); have HT0 := Lib.hid (TlSt.start HM1.out hm2 ht2); clear hm2 ht2))
  go_loopw [19, 6] (fun i o wr => ∃ (k : Nat) (l : List Vs), i = .int .i64 k ∧ k ≤ n ∧ l.length ≤ k ∧ TlSt w (w1.heap.size + 2) w1.heap.size (w1.heap.size + 1) o l (turnAll l) (17 * k) wr) (fun i _ _ => n - (intOf i).toNat)
  case atStart => exact ⟨0, [], rfl, Nat.zero_le _, Nat.le_refl _, HT0.out⟩
  case round =>
    obtain ⟨k, l, rfl, hk, hlk, hm⟩ := hrel
    have HM := Lib.hid hm
    clear hm HT0
    obtain ⟨am, cm, hvv⟩ : ∃ ao co, u6 = .slice ao l.length co := by
      obtain ⟨a, c, e, _⟩ := HM.out.held.row.rdS.shape
      exact ⟨_, _, e⟩
    subst hvv
    obtain ⟨m, hml⟩ : ∃ m, m = l.length := ⟨_, rfl⟩
    have HML := Lib.hid hml
    rw [← hml] at HM hlk ⊢
    clear hml
    by_cases hkn : k < n
    · obtain ⟨y, hy⟩ : ∃ x, la[k]? = some x := ⟨_, List.getElem?_eq_getElem (by rw [← HNA.out]; exact hkn)⟩
      obtain ⟨bl, offl, rfl, hbl, r0, r1, r2, r3⟩ := HA.out.ent hy rfl
      have r0 := HM.out.mod.cell r0
      have r1 := HM.out.mod.cell r1
      have r2 := HM.out.mod.cell r2
      have r3 := HM.out.mod.cell r3
      have zbl : bl < wr.heap.size := Nat.lt_of_lt_of_le hbl HM.out.mod.size
      have HVR := Lib.hid (HA.out.at hy)
      have hzy := HZA.out y (List.mem_of_getElem? hy)
      clear hy hbl
      obtain ⟨⟨id, there, xs, ys⟩, vp, vh⟩ := y
      obtain ⟨np, ap, cp, rfl⟩ : ∃ np ap cp, vp = .slice ap np cp := by
        obtain ⟨a, c, e, _⟩ := HVR.out.props.shape
        exact ⟨_, _, _, e⟩
      obtain ⟨nh, hnh⟩ : ∃ nh, nh = ys.length := ⟨_, rfl⟩
      have HNH := Lib.hid hnh
      obtain ⟨ah, ch, hch, hch2, rfl⟩ : ∃ ap cp, nh ≤ cp ∧ cp ≤ 9223372036854775807 ∧ vh = .slice ap nh cp := by
        obtain ⟨a, c, e, h1, h2, _⟩ := HVR.out.halves.shape
        simp only at e h1
        rw [← hnh] at e h1
        exact ⟨_, _, h1, h2, e⟩
      clear hnh
      simp only at r0 r1 r2 r3
      by_cases h60 : k < 60
      · have h60' : ¬ (60 : Int) ≤ (k : Int) := by omega
        obtain ⟨q, hq, hqn⟩ : ∃ q : Nat, min (nh : Int) 40 = (q : Int) ∧ q ≤ nh := ⟨min nh 40, by omega, by omega⟩
        have HVX := Lib.hid (HVR.out.less HNH.out hqn)
        have hx1 : xs.length * 40 ≤ 140737488355328 := hzy.1
        have hx2 : (ys.take q).length * 40 ≤ 140737488355328 := by have h2 : ys.length * 40 ≤ 140737488355328 := hzy.2; rw [List.length_take]; omega
        have HTW := Lib.hid (fun (w' : World) (mm : Mod (fun _ => False) w w') => twinV_any _ _ _ w' (HVX.out.keep mm) hx1 hx2)
        have HRY := Lib.hid (fun (w' : World) (mm : Mod (fun _ => False) w w') => dright_any _ _ _ w' (HVX.out.keep mm) (by simp only; omega))
        go_upto_region 10 with fail
        have HB0 := Lib.hid (HM.out.begin #[.int .u32 (id : Int), .bool there, .slice ap np cp, .slice ah q ch])
        clear HM r0 r1 r2 r3 zbl hq hqn hzy hx1 hx2 HNH HVR h60'
        obtain ⟨x, hx⟩ : ∃ x : Vtx, x = ⟨id, there, xs, ys.take q⟩ := ⟨_, rfl⟩
        have HXE := Lib.hid hx
        rw [← hx] at HVX HTW HRY
        have e1 : vtxV x (.slice ap np cp) (.slice ah q ch) = .agg #[.int .u32 (id : Int), .bool there, .slice ap np cp, .slice ah q ch] := by rw [hx]; rfl
        rw [e1] at HTW HRY
        have HPU : Hid (∀ {w5 w0 : World} {vp vh : Value}, TlBx w (w1.heap.size + 2) w1.heap.size (w1.heap.size + 1) (.slice am m cm) l (turnAll l) (17 * k) wr.heap.size #[.int .u32 (id : Int), .bool there, .slice ap np cp, .slice ah q ch] w5 → VNew w0 w5 vp vh x → Calls Try.prog 26 #[.pointer (some ⟨w1.heap.size + 2, 0, none⟩), .agg #[.int .u32 (id : Int), .bool there, vp, vh]] w5 fun e w' => e = .returned (.int .i64 (errB x.right)) ∧ TlBx w (w1.heap.size + 2) w1.heap.size (w1.heap.size + 1) (.slice am m cm) l (putH x (turnAll l)) (17 * k + 17) wr.heap.size #[.int .u32 (id : Int), .bool there, .slice ap np cp, .slice ah q ch] w') := Lib.hid (by
          intro h hn
          have := h.put x _ _ hn.rd (by omega)
          rw [hx] at this ⊢
          exact this)
        have HTA : Hid (∀ wX, Mod (fun _ => False) w wX → Calls Try.prog 15 #[.agg #[.int .u32 (id : Int), .bool there, .slice ap np cp, .slice ah q ch]] wX fun e w' => ∃ vp vh, e = .returned (.agg #[.int .u32 (id : Int), .bool there, vp, vh]) ∧ Mod (fun _ => False) wX w' ∧ VNew wX w' vp vh x) := Lib.hid (fun wX m => by
          have := HTW.out wX m
          refine this.mono ?_
          rintro e w' ⟨vp, vh, rfl, h1, h2⟩
          exact ⟨vp, vh, by rw [hx], h1, h2⟩)
        have HAP : Hid (x.right = true → turnAll (l ++ [(⟨x, .slice ap np cp, .slice ah q ch⟩ : Vs)]) = putH x (turnAll l)) := Lib.hid (fun h => by rw [turnAll_snoc]; unfold putH; rw [h]; rfl)
        have HNP : Hid (x.right = false → putH x (turnAll l) = turnAll l) := Lib.hid (fun h => by unfold putH; rw [h]; rfl)
        obtain ⟨rr, hrr⟩ : ∃ rr, rr = x.right := ⟨_, rfl⟩
        have HRR := Lib.hid hrr
        rw [← hrr] at HRY HPU HAP HNP
        have HSC : Hid ((⟨x, .slice ap np cp, .slice ah q ch⟩ : Vs).cells = [.int .u32 (id : Int), .bool there, .slice ap np cp, .slice ah q ch]) := Lib.hid (by rw [hx]; rfl)
        clear HTW hx e1 hrr
        cases rr with
        | false =>
          go_wp2_with (first
            | (go_at_call 27; refine (HRY.out _ HB6.out.st.mod).mono ?_; (rintro e w7 ⟨rfl, hm⟩); have HB7 := Lib.hid (HB6.out.keep hm); clear hm)
            | (go_at_call 26; refine (HPU.out HB5.out HN5.out).mono ?_; (rintro e w6 ⟨rfl, hb⟩); have HB6 := Lib.hid hb; have c0 := cell_of_row hb.box 0; have c1 := cell_of_row hb.box 1; have c2 := cell_of_row hb.box 2; have c3 := cell_of_row hb.box 3; simp at c0 c1 c2 c3; clear hb)
            | (go_at_call 15; refine (HTA.out _ HB0.out.st.mod).mono ?_; (rintro e w5 ⟨vp5, vh5, rfl, hm5, hn5⟩); have HB5 := Lib.hid (HB0.out.keep hm5); have HN5 := Lib.hid hn5; clear hm5 hn5)
            | (go_at_call 20; fail))
          have HTS : Hid (TlSt w (w1.heap.size + 2) w1.heap.size (w1.heap.size + 1) (.slice am m cm) l (turnAll l) (17 * (k + 1)) w7) := Lib.hid (by
            have h := HB7.out.st
            rw [HNP.out (by simp)] at h
            exact h.up (by omega))
          have HLR := Lib.hid (HTS.out.rd)
          have HWL : Hid (wt l < 999999 ∧ (l).length ≤ 1000000) := Lib.hid (by
            have h1 := wt_rights HTS.out.held.right
            have h2 := HML.out
            exact ⟨by omega, by omega⟩)
          have HRC := Lib.hid (refcount_any _ _ _ HLR.out HWL.out.2 HWL.out.1)
          obtain ⟨GL, hGL⟩ : ∃ GL, GL = refG (heldL l) := ⟨_, rfl⟩
          have HGL : Hid (GhostsOf (turnAll l) GL) := Lib.hid (by rw [hGL]; exact refG_ghosts _)
          rw [← hGL] at HRC
          clear hGL
          go_wp2_with (go_at_call 20; refine HRC.out.mono ?_; (rintro e w8 ⟨vw, rfl, hp⟩); have HP8 := Lib.hid hp; have HS8 := Lib.hid (HTS.out.keep hp.mod); (obtain ⟨aw, cw, hcw, hcw2, rfl⟩ : ∃ a c, GL.length ≤ c ∧ c ≤ 9223372036854775807 ∧ vw = .slice a GL.length c := (by obtain ⟨a, c, e, h1, h2, _⟩ := hp.seg.rdS.shape; exact ⟨_, _, h1, h2, e⟩)); clear hp)
          obtain ⟨nw, hnw⟩ : ∃ nw, nw = GL.length := ⟨_, rfl⟩
          have HNW2 := Lib.hid hnw
          have HRW : Hid (RdS w8 2 (.slice aw nw cw) nw (gcells GL)) := Lib.hid (by have h := HP8.out.seg.rdS; rwa [← hnw] at h)
          rw [← hnw] at hcw HP8 ⊢
          clear hnw HRC
          go_loopw [61, 11] (fun i o wr' => ∃ j : Nat, i = .int .i64 j ∧ j ≤ nw ∧ o = .int .i64 (lkp v (GL.take j) : Nat) ∧ Mod (fun _ => False) w8 wr') (fun i _ _ => nw - (intOf i).toNat)
          case atStart => exact ⟨0, rfl, Nat.zero_le _, rfl, Mod.refl _ _⟩
          case round =>
            obtain ⟨j, rfl, hj, rfl, hm⟩ := hrel
            have HMJ := Lib.hid hm
            clear hm
            by_cases hjn : j < nw
            · obtain ⟨p, hp⟩ : ∃ x, GL[j]? = some x := ⟨_, List.getElem?_eq_getElem (by rw [← HNW2.out]; exact hjn)⟩
              obtain ⟨bw, offw, rfl, hbw, p0, p1⟩ := pair_ent HRW.out hp rfl
              have p0 := HMJ.out.cell p0
              have p1 := HMJ.out.cell p1
              have zbw : bw < wr.heap.size := Nat.lt_of_lt_of_le hbw HMJ.out.size
              have HTK : Hid (lkp v (GL.take (j + 1)) = if p.1 = v then p.2 else lkp v (GL.take j)) := Lib.hid (by rw [take_snoc hp, lkp_snoc])
              clear hp hbw
              obtain ⟨pk, pn⟩ := p
              simp only at p0 p1 HTK
              generalize lkp v (GL.take j) = qj at HTK ⊢
              have HMA := Lib.hid (HMJ.out.alloc (.cells #[.int .u32 (pk : Int), .int .i64 (pn : Int)] 75))
              by_cases hpv : pk = v
              · subst hpv
                go_wp2
                go_roundw
                case rel => exact ⟨j + 1, by go_num, by omega, by rw [HTK.out, if_pos rfl], HMA.out⟩
                case measure => simp [intOf]; omega
              · have hpv' : (pk : Int) ≠ (v : Int) := by omega
                go_wp2
                go_roundw
                case rel => exact ⟨j + 1, by go_num, by omega, by rw [HTK.out, if_neg hpv], HMA.out⟩
                case measure => simp [intOf]; omega
            · obtain ⟨qv, hqv⟩ : ∃ qv, qv = lkp v (GL.take j) := ⟨_, rfl⟩
              rw [← hqv]
              have HQV : Hid (ofC (turnAll l) (tot (turnAll l)) v = qv) := Lib.hid (by
                rw [hqv, List.take_of_length_le (by have := HNW2.out; omega), lkp_of HGL.out])
              clear hqv
              have HS9 := Lib.hid (HS8.out.keep HMJ.out)
              have HW9 := Lib.hid (HRW.out.keep HMJ.out)
              go_wp2_with (first
                | (go_at_call 29; refine (talOf _ _ _ _ _ v w12 HS12.out.one HV.out).mono ?_; (rintro e w13 ⟨rfl, hm⟩); have HS13 := Lib.hid (HS12.out.keep hm); clear hm; rw [HQV.out])
                | (go_at_call 18; refine (psame_yes _ _ GL w11 HP11.out.seg.rdS (by rw [← HNW2.out]; exact HW11.out)).mono ?_; (rintro e w12 ⟨rfl, hm⟩); have HS12 := Lib.hid (HS11.out.keep hm); clear hm)
                | (go_at_call 19; refine (ghosts_any _ GL w10 HP10.out.seg.rdS (by have := HLE.out; omega)).mono ?_; (rintro e w11 ⟨v11, rfl, hp⟩); have HS11 := Lib.hid (HS10.out.keep hp.mod); have HW11 := Lib.hid (HW10.out.keep hp.mod); have HP11 := Lib.hid hp; clear hp)
                | (go_at_call 28; refine (talList _ _ _ _ _ _ HS9.out.one (by omega)).mono ?_; (rintro e w10 ⟨v10, gl', rfl, hp, hg, hl⟩); (obtain rfl := (hg.uniq HGL.out).symm); have HS10 := Lib.hid (HS9.out.keep hp.mod); have HW10 := Lib.hid (HW9.out.keep hp.mod); have HLE := Lib.hid hl; have HP10 := Lib.hid hp; clear hp hg hl))
              go_roundw
              case rel => exact ⟨k + 1, l, by go_num, by omega, by rw [← HML.out]; omega, HS13.out⟩
              case measure => simp [intOf]; omega
        | true =>
          have HSR := Lib.hid (fun w1 => src_cells (w := w1) rfl (size := 4) 31 #[.int .u32 (id : Int), .bool there, .slice ap np cp, .slice ah q ch] rfl (by simp [Value.oneCell']))
          go_wp2_with (first
            | (go_at_call 27; refine (HRY.out _ HB6.out.st.mod).mono ?_; (rintro e w7 ⟨rfl, hm⟩); have HB7 := Lib.hid (HB6.out.keep hm); have HSG : Hid (Seg (w7.alloc (.cells #[.int .u32 (id : Int), .bool there, .slice ap np cp, .slice ah q ch] 31)) 31 4 (.slice am m cm) m (vcells l)) := Lib.hid (by have h := HB7.out.st.held.row.alloc (.cells #[.int .u32 (id : Int), .bool there, .slice ap np cp, .slice ah q ch] 31); rwa [← HML.out] at h); have d0 := cell_of_row HB7.out.box 0; have d1 := cell_of_row HB7.out.box 1; have d2 := cell_of_row HB7.out.box 2; have d3 := cell_of_row HB7.out.box 3; simp at d0 d1 d2 d3; clear hm)
            | (go_at_call 26; refine (HPU.out HB5.out HN5.out).mono ?_; (rintro e w6 ⟨rfl, hb⟩); have HB6 := Lib.hid hb; have c0 := cell_of_row hb.box 0; have c1 := cell_of_row hb.box 1; have c2 := cell_of_row hb.box 2; have c3 := cell_of_row hb.box 3; simp at c0 c1 c2 c3; clear hb)
            | (go_at_call 15; refine (HTA.out _ HB0.out.st.mod).mono ?_; (rintro e w5 ⟨vp5, vh5, rfl, hm5, hn5⟩); have HB5 := Lib.hid (HB0.out.keep hm5); have HN5 := Lib.hid hn5; clear hm5 hn5)
            | (go_at_call 20; fail)
            | (at_builtin; refine wpList_append_seg rfl (.tmp 53) (.tmp 55) 26 rfl i0 _ 4 56 Try.underlying26 HI.out.1 HI.out.2.1 HI.out.2.2.1 HI.out.2.2.2 rfl (by decide) rfl HSG.out _ 1 _ rfl (HSR.out w7) (by unfold maxLen; omega) (by omega) ?_; intro v3 w3 hs3 hg3 ho3; have HTS0 := Lib.hid (HB7.out.st.app ⟨x, .slice ap np cp, .slice ah q ch⟩ (by rw [HSC.out, ← HML.out]; exact hs3) hg3 ho3 HVX.out HRR.out.symm); (obtain ⟨a3, c3', rfl⟩ : ∃ a c, v3 = .slice a (m + 1) c := (by obtain ⟨a, c, e, _⟩ := hs3.rdS.shape; exact ⟨_, _, e⟩)); clear hs3 hg3 ho3))
          have HTS : Hid (TlSt w (w1.heap.size + 2) w1.heap.size (w1.heap.size + 1) (.slice a3 (m + 1) c3') (l ++ [(⟨x, .slice ap np cp, .slice ah q ch⟩ : Vs)]) (turnAll (l ++ [(⟨x, .slice ap np cp, .slice ah q ch⟩ : Vs)])) (17 * (k + 1)) w3) := Lib.hid (by
            have h := HTS0.out
            rw [← HAP.out (by simp)] at h
            exact h.up (by omega))
          clear HTS0
          have HLR := Lib.hid (HTS.out.rd)
          have HWL : Hid (wt (l ++ [(⟨x, .slice ap np cp, .slice ah q ch⟩ : Vs)]) < 999999 ∧ ((l ++ [(⟨x, .slice ap np cp, .slice ah q ch⟩ : Vs)])).length ≤ 1000000) := Lib.hid (by
            have h1 := wt_rights HTS.out.held.right
            have h2 := HML.out
            rw [List.length_append, List.length_singleton] at h1 ⊢
            exact ⟨by omega, by omega⟩)
          have HRC := Lib.hid (refcount_any _ _ _ HLR.out HWL.out.2 HWL.out.1)
          obtain ⟨GL, hGL⟩ : ∃ GL, GL = refG (heldL (l ++ [(⟨x, .slice ap np cp, .slice ah q ch⟩ : Vs)])) := ⟨_, rfl⟩
          have HGL : Hid (GhostsOf (turnAll (l ++ [(⟨x, .slice ap np cp, .slice ah q ch⟩ : Vs)])) GL) := Lib.hid (by rw [hGL]; exact refG_ghosts _)
          rw [← hGL] at HRC
          clear hGL
          go_wp2_with (go_at_call 20; refine HRC.out.mono ?_; (rintro e w8 ⟨vw, rfl, hp⟩); have HP8 := Lib.hid hp; have HS8 := Lib.hid (HTS.out.keep hp.mod); (obtain ⟨aw, cw, hcw, hcw2, rfl⟩ : ∃ a c, GL.length ≤ c ∧ c ≤ 9223372036854775807 ∧ vw = .slice a GL.length c := (by obtain ⟨a, c, e, h1, h2, _⟩ := hp.seg.rdS.shape; exact ⟨_, _, h1, h2, e⟩)); clear hp)
          obtain ⟨nw, hnw⟩ : ∃ nw, nw = GL.length := ⟨_, rfl⟩
          have HNW2 := Lib.hid hnw
          have HRW : Hid (RdS w8 2 (.slice aw nw cw) nw (gcells GL)) := Lib.hid (by have h := HP8.out.seg.rdS; rwa [← hnw] at h)
          rw [← hnw] at hcw HP8 ⊢
          clear hnw HRC
          go_loopw [61, 11] (fun i o wr' => ∃ j : Nat, i = .int .i64 j ∧ j ≤ nw ∧ o = .int .i64 (lkp v (GL.take j) : Nat) ∧ Mod (fun _ => False) w8 wr') (fun i _ _ => nw - (intOf i).toNat)
          case atStart => exact ⟨0, rfl, Nat.zero_le _, rfl, Mod.refl _ _⟩
          case round =>
            obtain ⟨j, rfl, hj, rfl, hm⟩ := hrel
            have HMJ := Lib.hid hm
            clear hm
            by_cases hjn : j < nw
            · obtain ⟨p, hp⟩ : ∃ x, GL[j]? = some x := ⟨_, List.getElem?_eq_getElem (by rw [← HNW2.out]; exact hjn)⟩
              obtain ⟨bw, offw, rfl, hbw, p0, p1⟩ := pair_ent HRW.out hp rfl
              have p0 := HMJ.out.cell p0
              have p1 := HMJ.out.cell p1
              have zbw : bw < wr.heap.size := Nat.lt_of_lt_of_le hbw HMJ.out.size
              have HTK : Hid (lkp v (GL.take (j + 1)) = if p.1 = v then p.2 else lkp v (GL.take j)) := Lib.hid (by rw [take_snoc hp, lkp_snoc])
              clear hp hbw
              obtain ⟨pk, pn⟩ := p
              simp only at p0 p1 HTK
              generalize lkp v (GL.take j) = qj at HTK ⊢
              have HMA := Lib.hid (HMJ.out.alloc (.cells #[.int .u32 (pk : Int), .int .i64 (pn : Int)] 75))
              by_cases hpv : pk = v
              · subst hpv
                go_wp2
                go_roundw
                case rel => exact ⟨j + 1, by go_num, by omega, by rw [HTK.out, if_pos rfl], HMA.out⟩
                case measure => simp [intOf]; omega
              · have hpv' : (pk : Int) ≠ (v : Int) := by omega
                go_wp2
                go_roundw
                case rel => exact ⟨j + 1, by go_num, by omega, by rw [HTK.out, if_neg hpv], HMA.out⟩
                case measure => simp [intOf]; omega
            · obtain ⟨qv, hqv⟩ : ∃ qv, qv = lkp v (GL.take j) := ⟨_, rfl⟩
              rw [← hqv]
              have HQV : Hid (ofC (turnAll (l ++ [(⟨x, .slice ap np cp, .slice ah q ch⟩ : Vs)])) (tot (turnAll (l ++ [(⟨x, .slice ap np cp, .slice ah q ch⟩ : Vs)]))) v = qv) := Lib.hid (by
                rw [hqv, List.take_of_length_le (by have := HNW2.out; omega), lkp_of HGL.out])
              clear hqv
              have HS9 := Lib.hid (HS8.out.keep HMJ.out)
              have HW9 := Lib.hid (HRW.out.keep HMJ.out)
              go_wp2_with (first
                | (go_at_call 29; refine (talOf _ _ _ _ _ v w12 HS12.out.one HV.out).mono ?_; (rintro e w13 ⟨rfl, hm⟩); have HS13 := Lib.hid (HS12.out.keep hm); clear hm; rw [HQV.out])
                | (go_at_call 18; refine (psame_yes _ _ GL w11 HP11.out.seg.rdS (by rw [← HNW2.out]; exact HW11.out)).mono ?_; (rintro e w12 ⟨rfl, hm⟩); have HS12 := Lib.hid (HS11.out.keep hm); clear hm)
                | (go_at_call 19; refine (ghosts_any _ GL w10 HP10.out.seg.rdS (by have := HLE.out; omega)).mono ?_; (rintro e w11 ⟨v11, rfl, hp⟩); have HS11 := Lib.hid (HS10.out.keep hp.mod); have HW11 := Lib.hid (HW10.out.keep hp.mod); have HP11 := Lib.hid hp; clear hp)
                | (go_at_call 28; refine (talList _ _ _ _ _ _ HS9.out.one (by omega)).mono ?_; (rintro e w10 ⟨v10, gl', rfl, hp, hg, hl⟩); (obtain rfl := (hg.uniq HGL.out).symm); have HS10 := Lib.hid (HS9.out.keep hp.mod); have HW10 := Lib.hid (HW9.out.keep hp.mod); have HLE := Lib.hid hl; have HP10 := Lib.hid hp; clear hp hg hl))
              go_roundw
              case rel => exact ⟨k + 1, (l ++ [(⟨x, .slice ap np cp, .slice ah q ch⟩ : Vs)]), by go_num, by omega, by rw [List.length_append, List.length_singleton, ← HML.out]; omega, HS13.out⟩
              case measure => simp [intOf]; omega
      · have h60' : (60 : Int) ≤ (k : Int) := by omega
        go_wp2
        go_ret
        exact ⟨rfl, HM.out.mod.alloc _⟩
    · go_wp2
      go_ret
      exact ⟨rfl, HM.out.mod⟩
theorem tallies_all (v0 v1 : Value) (w : World) (h0 : InVs w v0) (h1 : InU32 w v1) : Calls Try.prog 6 #[v0, v1] w fun e w' => e = .returned (.bool true) ∧ Below w.heap.size w w' := by
  obtain ⟨la, ha, za⟩ := h0
  obtain ⟨v, rfl, hv⟩ := h1
  exact Calls.mono (R := fun e w' => e = .returned (.bool true) ∧ Mod (fun _ => False) w w') (tallies_main v0 la v w ha za hv) (fun _ _ ⟨h, m⟩ => ⟨h, m.toBelow (Nat.le_refl _) (fun _ _ f => f)⟩)
end Go.Proofs.Ytdblilhkojafgaa
