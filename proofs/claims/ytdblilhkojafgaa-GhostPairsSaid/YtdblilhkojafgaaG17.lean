/- gussetlaw12.GhostCounts, walked. -/
import Derived.Test.YtdblilhkojafgaaG16
import Derived.Test.YtdblilhkojafgaaG2
namespace Go.Proofs.Ytdblilhkojafgaa
set_option linter.unusedVariables false
open Go.RowKit Go.Maps

/-- A list of which fewer vertices are read. -/
theorem LRd.less {w : World} {aa : Option Addr} {n ca q : Nat} {l : List Vs} (h : LRd w (.slice aa n ca) l) (hn : n = l.length) (hq : q ≤ n) : LRd w (.slice aa q ca) (l.take q) := by
  have hr := h.row
  rw [← hn] at hr
  obtain ⟨a, c, e, h1, h2, h3⟩ := hr.shape
  injection e with e1 e2 e3
  subst e1 e3
  have hl : (l.take q).length = q := by rw [List.length_take]; omega
  refine ⟨⟨?_, ?_, fun a' c' e j u hu => ?_⟩, fun s hs => h.each s (List.mem_of_mem_take hs)⟩
  · rw [← vcells_take, List.length_take, hr.len, hl]; omega
  · exact ⟨_, _, by rw [hl], by omega, h2, h3⟩
  · injection e with e1 e2 e3
    subst e1 e3
    rw [← vcells_take, List.getElem?_take] at hu
    split at hu
    · exact hr.cell _ _ rfl j u hu
    · simp at hu
theorem wt_le {l : List Vs} {m : Nat} (h : ∀ s ∈ l, s.x.halves.length ≤ m) : wt l ≤ l.length * (m + 1) := by
  induction l with
  | nil => simp [wt]
  | cons s r ih =>
    have h1 := h s (by simp)
    have h2 := ih (fun t ht => h t (by simp [ht]))
    simp only [wt, List.map_cons, List.sum_cons, List.length_cons] at h2 ⊢
    rw [Nat.add_mul]
    omega
theorem wt_map {l m : List Vs} (h : l.map Vs.x = m.map Vs.x) : wt l = wt m := by
  have e : ∀ k : List Vs, wt k = ((k.map Vs.x).map fun x => x.halves.length + 1).sum := fun k => by unfold wt; rw [List.map_map]; rfl
  rw [e, e, h]

theorem vtx_maps {l m : List Vs} (h : l.map Vs.x = m.map Vs.x) : turnAll l = turnAll m ∧ l.length = m.length :=
  ⟨by rw [turnAll_x, turnAll_x, h], by have := congrArg List.length h; simpa using this⟩

set_option maxRecDepth 100000 in
set_option maxHeartbeats 4000000 in
theorem counts_main (va : Value) (la : List Vs) (w : World) (ha : LRd w va la) (za : ∀ s ∈ la, Slim s.x) :
    Calls Try.prog 5 #[va] w fun e w' => e = .returned (.bool true) ∧ Mod (fun _ => False) w w' := by
  have HAW := Lib.hid (awake12_any)
  obtain ⟨aa, ca, rfl, hca, hca2, -⟩ := ha.row.shape
  obtain ⟨n, hna⟩ : ∃ n, n = la.length := ⟨_, rfl⟩
  obtain ⟨q, hq, hqn, hq60⟩ : ∃ q : Nat, min (n : Int) 60 = (q : Int) ∧ q ≤ n ∧ q ≤ 60 := ⟨min n 60, by omega, by omega, by omega⟩
  rw [← hna] at ha hca ⊢
  have HA := Lib.hid (ha.less hna hqn)
  have HZA : Hid (∀ s ∈ la.take q, Slim s.x) := Lib.hid (fun s hs => za s (List.mem_of_mem_take hs))
  have HNA : Hid (q = (la.take q).length) := Lib.hid (by rw [List.length_take, ← hna]; omega)
  generalize la.take q = l at *
  clear hna ha za
  go_enter Try.func5, Try.ntmps5
  go_upto_region 4 with (go_at_call 13; refine (HAW.out _).mono ?_; (rintro e w1 ⟨rfl, hm1⟩); have HM1 := Lib.hid hm1; clear hm1)
  clear hq
  go_wp2
  go_loopw [16] (fun i wr => ∃ k : Nat, i = .int .i64 k ∧ k ≤ q ∧ (∀ s ∈ l.take k, s.x.halves.length ≤ 100) ∧ wr = w1) (fun i _ => q - (intOf i).toNat)
  case atStart => exact ⟨0, rfl, Nat.zero_le _, by simp, rfl⟩
  case round =>
    obtain ⟨k, rfl, hk, hh, rfl⟩ := hrel
    have HH := Lib.hid hh
    clear hh
    by_cases hkq : k < q
    · obtain ⟨y, hy⟩ : ∃ x, l[k]? = some x := ⟨_, List.getElem?_eq_getElem (by rw [← HNA.out]; exact hkq)⟩
      obtain ⟨bl, offl, e0, hbl, r0, r1, r2, r3⟩ := HA.out.ent hy rfl
      have r3 := HM1.out.cell r3
      have HTK := Lib.hid (take_snoc hy)
      have HVR := Lib.hid (HA.out.at hy)
      clear hy hbl r0 r1 r2
      obtain ⟨⟨id, there, xs, ys⟩, vp, vh⟩ := y
      obtain ⟨ah, ch, hve, hch, hch2⟩ : ∃ a c, vh = .slice a ys.length c ∧ ys.length ≤ c ∧ c ≤ 9223372036854775807 := by
        obtain ⟨a, c, e, h1, h2, _⟩ := HVR.out.halves.shape
        exact ⟨_, _, e, h1, h2⟩
      subst hve
      simp only at r3
      clear HVR
      subst e0
      obtain ⟨nh, hnh⟩ : ∃ nh, nh = ys.length := ⟨_, rfl⟩
      rw [← hnh] at r3
      have HNH := Lib.hid hnh
      clear hnh hch
      by_cases h100 : nh ≤ 100
      · have h100' : ¬ (100 : Int) < (nh : Int) := by omega
        go_wp2
        go_roundw
        case rel => exact ⟨k + 1, by go_num, by omega, fun s hs => by
          rw [HTK.out] at hs
          rcases List.mem_append.1 hs with hs | hs
          · exact HH.out s hs
          · rw [List.mem_singleton] at hs; subst hs; show ys.length ≤ 100; rw [← HNH.out]; exact h100, by first | rfl | trivial⟩
        case measure => simp [intOf]; omega
      · have h100' : (100 : Int) < (nh : Int) := by omega
        go_wp2
        go_ret
        exact ⟨rfl, HM1.out⟩
    · have HHA : Hid (∀ s ∈ l, s.x.halves.length ≤ 100) := Lib.hid (by
        have h := HH.out
        rwa [List.take_of_length_le (by have := HNA.out; omega)] at h)
      have HWT : Hid (wt l < 999999) := Lib.hid (by
        have h := wt_le HHA.out
        have := HNA.out
        omega)
      have HLL : Hid (l.length ≤ 1000 ∧ l.length ≤ 1000000) := Lib.hid (by have := HNA.out; omega)
      have HTWS := Lib.hid (fun (wX : World) (m : Mod (fun _ => False) w wX) => twins12_any _ l wX (HA.out.keep m) HLL.out.1 HZA.out)
      have HRC := Lib.hid (fun (wX : World) (m : Mod (fun _ => False) w wX) => refcount_any _ l wX (HA.out.keep m) HLL.out.2 HWT.out)
      have HRU := Lib.hid (fun (wX : World) (m : Mod (fun _ => False) w wX) => refcuts_any _ l wX (HA.out.keep m) HLL.out.2 HWT.out)
      have HWL : Hid (∀ l' : List Vs, l'.map Vs.x = l.map Vs.x → wt l' < 999999 ∧ turnAll l' = turnAll l ∧ l'.length = l.length) := Lib.hid (fun l' h => by
        have h1 := vtx_maps h
        exact ⟨by rw [wt_map h]; exact HWT.out, h1.1, h1.2⟩)
      go_wp2_with (first
        | (go_at_call 21; refine (nsame_yes _ _ (cutL (turnAll l)) w11 HC11.out HRC11.out).mono ?_; (rintro e w12 ⟨rfl, hm⟩); have M12 := Lib.hid (M11.out.trans hm); have HL12 := Lib.hid (HL11.out.keep hm); clear hm)
        | (go_at_call 23; refine (HRU.out _ M10.out).mono ?_; (rintro e w11 ⟨v11, rfl, hr, hle, hm⟩); have M11 := Lib.hid (M10.out.trans hm); have HL11 := Lib.hid (HL10.out.keep hm); have HC11 := Lib.hid (HC10.out.keep hm); have HRC11 : Hid (RdS w11 1 v11 (cutL (turnAll l)).length ((cutL (turnAll l)).map (keyV .u32))) := Lib.hid (by rw [cutL_ref]; exact hr); clear hm hr hle)
        | (go_at_call 22; refine (cuts_any _ l' w9 HL9.out (HWL.out l' HDD.out).1).mono ?_; (rintro e w10 ⟨v10, rfl, hs⟩); have M10 := Lib.hid (M9.out.trans hs.mod); have HL10 := Lib.hid (HL9.out.keep hs.mod); have HC10 : Hid (RdS w10 1 v10 (cutL (turnAll l)).length ((cutL (turnAll l)).map (keyV .u32))) := Lib.hid (by have h := hs.seg.rdS; rw [(HWL.out l' HDD.out).2.1] at h; exact h); clear hs)
        | (go_at_call 18; refine (psame_yes _ _ (refG (heldL l)) w8 HP8.out HQ8.out).mono ?_; (rintro e w9 ⟨rfl, hm⟩); have M9 := Lib.hid (M8.out.trans hm); have HL9 := Lib.hid (HL8.out.keep hm); clear hm)
        | (go_at_call 20; refine (HRC.out _ M7.out).mono ?_; (rintro e w8 ⟨v8, rfl, hp⟩); have M8 := Lib.hid (M7.out.trans hp.mod); have HL8 := Lib.hid (HL7.out.keep hp.mod); have HP8 := Lib.hid ((HP7.out.keep hp.mod).seg.rdS); have HQ8 := Lib.hid hp.seg.rdS; clear hp)
        | (go_at_call 19; refine (ghosts_any _ (refG (heldL l)) w6 HP6.out.seg.rdS (by have := HLE.out; omega)).mono ?_; (rintro e w7 ⟨v7, rfl, hp⟩); have M7 := Lib.hid (M6.out.trans hp.mod); have HL7 := Lib.hid (HL6.out.keep hp.mod); have HP7 := Lib.hid hp; clear hp)
        | (go_at_call 16; refine (countL_any _ l' w5 HL5.out (HWL.out l' HDD.out).1).mono ?_; (rintro e w6 ⟨v6, gl, rfl, hp, hg, hl⟩); have hge : gl = refG (heldL l) := (by rw [(HWL.out l' HDD.out).2.1] at hg; exact hg.uniq (refG_ghosts l)); subst hge; have M6 := Lib.hid (M5.out.trans hp.mod); have HL6 := Lib.hid (HL5.out.keep hp.mod); have HLE := Lib.hid hl; have HP6 := Lib.hid hp; clear hp hg hl)
        | (go_at_call 17; refine (HTWS.out _ HM1.out).mono ?_; (rintro e w5 ⟨vo, l', rfl, hm, ho, hd⟩); have M5 := Lib.hid (HM1.out.trans hm); have HDD := Lib.hid hd; have HL5 := Lib.hid ho.rd; (obtain ⟨am, cm, hcm, hcm2, rfl⟩ : ∃ a c, q ≤ c ∧ c ≤ 9223372036854775807 ∧ vo = .slice a q c := (by obtain ⟨a, c, e, h1, h2, _⟩ := ho.rd.row.shape; rw [(HWL.out l' hd).2.2, ← HNA.out] at e h1; exact ⟨_, _, h1, h2, e⟩)); clear hm ho hd))
      have HEL : Hid (∀ (k : Nat) (x y : Vs), l'[k]? = some x → l[k]? = some y → x.x = y.x) := Lib.hid (fun k x y hx hy => by
        have h := congrArg (fun m => m[k]?) HDD.out
        simp only [List.getElem?_map, hx, hy, Option.map_some] at h
        injection h)
      have HLN : Hid (q = l'.length) := Lib.hid (by rw [(HWL.out l' HDD.out).2.2]; exact HNA.out)
      clear HTWS HRC HRU HWL M5 M6 M7 M8 M9 M10 M11 HL5 HL6 HL7 HL8 HL9 HL10 HL11 HP6 HP7 HP8 HQ8 HC10 HC11 HRC11
      go_loopw [44, 5] (fun i o wr => ∃ k : Nat, i = .int .i64 k ∧ k ≤ q ∧ o = .bool true ∧ Mod (fun _ => False) w12 wr) (fun i _ _ => q - (intOf i).toNat)
      case atStart => exact ⟨0, rfl, Nat.zero_le _, rfl, Mod.refl _ _⟩
      case round =>
        obtain ⟨k, rfl, hk, rfl, hm⟩ := hrel
        have HMK := Lib.hid hm
        clear hm
        by_cases hkq : k < q
        · obtain ⟨x, hx⟩ : ∃ x, l'[k]? = some x := ⟨_, List.getElem?_eq_getElem (by rw [← HLN.out]; exact hkq)⟩
          obtain ⟨y, hy⟩ : ∃ x, l[k]? = some x := ⟨_, List.getElem?_eq_getElem (by rw [← HNA.out]; exact hkq)⟩
          have hxy := HEL.out k x y hx hy
          obtain ⟨b, off, e1, hb, r0, r1, r2, r3⟩ := HL12.out.ent hx rfl
          obtain ⟨b2, off2, e2, hb2, s0, s1, s2, s3⟩ := (HA.out.keep M12.out).ent hy rfl
          have r0 := HMK.out.cell r0
          have r1 := HMK.out.cell r1
          have r2 := HMK.out.cell r2
          have r3 := HMK.out.cell r3
          have s0 := HMK.out.cell s0
          have s1 := HMK.out.cell s1
          have s2 := HMK.out.cell s2
          have s3 := HMK.out.cell s3
          have HVX := Lib.hid ((HL12.out.at hx).keep HMK.out)
          have HVY := Lib.hid (((HA.out.keep M12.out).at hy).keep HMK.out)
          have HSV : Hid (∀ wX, Mod (fun _ => False) wr wX → Calls Try.prog 24 #[vtxV x.x x.vp x.vh, vtxV y.x y.vp y.vh] wX fun e w' => e = .returned (.bool true) ∧ Mod (fun _ => False) wX w') := Lib.hid (fun wX m => by
            have h1 := HVX.out.keep m
            rw [hxy] at h1 ⊢
            exact vsame_yes y.x x.vp x.vh y.vp y.vh wX h1 (HVY.out.keep m))
          clear hx hy hb hb2
          obtain ⟨⟨id, there, xs, ys⟩, vp, vh⟩ := x
          obtain ⟨⟨id', there', xs', ys'⟩, vp', vh'⟩ := y
          simp only at r0 r1 r2 r3 s0 s1 s2 s3
          simp only [vtxV] at HSV
          subst e1 e2
          have HSM : Hid (∀ x : MW wr, Calls Try.prog 24 #[.agg #[.int .u32 (id : Int), .bool there, vp, vh], .agg #[.int .u32 (id' : Int), .bool there', vp', vh']] x.w fun e w'' => e = .returned (.bool true) ∧ ∃ x' : MW wr, w'' = x'.w) := Lib.hid (fun x => Calls.quietM (HSV.out x.w (MW.mod_of ⟨x, rfl⟩)))
          have r0 : ∀ x : MW wr, x.w.cell? _ = some _ := fun x => x.cell r0
          have r1 : ∀ x : MW wr, x.w.cell? _ = some _ := fun x => x.cell r1
          have r2 : ∀ x : MW wr, x.w.cell? _ = some _ := fun x => x.cell r2
          have r3 : ∀ x : MW wr, x.w.cell? _ = some _ := fun x => x.cell r3
          have s0 : ∀ x : MW wr, x.w.cell? _ = some _ := fun x => x.cell s0
          have s1 : ∀ x : MW wr, x.w.cell? _ = some _ := fun x => x.cell s1
          have s2 : ∀ x : MW wr, x.w.cell? _ = some _ := fun x => x.cell s2
          have s3 : ∀ x : MW wr, x.w.cell? _ = some _ := fun x => x.cell s3
          clear HSV
          go_wp2_with fail
          refine wp_region_quietM (by kernel_rfl) (by kernel_rfl) ?_
          repeat (go_big_quiet_step ((go_at_call 24; exact HSM.out _)))
          refine wpQuiet_nil ?_
          intro w3 hm3
          have M3 := Lib.hid (HMK.out.trans (MW.mod_of hm3))
          clear hm3 r0 r1 r2 r3 s0 s1 s2 s3 HSM
          go_wp2
          go_roundw
          case rel => exact ⟨k + 1, by go_num, by omega, rfl, M3.out⟩
          case measure => simp [intOf]; omega
        · go_wp2
          go_ret
          exact ⟨rfl, M12.out.trans HMK.out⟩
theorem counts_all (v0 : Value) (w : World) (h0 : InVs w v0) : Calls Try.prog 5 #[v0] w fun e w' => e = .returned (.bool true) ∧ Below w.heap.size w w' := by
  obtain ⟨la, ha, za⟩ := h0
  exact Calls.mono (R := fun e w' => e = .returned (.bool true) ∧ Mod (fun _ => False) w w') (counts_main v0 la w ha za) (fun _ _ ⟨h, m⟩ => ⟨h, m.toBelow (Nat.le_refl _) (fun _ _ f => f)⟩)
end Go.Proofs.Ytdblilhkojafgaa
