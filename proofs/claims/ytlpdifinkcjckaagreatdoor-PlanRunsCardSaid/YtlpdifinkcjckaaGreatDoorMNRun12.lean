import Derived.Test.YtlpdifinkcjckaaGreatDoorMNFro02
import Derived.Test.YtlpdifinkcjckaaGreatDoorMNWan04
import Derived.Test.YtlpdifinkcjckaaGreatDoorMNRun11
set_option linter.unusedVariables false
set_option linter.unusedSimpArgs false
namespace Go.Proofs.YtlpdifinkcjckaaGreatDoor
open Go.RowKit Go.Maps
def anyH (L : List Vtx) (v : Nat) : Bool := L.any fun x => (entX x.halves v).isSome
def docF (L : List Vtx) : Nat → List Nat
 | 0 => []
 | k + 1 => docF L k ++ (if anyH L (k + 1) = true then [k + 1] else [])
theorem docF_mem (L : List Vtx) (k v : Nat) : v ∈ docF L k ↔ 1 ≤ v ∧ v ≤ k ∧ anyH L v = true := by
 induction k with
 | zero => simp [docF]; omega
 | succ k ih =>
   rw [docF, List.mem_append, ih]
   by_cases h : anyH L (k + 1) = true
   · rw [if_pos h, List.mem_singleton]
     constructor
     · rintro (⟨h1, h2, h3⟩ | rfl)
       · exact ⟨h1, by omega, h3⟩
       · exact ⟨by omega, Nat.le_refl _, h⟩
     · rintro ⟨h1, h2, h3⟩
       by_cases e : v = k + 1
       · exact .inr e
       · exact .inl ⟨h1, by omega, h3⟩
   · rw [if_neg h]
     constructor
     · rintro (⟨h1, h2, h3⟩ | h1)
       · exact ⟨h1, by omega, h3⟩
       · cases h1
     · rintro ⟨h1, h2, h3⟩
       by_cases e : v = k + 1
       · subst e; exact absurd h3 h
       · exact .inl ⟨h1, by omega, h3⟩
theorem docF_rise (L : List Vtx) (k : Nat) : Rising id (docF L k) := by
 induction k with
 | zero => exact List.Pairwise.nil
 | succ k ih =>
   rw [docF]
   unfold Rising at ih ⊢
   rw [List.pairwise_append]
   refine ⟨ih, ?_, fun a ha b hb => ?_⟩
   · split <;> simp
   · have h1 := (docF_mem L k a).1 ha
     split at hb
     · rw [List.mem_singleton] at hb; subst hb
       show a < k + 1
       omega
     · cases hb
theorem docF_len (L : List Vtx) (k : Nat) : (docF L k).length ≤ k := by
 induction k with
 | zero => simp [docF]
 | succ k ih => rw [docF, List.length_append]; split <;> simp <;> omega
theorem docF_none (k : Nat) : docF [] k = [] := by
 induction k with
 | zero => rfl
 | succ k ih => rw [docF, ih]; simp [anyH]
theorem docF_all {L : List Vtx} (h : formL L = true) : docF L 40 = frR L := by
 unfold frR
 rw [if_pos h]
 refine rising_extE (docF_rise L 40) (frK_ok L).1 (fun v => ?_)
 rw [docF_mem]
 constructor
 · rintro ⟨h1, h2, h3⟩
   unfold anyH at h3
   rw [List.any_eq_true] at h3
   obtain ⟨x, hx, hs⟩ := h3
   refine ((frK_ok L).2 v).2 ⟨x, hx, ?_⟩
   apply Classical.byContradiction
   intro hn
   rw [entX_none (fun s hs e => hn ⟨s, hs, e⟩)] at hs
   cases hs
 · intro hv
   obtain ⟨x, hx, e, he, hke⟩ := ((frK_ok L).2 v).1 hv
   have hr := right_halves (formL_right h x hx) he
   exact ⟨by omega, by omega, fr_named hv⟩
set_option maxRecDepth 100000 in
set_option maxHeartbeats 8000000 in
theorem dfrontier_any (l : List Vs) (vl : Value) (w : World) (hl : LRd w vl l) (hz : ∀ s ∈ l, s.x.props.length + s.x.halves.length < 4611686018427387904) :
   Calls Tryz.prog 21 #[vl] w fun e w' => ∃ v, e = .returned (.tuple #[v, .int .i64 (if formL (l.map Vs.x) = true then 0 else 3)]) ∧ SegN w w' v (frR (l.map Vs.x)) := by
 have HL := Lib.hid hl
 obtain ⟨a, c, rfl, hc1, hc2, -⟩ := hl.row.shape
 have HFO := Lib.hid (form18_any l _ w hl hz)
 obtain ⟨n, hn⟩ : ∃ n, n = l.length := ⟨_, rfl⟩
 have HN := Lib.hid hn
 rw [← hn] at HL hc1 HFO ⊢
 obtain ⟨X, hX⟩ : ∃ X, X = l.map Vs.x := ⟨_, rfl⟩
 have HX := Lib.hid hX
 rw [← hX] at HFO ⊢
 obtain ⟨fb, hfb⟩ : ∃ b, b = formL X := ⟨_, rfl⟩
 have HFB := Lib.hid hfb
 rw [← hfb] at HFO ⊢
 obtain ⟨i0, hi, hz0, hz1, hz2⟩ := info_parts infoU32h
 have HI : Hid (Tryz.prog.info? 27 = some i0 ∧ i0.zero = some (.int .u32 0) ∧ i0.size = 1 ∧ i0.bytes = 4) := ⟨hi, hz0, hz1, hz2⟩
 clear hi hz0 hz1 hz2 hl hz hn hX hfb
 go_enter Tryz.func21, Tryz.ntmps21
 cases fb with
 | false =>
   go_wp2_with (go_at_call 45; go_loud (refine HFO.out.mono ?_; (rintro e w2 ⟨rfl, hm2⟩); have HM2 := Lib.hid hm2; clear hm2))
   refine bodyPost_ret (v := .tuple #[.slice none 0 0, .int .i64 3]) (by simp [results, Tryz.results21, go_sem]) rfl ?_
   exact ⟨.slice none 0 0, rfl, by unfold frR; rw [if_neg (by rw [← HFB.out]; simp)]; exact SegN.nil HM2.out⟩
 | true =>
   have HDA : Hid (docF X 40 = frR X) := Lib.hid (docF_all HFB.out.symm)
   go_wp2_with (go_at_call 45; go_loud (refine HFO.out.mono ?_; (rintro e w2 ⟨rfl, hm2⟩); have HM2 := Lib.hid hm2; clear hm2))
   go_loopw [5, 4] (fun i u wr => ∃ k : Nat, i = .int .u32 ((k : Int) + 1) ∧ k ≤ 40 ∧ (n = 0 → k = 0) ∧ SegN w wr u (docF X k)) (fun i _ _ => 41 - (intOf i).toNat)
   case atStart => exact ⟨0, rfl, by omega, fun _ => rfl, SegN.nil HM2.out⟩
   case round =>
     obtain ⟨k, rfl, hk, hn0, hsn⟩ := hrel
     have HS := Lib.hid hsn
     have HN0 := Lib.hid hn0
     obtain ⟨nu, hnu⟩ : ∃ n, n = (docF X k).length := ⟨_, rfl⟩
     have HNU := Lib.hid hnu
     have hnu40 : nu ≤ 40 := by have := docF_len X k; omega
     obtain ⟨au, cu, hue, -⟩ := hsn.seg.shape
     rw [← hnu] at hue
     subst hue
     clear hsn hnu hn0
     by_cases hk40 : k < 40
     · have hk1 : (k : Int) + 1 ≤ 40 := by omega
       obtain ⟨wo, rfl⟩ : ∃ wo : World, wo = wr := ⟨_, rfl⟩
       have HSU : Hid (docF X (k + 1) = docF X k ++ (if anyH X (k + 1) = true then [k + 1] else [])) := Lib.hid rfl
       go_wp2_with fail
       go_loopw [19, 4] (fun i u wr => ∃ j : Nat, i = .int .i64 (j : Int) ∧ u = .slice au nu cu ∧ j ≤ n ∧ anyH (X.take j) (k + 1) = false ∧ Mod (fun _ => False) wo wr) (fun i _ _ => n - (intOf i).toNat)
       case atStart => exact ⟨0, rfl, rfl, Nat.zero_le _, rfl, Mod.refl _ _⟩
       case round =>
         obtain ⟨j, rfl, rfl, hj, haf, hmj⟩ := hrel
         have HAF := Lib.hid haf
         have HJ := Lib.hid hmj
         clear haf hmj
         by_cases hjn : j < n
         · obtain ⟨s, hs⟩ : ∃ s, l[j]? = some s := ⟨_, List.getElem?_eq_getElem (by rw [← HN.out]; exact hjn)⟩
           obtain ⟨bl, offl, e0, hbl, r0, r1, r2, r3⟩ := HL.out.ent hs rfl
           have HWJ : Hid (Mod (fun _ => False) w wr) := Lib.hid (HS.out.mod.trans HJ.out)
           replace r0 := HWJ.out.cell r0
           replace r1 := HWJ.out.cell r1
           replace r2 := HWJ.out.cell r2
           replace r3 := HWJ.out.cell r3
           have zbl : bl < wr.heap.size := Nat.lt_of_lt_of_le hbl HWJ.out.size
           have hvr := HL.out.at hs
           have hxm : X[j]? = some s.x := by rw [HX.out, List.getElem?_map, hs]; rfl
           have HTK : Hid (anyH (X.take (j + 1)) (k + 1) = (anyH (X.take j) (k + 1) || (entX s.x.halves (k + 1)).isSome)) := Lib.hid (by unfold anyH; rw [take_snoc hxm, List.any_append]; simp)
           have HAN : Hid ((entX s.x.halves (k + 1)).isSome = true → anyH X (k + 1) = true) := Lib.hid (fun h => by unfold anyH; rw [List.any_eq_true]; exact ⟨s.x, List.mem_of_getElem? hxm, h⟩)
           have HHF : Hid (∀ w', Mod (fun _ => False) w w' → Calls Tryz.prog 27 #[vtxV s.x s.vp s.vh, .int .u32 ((k : Int) + 1)] w' fun e w'' => ∃ x0 x1 x2, e = .returned (.tuple #[.agg #[.int .u8 x0, .int .i64 x1, .string x2], .bool (entX s.x.halves (k + 1)).isSome]) ∧ Mod (fun _ => False) w' w'') := Lib.hid (fun w' m => (dhalf_any s.x s.vp s.vh (k + 1) w' (hvr.keep m)).mono (fun e w'' ⟨e1, m1⟩ => ⟨_, _, _, e1, m1⟩))
           obtain ⟨ap, cp, ep, -⟩ := hvr.props.shape
           obtain ⟨ah, ch, eh, -⟩ := hvr.halves.shape
           subst e0
           clear hs hvr hxm hbl
           generalize (entX s.x.halves (k + 1)).isSome = sb at HTK HAN HHF
           obtain ⟨⟨id, th, ps, hs⟩, vp, vh⟩ := s
           simp only at r0 r1 r2 r3 ep eh
           subst ep eh
           simp only [vtxV] at HHF
           generalize ps.length = np at *
           generalize hs.length = nh at *
           cases sb with
           | true =>
             have HFN : Hid (docF X (k + 1) = docF X k ++ [k + 1]) := Lib.hid (by rw [HSU.out, if_pos (HAN.out rfl)])
             go_upto_region 12 with (go_at_call 27; go_loud (refine (HHF.out _ (HWJ.out.alloc _)).mono ?_; (rintro e w5 ⟨x0, x1, x2, rfl, hm5⟩); have HM5 : Hid (Mod (fun _ => False) wr w5) := Lib.hid (((Mod.refl _ _).alloc _).trans hm5); clear hm5))
             obtain ⟨W6, hW6⟩ : ∃ W, W = w5.alloc (.cells #[.int .u8 x0, .int .i64 x1, .string x2] 68) := ⟨_, rfl⟩
             have HM6 : Hid (Mod (fun _ => False) wr W6) := Lib.hid (by rw [hW6]; exact HM5.out.alloc _)
             rw [← hW6]
             clear hW6 r0 r1 r2 r3 zbl
             have HS6 := Lib.hid (HS.out.keep (HJ.out.trans HM6.out))
             have HSG : Hid (Seg (W6.alloc (.cells #[.int .u32 ((k : Int) + 1)] 27)) 27 1 (.slice au nu cu) nu ((docF X k).map (keyV .u32))) := Lib.hid (by
               have h := (HS6.out.seg).alloc (.cells #[.int .u32 ((k : Int) + 1)] 27)
               rwa [← HNU.out] at h)
             have HSR := Lib.hid (src_cells (w := W6) rfl (size := 1) 27 #[.int .u32 ((k : Int) + 1)] rfl (by simp [Value.oneCell']))
             have hnz : ((n : Int) == 0) = false := by simp; omega
             have hnz2 : ¬ (n : Int) = 0 := by omega
             go_wp2_with (at_builtin; go_loud (refine wpList_append_seg rfl (.tmp 30) (.tmp 32) 32 rfl i0 _ 1 4 Tryz.underlying32 HI.out.1 HI.out.2.1 HI.out.2.2.1 HI.out.2.2.2 rfl (by decide) rfl HSG.out _ 1 _ rfl HSR.out (by unfold maxLen; omega) (by omega) ?_; intro v3 w3 hs3 hg3 ho3; have H3 := Lib.hid (HS6.out.snoc (k := k + 1) (by rw [← HNU.out]; exact hs3) hg3 ho3); (obtain ⟨a3, c3, n3, rfl⟩ : ∃ a c n, v3 = .slice a n c := (by obtain ⟨a, c, e, _⟩ := hs3.shape; exact ⟨_, _, _, e⟩)); clear hs3 hg3 ho3))
             go_roundw
             case rel => exact ⟨k + 1, by go_num, by omega, fun h => by omega, by rw [HFN.out]; exact H3.out⟩
             case measure => simp [intOf]; omega
           | false =>
             go_wp2_with (go_at_call 27; go_loud (refine (HHF.out _ (HWJ.out.alloc _)).mono ?_; (rintro e w5 ⟨x0, x1, x2, rfl, hm5⟩); have HM5 : Hid (Mod (fun _ => False) wr w5) := Lib.hid (((Mod.refl _ _).alloc _).trans hm5); clear hm5))
             go_roundw
             case rel => exact ⟨j + 1, by go_num, by first | rfl | trivial, by omega, by rw [HTK.out, HAF.out]; rfl, HJ.out.trans (HM5.out.alloc _)⟩
             case measure => simp [intOf]; omega
         · have HFN : Hid (docF X (k + 1) = docF X k) := Lib.hid (by
             have h := HAF.out
             rw [List.take_of_length_le (by rw [HX.out, List.length_map, ← HN.out]; omega)] at h
             rw [HSU.out, if_neg (by rw [h]; simp), List.append_nil])
           by_cases hnz0 : n = 0
           · have hnz : ((n : Int) == 0) = true := by simp; omega
             have HXN : Hid (X = []) := Lib.hid (by rw [HX.out, List.map_eq_nil_iff]; exact List.eq_nil_of_length_eq_zero (by rw [← HN.out]; exact hnz0))
             have HFIN : Hid (SegN w wr (.slice au nu cu) (frR X)) := Lib.hid (by
               have h := HS.out.keep HJ.out
               rw [← HDA.out]
               rw [HXN.out] at h ⊢
               rw [docF_none] at h ⊢
               exact h)
             clear hnz0
             go_upto_region 15 with fail
             go_wp2
             refine bodyPost_ret (v := .tuple #[.slice au nu cu, .int .i64 0]) (by simp [results, Tryz.results21, go_sem]) rfl ?_
             exact ⟨_, rfl, HFIN.out⟩
           · have hnz : ((n : Int) == 0) = false := by simp; omega
             have hnz2 : ¬ (n : Int) = 0 := by omega
             go_wp2
             go_roundw
             case rel => exact ⟨k + 1, by go_num, by omega, fun h => absurd h hnz0, by rw [HFN.out]; exact HS.out.keep HJ.out⟩
             case measure => simp [intOf]; omega
     · have hk2 : k = 40 := by omega
       subst hk2
       rw [HDA.out] at HS
       go_wp2
       refine bodyPost_ret (v := .tuple #[.slice au nu cu, .int .i64 0]) (by simp [results, Tryz.results21, go_sem]) rfl ?_
       exact ⟨_, rfl, HS.out⟩
set_option maxRecDepth 100000 in
set_option maxHeartbeats 4000000 in
theorem samelist_any (v u : Value) (l r : List Vs) (w : World) (hv : LRd w v l) (hu : LRd w u r) (hx : l.map Vs.x = r.map Vs.x) :
   Calls Tryz.prog 22 #[v, u] w fun e w' => e = .returned (.bool true) ∧ Mod (fun _ => False) w w' := by
 have HV := Lib.hid hv
 have HU := Lib.hid hu
 have HX := Lib.hid hx
 obtain ⟨a, c, rfl, hc1, hc2, -⟩ := hv.row.shape
 obtain ⟨a', c', hue, hc1', hc2', -⟩ := hu.row.shape
 have hlen : r.length = l.length := by have := congrArg List.length hx; simpa using this.symm
 obtain ⟨m, hm⟩ : ∃ m, m = l.length := ⟨_, rfl⟩
 have HML := Lib.hid hm
 have HMR : Hid (m = r.length) := Lib.hid (by rw [hlen, hm])
 rw [hlen] at hue hc1'
 subst hue
 rw [← hm] at HV HU hc1 hc1' ⊢
 clear hv hu hx hlen hm
 go_enter Tryz.func22, Tryz.ntmps22
 go_wp2
 go_loopw [13] (fun i wr => ∃ k : Nat, i = .int .i64 (k : Int) ∧ k ≤ m ∧ Mod (fun _ => False) w wr) (fun i _ => m - (intOf i).toNat)
 case atStart => exact ⟨0, rfl, Nat.zero_le _, Mod.refl _ _⟩
 case round =>
   obtain ⟨k, rfl, hk, hmk⟩ := hrel
   have HK := Lib.hid hmk
   clear hmk
   by_cases hkm : k < m
   · obtain ⟨x, hx⟩ : ∃ x, l[k]? = some x := ⟨_, List.getElem?_eq_getElem (by rw [← HML.out]; exact hkm)⟩
     obtain ⟨y, hy⟩ : ∃ y, r[k]? = some y := ⟨_, List.getElem?_eq_getElem (by rw [← HMR.out]; exact hkm)⟩
     have hxy : x.x = y.x := by
       have h := congrArg (fun q => q[k]?) HX.out
       simp only [List.getElem?_map, hx, hy, Option.map_some] at h
       injection h
     obtain ⟨b, off, e1, hb, p0, p1, p2, p3⟩ := HV.out.ent hx rfl
     obtain ⟨b', off', e2, hb', q0, q1, q2, q3⟩ := HU.out.ent hy rfl
     obtain rfl := e1
     obtain rfl := e2
     have HSV : Hid (∀ x' : MW wr, Calls Tryz.prog 17 #[vtxV x.x x.vp x.vh, vtxV y.x y.vp y.vh] x'.w fun e w'' => e = .returned (.bool true) ∧ ∃ x'' : MW wr, w'' = x''.w) := Lib.hid (fun x' => Calls.quietM (by
       rw [← hxy]
       exact vsame_yes x.x x.vp x.vh y.vp y.vh x'.w ((HV.out.at hx).keep (HK.out.trans x'.mod)) (by rw [hxy]; exact (HU.out.at hy).keep (HK.out.trans x'.mod))))
     clear hx hy hxy
     obtain ⟨⟨xi, xt, xp, xh⟩, xvp, xvh⟩ := x
     obtain ⟨⟨yi, yt, yp, yh⟩, yvp, yvh⟩ := y
     simp only [vtxV] at HSV p0 p1 p2 p3 q0 q1 q2 q3
     have p0 : ∀ x : MW wr, x.w.cell? _ = some _ := fun x => x.cell (HK.out.cell p0)
     have p1 : ∀ x : MW wr, x.w.cell? _ = some _ := fun x => x.cell (HK.out.cell p1)
     have p2 : ∀ x : MW wr, x.w.cell? _ = some _ := fun x => x.cell (HK.out.cell p2)
     have p3 : ∀ x : MW wr, x.w.cell? _ = some _ := fun x => x.cell (HK.out.cell p3)
     have q0 : ∀ x : MW wr, x.w.cell? _ = some _ := fun x => x.cell (HK.out.cell q0)
     have q1 : ∀ x : MW wr, x.w.cell? _ = some _ := fun x => x.cell (HK.out.cell q1)
     have q2 : ∀ x : MW wr, x.w.cell? _ = some _ := fun x => x.cell (HK.out.cell q2)
     have q3 : ∀ x : MW wr, x.w.cell? _ = some _ := fun x => x.cell (HK.out.cell q3)
     clear hb hb'
     go_wp2_with fail
     refine wp_region_quietM (by kernel_rfl) (by kernel_rfl) ?_
     repeat (go_big_quiet_step ((go_at_call 17; exact HSV.out _)))
     refine wpQuiet_nil ?_
     intro w3 hm3
     have M3 : Hid (Mod (fun _ => False) w w3) := Lib.hid (HK.out.trans (MW.mod_of hm3))
     clear hm3 p0 p1 p2 p3 q0 q1 q2 q3
     go_wp2
     go_roundw
     case rel => exact ⟨k + 1, by go_num, by omega, M3.out⟩
     case measure => simp [intOf]; omega
   · go_wp2
     go_ret
     exact ⟨rfl, HK.out⟩
open Go.RowKit Go.Maps
def runA (l : List Vtx) (ops : List Opr) : Ans := if planE l ops = 0 then planAns l ops else ⟨0, 0, [], []⟩
def runO (l : List Vtx) (ops : List Opr) : List Vtx := if planE l ops = 0 then planOut l ops else []
def RunS (A : Ans) (O : List Vtx) (pe : Nat) (w : World) (e : Ending) (w' : World) : Prop :=
 Mod (fun _ => False) w w' ∧ ∃ av nv cv al nl cl ac nc cc cs, e = .returned (.tuple #[.agg #[.int .i64 (A.e : Nat), .int .i64 (A.at_ : Nat), .slice av nv cv, .slice al nl cl], .slice ac nc cc, .int .i64 (pe : Int)]) ∧ RdS w' 3 (.slice av nv cv) A.vals.length (vvcells A.vals) ∧ RdS w' 1 (.slice al nl cl) A.list.length (A.list.map (keyV .u32)) ∧ LRd w' (.slice ac nc cc) cs ∧ cs.map Vs.x = O
theorem PRun.same {l : List Vtx} {ops : List Opr} {w w' : World} {e : Ending} (h : PRun l ops w e w') : RunS (runA l ops) (runO l ops) (planE l ops) w e w' := by
 obtain ⟨hm, h1, h2⟩ := h
 refine ⟨hm, ?_⟩
 unfold runA runO
 by_cases hz : planE l ops = 0
 · rw [if_pos hz, if_pos hz]
   obtain ⟨vv, vl, vc, cs, e1, h5, h6, h7, h8⟩ := h2 hz
   obtain ⟨av, cv, rfl, -⟩ := h5.shape
   obtain ⟨al, cl, rfl, -⟩ := h6.shape
   obtain ⟨ag, cg, e3, -⟩ := h7.row.shape
   subst e3
   exact ⟨av, _, cv, al, _, cl, ag, _, cg, cs, by rw [e1, hz]; rfl, h5, h6, h7, h8⟩
 · rw [if_neg hz, if_neg hz]
   exact ⟨none, 0, 0, none, 0, 0, none, 0, 0, [], h1 hz, RdS.none _ _, RdS.none _ _, ⟨RdS.none _ _, by simp⟩, rfl⟩
set_option maxRecDepth 100000 in
set_option maxHeartbeats 8000000 in
theorem pruns_main (va vb : Value) (la : List Vs) (lb : List Opr) (w : World) (ha : LRd w va la) (za : ∀ s ∈ la, Slim s.x) (hb : ORd w vb lb) (zb : lb.length * 48 ≤ 140737488355328) (hg : ErrT w) :
   Calls Tryz.prog 4 #[va, vb] w fun e w' => e = .returned (.bool true) ∧ Mod (fun _ => False) w w' := by
 have HAW := Lib.hid (pawake_any w hg)
 obtain ⟨aa, ca, rfl, hca, hca2, -⟩ := ha.row.shape
 obtain ⟨ab, cb, rfl, hcb, hcb2, -⟩ := hb.row.shape
 obtain ⟨na, hna⟩ : ∃ n, n = la.length := ⟨_, rfl⟩
 obtain ⟨nb, hnb⟩ : ∃ n, n = lb.length := ⟨_, rfl⟩
 obtain ⟨q, hq, hqn, hq15⟩ : ∃ q : Nat, min (na : Int) 15 = (q : Int) ∧ q ≤ na ∧ q ≤ 15 := ⟨min na 15, by omega, by omega, by omega⟩
 obtain ⟨q2, hq2, hqn2, hq30⟩ : ∃ q : Nat, min (nb : Int) 30 = (q : Int) ∧ q ≤ nb ∧ q ≤ 30 := ⟨min nb 30, by omega, by omega, by omega⟩
 rw [← hna] at ha hca ⊢
 rw [← hnb] at hb zb hcb ⊢
 have HA := Lib.hid (ha.less hna hqn)
 have HZA : Hid (∀ s ∈ la.take q, Slim s.x) := Lib.hid (fun s hs => za s (List.mem_of_mem_take hs))
 have HNA : Hid (q = (la.take q).length) := Lib.hid (by rw [List.length_take, ← hna]; omega)
 generalize la.take q = l at *
 have HB := Lib.hid (hb.lessE hnb hqn2)
 have HNB : Hid (q2 = (lb.take q2).length) := Lib.hid (by rw [List.length_take, ← hnb]; omega)
 generalize lb.take q2 = ops at HB HNB
 have HTW : Hid (∀ w', Mod (fun _ => False) w w' → Calls Tryz.prog 18 #[.slice aa q ca] w' fun e w'' => ∃ a c l', e = .returned (.slice a q c) ∧ Mod (fun _ => False) w' w'' ∧ LRd w'' (.slice a q c) l' ∧ l'.map Vs.x = l.map Vs.x ∧ l'.length ≤ 4096) := Lib.hid (fun w' m => (twins18_any _ l w' (HA.out.keep m) (by have := HNA.out; omega) HZA.out).mono (by
   rintro e w'' ⟨vo, l', rfl, h1, h2, h3⟩
   obtain ⟨a, c, e, -⟩ := h2.row.shape
   have h4 := congrArg List.length h3
   simp only [List.length_map] at h4
   have h5 : l'.length = q := by rw [h4, ← HNA.out]
   rw [h5] at e
   exact ⟨a, c, l', by rw [e], h1, by rw [← e]; exact h2.rd, h3, by omega⟩))
 have HOP : Hid (∀ w', Mod (fun _ => False) w w' → Calls Tryz.prog 13 #[.slice ab q2 cb] w' fun e w'' => ∃ a c, e = .returned (.slice a q2 c) ∧ Mod (fun _ => False) w' w'' ∧ ORd w'' (.slice a q2 c) ops) := Lib.hid (fun w' m => by
   have h := ops18_any ops _ w' (HB.out.keep m) (by have := HNB.out; omega)
   rw [← HNB.out] at h
   exact h)
 obtain ⟨X, hX⟩ : ∃ X, X = l.map Vs.x := ⟨_, rfl⟩
 have HX := Lib.hid hX
 rw [← hX] at HTW
 have HRN : Hid (∀ v u l' w', Mod (fun _ => False) w w' → LRd w' v l' → l'.length ≤ 4096 → l'.map Vs.x = X → ORd w' u ops → Calls Tryz.prog 15 #[v, u] w' (RunS (runA X ops) (runO X ops) (planE X ops) w')) := Lib.hid (fun v u l' w' m h1 h2 h3 h4 => by
   have h := prun_any l' v ops u w' h1 h2 h4 (hg.keep m (fun f => f))
   rw [h3] at h
   exact h.mono (fun e w'' h => h.same))
 have HDR : Hid (∀ w', Mod (fun _ => False) w w' → Calls Tryz.prog 19 #[.slice aa q ca, .slice ab q2 cb] w' (RunS (runA X ops) (runO X ops) (planE X ops) w')) := Lib.hid (fun w' m => by
   have h := drun_any l _ ops _ w' (HA.out.keep m) HZA.out (HB.out.keep m) (by have := HNB.out; omega)
   rw [← hX] at h
   exact h.mono (fun e w'' h => h.same))
 have HFT : Hid (∀ v l' w', LRd w' v l' → l'.length ≤ 4096 → l'.map Vs.x = X → Calls Tryz.prog 20 #[v] w' fun e w'' => ∃ af nf cf, e = .returned (.tuple #[.slice af nf cf, .int .i64 (if formL X = true then 0 else 3)]) ∧ Mod (fun _ => False) w' w'' ∧ RdS w'' 1 (.slice af nf cf) (frR X).length ((frR X).map (keyV .u32))) := Lib.hid (fun v l' w' h1 h2 h3 => (frontier_any l' v w' h1 h2).mono (by
   rintro e w'' ⟨v, rfl, h⟩
   rw [h3] at h ⊢
   have hs := h.seg
   obtain ⟨a, c, rfl, -⟩ := hs.shape
   exact ⟨a, _, c, rfl, h.mod, hs.rdS⟩))
 have HDF : Hid (∀ w', Mod (fun _ => False) w w' → Calls Tryz.prog 21 #[.slice aa q ca] w' fun e w'' => ∃ af nf cf, e = .returned (.tuple #[.slice af nf cf, .int .i64 (if formL X = true then 0 else 3)]) ∧ Mod (fun _ => False) w' w'' ∧ RdS w'' 1 (.slice af nf cf) (frR X).length ((frR X).map (keyV .u32))) := Lib.hid (fun w' m => (dfrontier_any l _ w' (HA.out.keep m) (fun s hs => by have := (HZA.out s hs).1; have := (HZA.out s hs).2; omega)).mono (by
   rintro e w'' ⟨v, rfl, h⟩
   rw [← hX] at h ⊢
   have hs := h.seg
   obtain ⟨a, c, rfl, -⟩ := hs.shape
   exact ⟨a, _, c, rfl, h.mod, hs.rdS⟩))
 generalize (if formL X = true then (0 : Int) else 3) = fe at HFT HDF
 generalize planE X ops = pe at HRN HDR
 generalize runO X ops = O at HRN HDR
 generalize runA X ops = A at HRN HDR
 generalize frR X = F at HFT HDF
 obtain ⟨ae, aat, vals, list⟩ := A
 unfold RunS at HRN HDR
 simp only at HRN HDR
 clear hna hnb ha hb za zb hg hX
 go_enter Tryz.func4, Tryz.ntmps4
 go_wp2_with (go_at_call 8; refine HAW.out.mono ?_; (rintro e w1 ⟨rfl, hm1⟩); have HM1 := Lib.hid hm1; clear hm1)
 go_region
 go_wp2_with fail
 clear hq hq2
 go_loopw [33] (fun i wr => ∃ k : Nat, i = .int .i64 (k : Int) ∧ k ≤ q ∧ Mod (fun _ => False) w wr) (fun i _ => q - (intOf i).toNat)
 case atStart => exact ⟨0, rfl, Nat.zero_le _, HM1.out.drew⟩
 case round =>
   obtain ⟨k, rfl, hk, hmk⟩ := hrel
   have HK := Lib.hid hmk
   clear hmk
   by_cases hkq : k < q
   · obtain ⟨s, hs⟩ : ∃ s, l[k]? = some s := ⟨_, List.getElem?_eq_getElem (by rw [← HNA.out]; exact hkq)⟩
     obtain ⟨bl, offl, e0, hbl, r0, r1, r2, r3⟩ := HA.out.ent hs rfl
     replace r0 := HK.out.cell r0
     replace r1 := HK.out.cell r1
     replace r2 := HK.out.cell r2
     replace r3 := HK.out.cell r3
     have zbl : bl < wr.heap.size := Nat.lt_of_lt_of_le hbl HK.out.size
     have hvr := HA.out.at hs
     obtain ⟨ap, cp, ep, -⟩ := hvr.props.shape
     obtain ⟨ah, ch, eh, -⟩ := hvr.halves.shape
     subst e0
     clear hs hvr hbl
     obtain ⟨⟨id, th, ps, hs⟩, vp, vh⟩ := s
     simp only at r0 r1 r2 r3 ep eh
     subst ep eh
     generalize ps.length = np at *
     generalize hs.length = nh at *
     by_cases hh : 100 < nh
     · have hhi : (100 : Int) < (nh : Int) := by omega
       go_wp2
       go_ret
       exact ⟨rfl, HK.out.alloc _⟩
     · have hhi : ¬ (100 : Int) < (nh : Int) := by omega
       have hhj : (nh : Int) ≤ 100 := by omega
       by_cases hp : 100 < np
       · have hpi : (100 : Int) < (np : Int) := by omega
         go_wp2
         go_ret
         exact ⟨rfl, HK.out.alloc _⟩
       · have hpi : ¬ (100 : Int) < (np : Int) := by omega
         have hpj : (np : Int) ≤ 100 := by omega
         go_wp2
         go_roundw
         case rel => exact ⟨k + 1, by go_num, by omega, HK.out.alloc _⟩
         case measure => simp [intOf]; omega
   · go_upto_region 15 with (first
       | (go_at_call 21; go_loud (refine (HDF.out _ HMF.out).mono ?_; (rintro e w8 ⟨af2, nf2, cf2, rfl, hm8, hf8⟩); have HM8 := Lib.hid hm8; have HF8 := Lib.hid hf8; clear hm8 hf8))
       | (go_at_call 20; go_loud (refine (HFT.out _ l5 _ (HL5.out.1.keep HM57.out) HL5.out.2.2 HL5.out.2.1).mono ?_; (rintro e w7 ⟨af, nf, cf, rfl, hm7, hf7⟩); have HMF : Hid (Mod (fun _ => False) w w7) := Lib.hid (HMD.out.trans hm7); have HM7 := Lib.hid hm7; have HF7 := Lib.hid hf7; clear hm7 hf7))
       | (go_at_call 19; go_loud (refine (HDR.out _ (HMR.out.alloc _)).mono ?_; (rintro e w6 ⟨hm6, av2, nv2, cv2, al2, nl2, cl2, ac2, nc2, cc2, cs2, rfl, hvv2, hvl2, hcs2, hcx2⟩); have HM6 := Lib.hid (((Mod.refl _ _).alloc _).trans hm6); have HB6 := Lib.hid (hm6.heap (heap_alloc_new' _ _) (fun f => f)); have HMD := Lib.hid (((HMR.out.alloc _).trans hm6).alloc (.cells #[.int .i64 (ae : Int), .int .i64 (aat : Int), .slice av2 nv2 cv2, .slice al2 nl2 cl2] 34)); have HM57 := Lib.hid ((HM5r.out.trans (((Mod.refl _ _).alloc _).trans hm6)).alloc (.cells #[.int .i64 (ae : Int), .int .i64 (aat : Int), .slice av2 nv2 cv2, .slice al2 nl2 cl2] 34)); have HC6 := Lib.hid (heap_alloc_new' w6 (.cells #[.int .i64 (ae : Int), .int .i64 (aat : Int), .slice av2 nv2 cv2, .slice al2 nl2 cl2] 34)); have HVV2 := Lib.hid hvv2; have HVL2 := Lib.hid hvl2; have HCS2 := Lib.hid hcs2; have HCX2 := Lib.hid hcx2; clear hm6 hvv2 hvl2 hcs2 hcx2))
       | (go_at_call 15; go_loud (refine (HRN.out _ _ l5 _ HMO.out (HL5.out.1.keep HM45.out) HL5.out.2.2 HL5.out.2.1 HO5.out).mono ?_; (rintro e w5 ⟨hm5, av, nv, cv, al, nl, cl, ac, nc, cc, cs, rfl, hvv, hvl, hcs, hcx⟩); have HMR : Hid (Mod (fun _ => False) w w5) := Lib.hid (HMO.out.trans hm5); have HM5r := Lib.hid (HM45.out.trans hm5); have HM5 := Lib.hid hm5; have HVV := Lib.hid hvv; have HVL := Lib.hid hvl; have HCS := Lib.hid hcs; have HCX := Lib.hid hcx; clear hm5 hvv hvl hcs hcx))
       | (go_at_call 13; go_loud (refine (HOP.out _ HMT.out).mono ?_; (rintro e w4 ⟨a4, c4, rfl, hm4, ho4⟩); have HMO : Hid (Mod (fun _ => False) w w4) := Lib.hid (HMT.out.trans hm4); have HM45 := Lib.hid hm4; have HO5 := Lib.hid ho4; clear hm4 ho4))
       | (go_at_call 18; go_loud (refine (HTW.out _ HK.out).mono ?_; (rintro e w3 ⟨a3, c3, l5, rfl, hm3, hl3, hx3, hn3⟩); have HMT : Hid (Mod (fun _ => False) w w3) := Lib.hid (HK.out.trans hm3); have HL5 := Lib.hid (And.intro hl3 (And.intro hx3 hn3)); clear hm3 hl3 hx3 hn3)))
     have HM78 := Lib.hid (HM7.out.trans HM8.out)
     have HM68 : Hid (Mod (fun _ => False) w6 w8) := Lib.hid (((Mod.refl _ _).alloc _).trans HM78.out)
     have HM58 : Hid (Mod (fun _ => False) w5 w8) := Lib.hid (HM6.out.trans HM68.out)
     have HM48 : Hid (Mod (fun _ => False) w4 w8) := Lib.hid (HM5.out.trans HM58.out)
     have HM38 : Hid (Mod (fun _ => False) w3 w8) := Lib.hid (HM45.out.trans HM48.out)
     have HMW8 : Hid (Mod (fun _ => False) w w8) := Lib.hid (HMT.out.trans HM38.out)
     have hb1 := HM68.out.heap HB6.out (fun f => f)
     have hb2 := HM78.out.heap HC6.out (fun f => f)
     have p0 := cell_of_row hb1 0
     have p1 := cell_of_row hb1 1
     have p2 := cell_of_row hb1 2
     have p3 := cell_of_row hb1 3
     have s0 := cell_of_row hb2 0
     have s1 := cell_of_row hb2 1
     have s2 := cell_of_row hb2 2
     have s3 := cell_of_row hb2 3
     simp at p0 p1 p2 p3 s0 s1 s2 s3
     clear hb1 hb2
     have HMQ : Hid (Mod (fun _ => False) w8 w8) := Lib.hid (Mod.refl _ _)
     have HQA : Hid (∀ z, Mod (fun _ => False) w8 z → Calls Tryz.prog 16 #[.agg #[.int .i64 (ae : Int), .int .i64 (aat : Int), .slice av nv cv, .slice al nl cl], .agg #[.int .i64 (ae : Int), .int .i64 (aat : Int), .slice av2 nv2 cv2, .slice al2 nl2 cl2]] z fun e w'' => e = .returned (.bool true) ∧ Mod (fun _ => False) z w'') := Lib.hid (fun z m => by
       have h := anssame_any (ae : Int) (aat : Int) (ae : Int) (aat : Int) vals vals list list (.slice av nv cv) (.slice al nl cl) (.slice av2 nv2 cv2) (.slice al2 nl2 cl2) z (HVV.out.keep (HM58.out.trans m)) (HVV2.out.keep (HM68.out.trans m)) (HVL.out.keep (HM58.out.trans m)) (HVL2.out.keep (HM68.out.trans m))
       simp only [and_self, decide_true] at h
       exact h)
     have HQL1 : Hid (∀ z, Mod (fun _ => False) w8 z → Calls Tryz.prog 22 #[.slice ac nc cc, .slice ac2 nc2 cc2] z fun e w'' => e = .returned (.bool true) ∧ Mod (fun _ => False) z w'') := Lib.hid (fun z m => samelist_any _ _ cs cs2 z (HCS.out.keep (HM58.out.trans m)) (HCS2.out.keep (HM68.out.trans m)) (by rw [HCX.out, HCX2.out]))
     have HQL2 : Hid (∀ z, Mod (fun _ => False) w8 z → Calls Tryz.prog 22 #[.slice a3 q c3, .slice aa q ca] z fun e w'' => e = .returned (.bool true) ∧ Mod (fun _ => False) z w'') := Lib.hid (fun z m => samelist_any _ _ l5 l z (HL5.out.1.keep (HM38.out.trans m)) (HA.out.keep (HMW8.out.trans m)) (by rw [HL5.out.2.1, HX.out]))
     have HQN : Hid (∀ z, Mod (fun _ => False) w8 z → Calls Tryz.prog 23 #[.slice af nf cf, .slice af2 nf2 cf2] z fun e w'' => e = .returned (.bool true) ∧ Mod (fun _ => False) z w'') := Lib.hid (fun z m => by
       have h := nsame_any _ _ F F z (HF7.out.keep (HM8.out.trans m)) (HF8.out.keep m)
       simp only [decide_true] at h
       exact h)
     have HQR : Hid (∀ z, Mod (fun _ => False) w8 z → Calls Tryz.prog 24 #[.agg #[.int .u8 0, .slice a4 q2 c4, .int .u32 0, .int .i64 0, .int .i64 0], .agg #[.int .u8 0, .slice ab q2 cb, .int .u32 0, .int .i64 0, .int .i64 0]] z fun e w'' => e = .returned (.bool true) ∧ Mod (fun _ => False) z w'') := Lib.hid (fun z m => reqsame_yes ⟨0, ops, 0, 0, 0⟩ _ _ z (HO5.out.keep (HM48.out.trans m)) (HB.out.keep (HMW8.out.trans m)))
     go_wp2_with (first
       | (go_at_call 24; go_loud (refine (HQR.out _ HMQ.out).mono ?_; (rintro e w24 ⟨rfl, hm24⟩); (replace HMQ : Hid (Mod (fun _ => False) w8 w24) := Lib.hid (HMQ.out.trans hm24)); clear hm24))
       | (go_at_call 23; go_loud (refine (HQN.out _ HMQ.out).mono ?_; (rintro e w22 ⟨rfl, hm22⟩); (replace HMQ : Hid (Mod (fun _ => False) w8 w22) := Lib.hid (HMQ.out.trans hm22)); clear hm22))
       | (go_at_call 22; (with_reducible refine (HQL1.out _ HMQ.out).mono ?_); (rintro e w21 ⟨rfl, hm21⟩); (replace HMQ : Hid (Mod (fun _ => False) w8 w21) := Lib.hid (HMQ.out.trans hm21)); clear hm21)
       | (go_at_call 22; go_loud (refine (HQL2.out _ HMQ.out).mono ?_; (rintro e w23 ⟨rfl, hm23⟩); (replace HMQ : Hid (Mod (fun _ => False) w8 w23) := Lib.hid (HMQ.out.trans hm23)); clear hm23))
       | (go_at_call 16; go_loud (refine (HQA.out _ HMQ.out).mono ?_; (rintro e w20 ⟨rfl, hm20⟩); (replace HMQ : Hid (Mod (fun _ => False) w8 w20) := Lib.hid (HMQ.out.trans hm20)); clear hm20)))
     go_ret
     exact ⟨rfl, HMW8.out.trans HMQ.out⟩
open Go.RowKit Go.ChangeShapes Go.WideShapes Go.ChangeAt
theorem pruns_all (v0 v1 : Value) (w : World) (hg : ErrT w) (h0 : InVs w v0) (h1 : InOps w v1) : Calls Tryz.prog 4 #[v0, v1] w fun e w' => e = .returned (.bool true) ∧ Below w.heap.size w w' := by
 obtain ⟨la, a1, a2⟩ := h0
 obtain ⟨lb, b1, b2⟩ := h1
 exact Calls.mono (R := fun e w' => e = .returned (.bool true) ∧ Mod (fun _ => False) w w') (pruns_main v0 v1 la lb w a1 a2 b1 b2 hg) (fun _ _ ⟨h, m⟩ => ⟨h, m.toBelow (Nat.le_refl _) (fun _ _ f => f)⟩)
end Go.Proofs.YtlpdifinkcjckaaGreatDoor
