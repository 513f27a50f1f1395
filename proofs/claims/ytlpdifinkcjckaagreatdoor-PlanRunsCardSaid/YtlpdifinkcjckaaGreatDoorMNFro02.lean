import Derived.Test.YtlpdifinkcjckaaGreatDoorMFw29
import Derived.Test.YtlpdifinkcjckaaGreatDoorMNFro01
set_option linter.unusedVariables false
set_option linter.unusedSimpArgs false
namespace Go.Proofs.YtlpdifinkcjckaaGreatDoor
open Go.RowKit Go.Maps
theorem frX_keys : ∀ hs : List Ent, Rising Ent.key hs → frX [] hs = hs.map Ent.key := by
 intro hs hr
 obtain ⟨h1, h2⟩ := frX_ok (s := []) List.Pairwise.nil hs
 refine rising_extE h1 ?_ (fun k => ?_)
 · unfold Rising at hr ⊢
   rw [List.pairwise_map]
   exact hr
 · rw [h2, List.mem_map]
   simp
theorem right_rise {x : Vtx} (h : x.right = true) : Rising Ent.key x.halves := (chain_rise _ _ _ (right_parts h).2.2.2.2).1
theorem form_one {x : Vtx} (h : x.right = true) : formL [x] = true := by
 unfold formL
 simp [h, seenK, layG]
theorem fr_one {x : Vtx} (h : x.right = true) : frR [x] = x.halves.map Ent.key := by
 unfold frR
 rw [if_pos (form_one h)]
 show frX [] x.halves = _
 exact frX_keys _ (right_rise h)
theorem fr_sub {l : List Vtx} {x : Vtx} (hx : x ∈ l) {k : Nat} (hk : k ∈ x.halves.map Ent.key) : k ∈ frK l := by
 obtain ⟨e, he, rfl⟩ := List.mem_map.1 hk
 exact ((frK_ok l).2 _).2 ⟨x, hx, e, he, rfl⟩
theorem fr_named {l : List Vtx} {k : Nat} (hk : k ∈ frK l) : (l.any fun x => (entX x.halves k).isSome) = true := by
 obtain ⟨x, hx, e, he, hke⟩ := ((frK_ok l).2 _).1 hk
 rw [List.any_eq_true]
 refine ⟨x, hx, ?_⟩
 cases h : entX x.halves k with
 | some v => rfl
 | none => exact absurd hke (entX_isNone.1 h e he)
theorem vs_block {w : World} {b : Nat} {s : Vs} (h : w.heap[b]? = some (.cells s.cells.toArray 47 (0, 0))) (hr : VRd w s.vp s.vh s.x) : LRd w (.slice (some ⟨b, 0, none⟩) 1 1) [s] := by
 refine ⟨⟨rfl, ⟨_, _, rfl, Nat.le_refl _, by decide, fun hb => by cases hb⟩, fun a k e j u hu => ?_⟩, fun x hx => by rw [List.mem_singleton] at hx; rw [hx]; exact hr⟩
 injection e with e1 e2 e3
 subst e1
 refine ⟨b, 0, rfl, lt_of_block h, ?_⟩
 rw [Nat.zero_add, cell_of_row h]
 simpa [vcells] using hu
set_option maxRecDepth 100000 in
set_option maxHeartbeats 8000000 in
theorem pfronts_main (va : Value) (la : List Vs) (w : World) (ha : LRd w va la) (za : ∀ s ∈ la, Slim s.x) (hg : ErrT w) :
   Calls Tryz.prog 5 #[va] w fun e w' => e = .returned (.bool true) ∧ Mod (fun _ => False) w w' := by
 have HAW := Lib.hid (pawake_any w hg)
 obtain ⟨aa, ca, rfl, hca, hca2, -⟩ := ha.row.shape
 obtain ⟨n, hna⟩ : ∃ n, n = la.length := ⟨_, rfl⟩
 obtain ⟨q, hq, hqn, hq15⟩ : ∃ q : Nat, min (n : Int) 15 = (q : Int) ∧ q ≤ n ∧ q ≤ 15 := ⟨min n 15, by omega, by omega, by omega⟩
 rw [← hna] at ha hca ⊢
 have HA := Lib.hid (ha.less hna hqn)
 have HZA : Hid (∀ s ∈ la.take q, Slim s.x) := Lib.hid (fun s hs => za s (List.mem_of_mem_take hs))
 have HNA : Hid (q = (la.take q).length) := Lib.hid (by rw [List.length_take, ← hna]; omega)
 generalize la.take q = l at *
 have HTW : Hid (∀ w', Mod (fun _ => False) w w' → Calls Tryz.prog 18 #[.slice aa q ca] w' fun e w'' => ∃ a n c l', e = .returned (.slice a n c) ∧ Mod (fun _ => False) w' w'' ∧ LRd w'' (.slice a n c) l' ∧ l'.map Vs.x = l.map Vs.x ∧ l'.length ≤ 4096) := Lib.hid (fun w' m => (twins18_any _ l w' (HA.out.keep m) (by have := HNA.out; omega) HZA.out).mono (by
   rintro e w'' ⟨vo, l', rfl, h1, h2, h3⟩
   obtain ⟨a, c, e, -⟩ := h2.row.shape
   have h4 := congrArg List.length h3
   simp only [List.length_map] at h4
   exact ⟨a, _, c, l', by rw [e], h1, by rw [← e]; exact h2.rd, h3, by have := HNA.out; omega⟩))
 have HFT : Hid (∀ v l' w', LRd w' v l' → l'.length ≤ 4096 → l'.map Vs.x = l.map Vs.x → Calls Tryz.prog 20 #[v] w' fun e w'' => ∃ af cf, e = .returned (.tuple #[.slice af (frR (l.map Vs.x)).length cf, .int .i64 (if formL (l.map Vs.x) = true then 0 else 3)]) ∧ SegN w' w'' (.slice af (frR (l.map Vs.x)).length cf) (frR (l.map Vs.x))) := Lib.hid (fun v l' w' h1 h2 h3 => (frontier_any l' v w' h1 h2).mono (by
   rintro e w'' ⟨v, rfl, h⟩
   rw [h3] at h ⊢
   obtain ⟨a, c, rfl, -⟩ := h.seg.shape
   exact ⟨a, c, rfl, h⟩))
 have HF1 : Hid (∀ v (s : Vs) w', s.x.right = true → LRd w' v [s] → Calls Tryz.prog 20 #[v] w' fun e w'' => ∃ af cf, e = .returned (.tuple #[.slice af s.x.halves.length cf, .int .i64 0]) ∧ Mod (fun _ => False) w' w'' ∧ Seg w'' 27 1 (.slice af s.x.halves.length cf) s.x.halves.length ((s.x.halves.map Ent.key).map (keyV .u32))) := Lib.hid (fun v s w' hr h1 => (frontier_any [s] v w' h1 (by show 1 ≤ 4096; decide)).mono (by
   rintro e w'' ⟨v, rfl, h⟩
   simp only [List.map_cons, List.map_nil, form_one hr, if_true, fr_one hr] at h ⊢
   have hs := h.seg
   rw [List.length_map] at hs
   obtain ⟨a, c, rfl, -⟩ := hs.shape
   exact ⟨a, c, rfl, h.mod, hs⟩))
 have HRI : Hid (formL (l.map Vs.x) = true → (∀ s ∈ l, s.x.right = true) ∧ frR (l.map Vs.x) = frK (l.map Vs.x)) := Lib.hid (fun h => ⟨fun s hs => formL_right h _ (List.mem_map_of_mem hs), by unfold frR; rw [if_pos h]⟩)
 have HNO : Hid (formL (l.map Vs.x) = false → frR (l.map Vs.x) = []) := Lib.hid (fun h => by unfold frR; rw [h]; simp)
 obtain ⟨fb, hfb⟩ : ∃ b, b = formL (l.map Vs.x) := ⟨_, rfl⟩
 rw [← hfb] at HFT HRI HNO
 obtain ⟨F, hF⟩ : ∃ F, F = frR (l.map Vs.x) := ⟨_, rfl⟩
 rw [← hF] at HFT HRI HNO
 obtain ⟨nf, hnf⟩ : ∃ n, n = F.length := ⟨_, rfl⟩
 rw [← hnf] at HFT
 have HNF := Lib.hid hnf
 clear hna ha za hg hfb hF hnf
 go_enter Tryz.func5, Tryz.ntmps5
 cases fb with
 | false =>
   have HN0 : Hid (nf = 0) := Lib.hid (by rw [HNF.out, HNO.out rfl]; rfl)
   have hn0 := HN0.out
   subst hn0
   simp only [Bool.false_eq_true, if_false] at HFT
   go_wp2_with (first
     | (go_at_call 20; go_loud (refine (HFT.out _ l2 _ HL2.out.1 HL2.out.2.2 HL2.out.2.1).mono ?_; (rintro e w3 ⟨af, cf, rfl, hs3⟩); have HM3 := Lib.hid (HM2.out.trans hs3.mod); clear hs3))
     | (go_at_call 18; go_loud (refine (HTW.out _ HM1.out).mono ?_; (rintro e w2 ⟨a2, n2, c2, l2, rfl, hm2, hl2, hx2, hn2⟩); have HM2 := Lib.hid (HM1.out.trans hm2); have HL2 := Lib.hid (And.intro hl2 (And.intro hx2 hn2)); clear hm2 hl2 hx2 hn2))
     | (go_at_call 8; refine HAW.out.mono ?_; (rintro e w1 ⟨rfl, hm1⟩); have HM1 := Lib.hid hm1; clear hm1))
   go_ret
   exact ⟨rfl, HM3.out⟩
 | true =>
   have HRR := Lib.hid (HRI.out rfl)
   simp only [if_true] at HFT
   go_upto_region 8 with (first
     | (go_at_call 20; go_loud (refine (HFT.out _ l2 _ HL2.out.1 HL2.out.2.2 HL2.out.2.1).mono ?_; (rintro e w3 ⟨af, cf, rfl, hs3⟩); have HM3 := Lib.hid (HM2.out.trans hs3.mod); have HS3 := Lib.hid hs3.seg; clear hs3))
     | (go_at_call 18; go_loud (refine (HTW.out _ HM1.out).mono ?_; (rintro e w2 ⟨a2, n2, c2, l2, rfl, hm2, hl2, hx2, hn2⟩); have HM2 := Lib.hid (HM1.out.trans hm2); have HL2 := Lib.hid (And.intro hl2 (And.intro hx2 hn2)); clear hm2 hl2 hx2 hn2))
     | (go_at_call 8; refine HAW.out.mono ?_; (rintro e w1 ⟨rfl, hm1⟩); have HM1 := Lib.hid hm1; clear hm1))
   clear hq HFT HTW HNO HRI
   have HIN : Hid (∀ (y : Nat) w', Mod (fun _ => False) w3 w' → Calls Tryz.prog 25 #[.slice af nf cf, .int .u32 (y : Int)] w' fun e w'' => e = .returned (.bool (F.any fun x => x == y)) ∧ Mod (fun _ => False) w' w'') := Lib.hid (fun y w' m => isin18_any F y _ w' (by have h := (HS3.out.mod m (fun _ _ f => f)).rdS; have h2 := HNF.out; subst h2; exact h))
   go_wp2_with fail
   go_loopw [43] (fun i wr => ∃ k : Nat, i = .int .i64 (k : Int) ∧ k ≤ q ∧ Mod (fun _ => False) w3 wr) (fun i _ => q - (intOf i).toNat)
   case atStart => exact ⟨0, rfl, Nat.zero_le _, Mod.refl _ _⟩
   case round =>
     obtain ⟨k, rfl, hk, hmk⟩ := hrel
     have HK := Lib.hid hmk
     clear hmk
     by_cases hkq : k < q
     · obtain ⟨s, hs⟩ : ∃ s, l[k]? = some s := ⟨_, List.getElem?_eq_getElem (by rw [← HNA.out]; exact hkq)⟩
       obtain ⟨bl, offl, e0, hbl, r0, r1, r2, r3⟩ := HA.out.ent hs rfl
       have HWK : Hid (Mod (fun _ => False) w wr) := Lib.hid (HM3.out.trans HK.out)
       have r30 := r3
       replace r0 := HWK.out.cell r0
       replace r1 := HWK.out.cell r1
       replace r2 := HWK.out.cell r2
       replace r3 := HWK.out.cell r3
       have zbl : bl < wr.heap.size := Nat.lt_of_lt_of_le hbl HWK.out.size
       have hvr := HA.out.at hs
       have hsm := List.mem_of_getElem? hs
       have HSR : Hid (s.x.right = true) := Lib.hid (HRR.out.1 s hsm)
       have HSL := Lib.hid (HZA.out s hsm)
       have HSM : Hid (s.x ∈ l.map Vs.x) := Lib.hid (List.mem_map_of_mem hsm)
       have HVR := Lib.hid hvr
       have HVQ := Lib.hid hvr
       obtain ⟨ap, cp, ep, -⟩ := hvr.props.shape
       obtain ⟨ah, ch, eh, -⟩ := hvr.halves.shape
       subst e0
       clear hs hvr hsm
       obtain ⟨⟨id, th, ps, hs⟩, vp, vh⟩ := s
       simp only at r0 r1 r2 r3 r30 ep eh HVR HSR HSL HSM HVQ
       subst ep eh
       obtain ⟨np, hnp⟩ : ∃ n, n = ps.length := ⟨_, rfl⟩
       obtain ⟨nh, hnh⟩ : ∃ n, n = hs.length := ⟨_, rfl⟩
       have HNH := Lib.hid hnh
       have HTN : Hid (∀ w', Mod (fun _ => False) w w' → Calls Tryz.prog 26 #[.agg #[.int .u32 (id : Int), .bool th, .slice ap np cp, .slice ah nh ch]] w' (Twins w' ⟨id, th, ps, hs⟩)) := Lib.hid (fun w' mm => by
         rw [hnp, hnh]
         exact twinV_any ⟨id, th, ps, hs⟩ _ _ w' (HVR.out.keep mm) HSL.out.1 HSL.out.2)
       rw [← hnp] at r2
       rw [← hnh] at r3 r30
       have HF1k : Hid (∀ b a5 n5 c5 a6 n6 c6 w', w'.heap[b]? = some (.cells #[.int .u32 (id : Int), .bool th, .slice a5 n5 c5, .slice a6 n6 c6] 47 (0, 0)) → VRd w' (.slice a5 n5 c5) (.slice a6 n6 c6) ⟨id, th, ps, hs⟩ → Calls Tryz.prog 20 #[.slice (some ⟨b, 0, none⟩) 1 1] w' fun e w'' => ∃ af cf, e = .returned (.tuple #[.slice af nh cf, .int .i64 0]) ∧ Mod (fun _ => False) w' w'' ∧ Seg w'' 27 1 (.slice af nh cf) nh ((hs.map Ent.key).map (keyV .u32))) := Lib.hid (fun b a5 n5 c5 a6 n6 c6 w' hb hv => by
         have h := HF1.out _ ⟨⟨id, th, ps, hs⟩, .slice a5 n5 c5, .slice a6 n6 c6⟩ w' HSR.out (vs_block (s := ⟨⟨id, th, ps, hs⟩, .slice a5 n5 c5, .slice a6 n6 c6⟩) hb hv)
         rw [hnh]
         exact h)
       clear hnp hnh
       go_upto_region 12 with (first
         | (go_at_call 20; go_loud (refine (HF1k.out _ _ _ _ _ _ _ _ (heap_alloc_new' _ _) (HV5.out.keep ((Mod.refl _ _).alloc _))).mono ?_; (rintro e w6 ⟨a8, c8, rfl, hm6, hs6⟩); have HM6 : Hid (Mod (fun _ => False) w3 w6) := Lib.hid (HM5.out.trans (((Mod.refl _ _).alloc _).trans hm6)); have HS6 := Lib.hid hs6; clear hm6 hs6))
         | (go_at_call 26; go_loud (refine (HTN.out _ (HWK.out.alloc _)).mono ?_; (rintro e w5 ⟨vp5, vh5, rfl, hm5, hv5⟩); (obtain ⟨a5, c5, n5, rfl⟩ : ∃ a c n, vp5 = .slice a n c := (by obtain ⟨a, c, e, _⟩ := hv5.props.shape; exact ⟨_, _, _, e⟩)); (obtain ⟨a6, c6, n6, rfl⟩ : ∃ a c n, vh5 = .slice a n c := (by obtain ⟨a, c, e, _⟩ := hv5.halves.shape; exact ⟨_, _, _, e⟩)); have HM5 : Hid (Mod (fun _ => False) w3 w5) := Lib.hid ((HK.out.alloc _).trans hm5); have HV5 := Lib.hid hv5.rd; clear hm5 hv5)))
       replace r30 := (HM3.out.trans HM6.out).cell r30
       have zb6 : bl < w6.heap.size := Nat.lt_of_lt_of_le hbl (HM3.out.trans HM6.out).size
       have hrs6 := HS6.out.rdS
       have HR6 := Lib.hid hrs6
       obtain ⟨b8, c8', e8, hc8, hc82, -⟩ := hrs6.shape
       obtain ⟨wo, rfl⟩ : ∃ wo : World, wo = wr := ⟨_, rfl⟩
       clear r0 r1 r2 r3 hbl hrs6 e8
       go_wp2_with fail
       go_loopw [70] (fun i wr => ∃ j : Nat, i = .int .i64 (j : Int) ∧ j ≤ nh ∧ Mod (fun _ => False) w6 wr) (fun i _ => nh - (intOf i).toNat)
       case atStart => exact ⟨0, rfl, Nat.zero_le _, Mod.refl _ _⟩
       case round =>
         obtain ⟨j, rfl, hj, hmj⟩ := hrel
         have HJ := Lib.hid hmj
         clear hmj
         by_cases hjn : j < nh
         · obtain ⟨x, hx⟩ : ∃ x, (hs.map Ent.key)[j]? = some x := ⟨_, List.getElem?_eq_getElem (by rw [List.length_map, ← HNH.out]; exact hjn)⟩
           obtain ⟨bk, offk, ek, hbk, hck⟩ := HR6.out.cell _ _ rfl j (.int .u32 (x : Int)) (by rw [List.getElem?_map, hx]; rfl)
           subst ek
           replace hck := HJ.out.cell hck
           have zbk : bk < wr.heap.size := Nat.lt_of_lt_of_le hbk HJ.out.size
           have HTR : Hid ((F.any fun z => z == x) = true) := Lib.hid (by
             rw [HRR.out.2, List.any_eq_true]
             exact ⟨x, fr_sub HSM.out (List.mem_of_getElem? hx), by simp⟩)
           have HINX : Hid (Calls Tryz.prog 25 #[.slice af nf cf, .int .u32 (x : Int)] wr fun e w'' => e = .returned (.bool true) ∧ Mod (fun _ => False) wr w'') := Lib.hid (by have h := HIN.out x wr (HM6.out.trans HJ.out); rwa [HTR.out] at h)
           clear hx hbk
           go_wp2_with (go_at_call 25; go_loud (refine HINX.out.mono ?_; (rintro e w7 ⟨rfl, hm7⟩); have HM7 := Lib.hid hm7; clear hm7))
           go_roundw
           case rel => exact ⟨j + 1, by go_num, by omega, HJ.out.trans HM7.out⟩
           case measure => simp [intOf]; omega
         · go_wp2
           go_roundw
           case rel => exact ⟨k + 1, by go_num, by omega, HM6.out.trans HJ.out⟩
           case measure => simp [intOf]; omega
     · obtain ⟨wo, rfl⟩ : ∃ wo : World, wo = wr := ⟨_, rfl⟩
       have hrs3 := HS3.out.rdS
       have HR3 := Lib.hid hrs3
       have hnf2 : nf ≤ 9223372036854775807 := by obtain ⟨a9, c9, e9, h1, h2, -⟩ := hrs3.shape; have := HNF.out; omega
       clear hrs3
       have HLF : Hid (F.map (keyV .u32) = F.map (keyV .u32)) := Lib.hid rfl
       go_wp2_with fail
       go_loopw [83] (fun i wr => ∃ k : Nat, i = .int .i64 (k : Int) ∧ k ≤ nf ∧ Mod (fun _ => False) w3 wr) (fun i _ => nf - (intOf i).toNat)
       case atStart => exact ⟨0, rfl, Nat.zero_le _, HK.out⟩
       case round =>
         obtain ⟨k2, rfl, hk2, hmk2⟩ := hrel
         have HK2 := Lib.hid hmk2
         clear hmk2
         by_cases hkf : k2 < nf
         · obtain ⟨x, hx⟩ : ∃ x, F[k2]? = some x := ⟨_, List.getElem?_eq_getElem (by rw [← HNF.out]; exact hkf)⟩
           have hr3' : RdS w3 1 (.slice af nf cf) nf (F.map (keyV .u32)) := by have h := HR3.out; have h2 := HNF.out; subst h2; exact h
           obtain ⟨bk, offk, ek, hbk, hck⟩ := hr3'.cell _ _ rfl k2 (.int .u32 (x : Int)) (by rw [List.getElem?_map, hx]; rfl)
           subst ek
           replace hck := HK2.out.cell hck
           have zbk : bk < wr.heap.size := Nat.lt_of_lt_of_le hbk HK2.out.size
           have HNM : Hid (((l.map Vs.x).any fun y => (entX y.halves x).isSome) = true) := Lib.hid (fr_named (by rw [← HRR.out.2]; exact List.mem_of_getElem? hx))
           clear hx hbk hr3'
           obtain ⟨wi, rfl⟩ : ∃ wi : World, wi = wr := ⟨_, rfl⟩
           go_wp2_with fail
           clear hck zbk
           go_loopw [89, 14] (fun i u wr => ∃ j : Nat, i = .int .i64 (j : Int) ∧ j ≤ q ∧ u = .bool (((l.map Vs.x).take j).any fun y => (entX y.halves x).isSome) ∧ Mod (fun _ => False) w3 wr) (fun i _ _ => q - (intOf i).toNat)
           case atStart => exact ⟨0, rfl, Nat.zero_le _, by simp, HK2.out⟩
           case round =>
             obtain ⟨j, rfl, hj, rfl, hmj⟩ := hrel
             have HJ := Lib.hid hmj
             clear hmj
             by_cases hjq : j < q
             · obtain ⟨s, hs⟩ : ∃ s, l[j]? = some s := ⟨_, List.getElem?_eq_getElem (by rw [← HNA.out]; exact hjq)⟩
               obtain ⟨bl, offl, e0, hbl, r0, r1, r2, r3⟩ := HA.out.ent hs rfl
               have HWJ : Hid (Mod (fun _ => False) w wr) := Lib.hid (HM3.out.trans HJ.out)
               replace r0 := HWJ.out.cell r0
               replace r1 := HWJ.out.cell r1
               replace r2 := HWJ.out.cell r2
               replace r3 := HWJ.out.cell r3
               have zbl : bl < wr.heap.size := Nat.lt_of_lt_of_le hbl HWJ.out.size
               have HTJ : Hid ((((l.map Vs.x).take (j + 1)).any fun y => (entX y.halves x).isSome) = ((((l.map Vs.x).take j).any fun y => (entX y.halves x).isSome) || (entX s.x.halves x).isSome)) := Lib.hid (by
                 have hs2 : (l.map Vs.x)[j]? = some s.x := by rw [List.getElem?_map, hs]; rfl
                 obtain ⟨h1, h2⟩ := List.getElem?_eq_some_iff.1 hs2
                 rw [List.take_succ_eq_append_getElem h1, h2, List.any_append]
                 simp)
               have hvr := HA.out.at hs
               have HHF : Hid (∀ w', Mod (fun _ => False) w w' → Calls Tryz.prog 27 #[vtxV s.x s.vp s.vh, .int .u32 (x : Int)] w' fun e w'' => e = .returned (.tuple #[((entX s.x.halves x).getD noVal).v, .bool (entX s.x.halves x).isSome]) ∧ Mod (fun _ => False) w' w'') := Lib.hid (fun w' mm => dhalf_any s.x s.vp s.vh x w' (hvr.keep mm))
               obtain ⟨ap, cp, np, ep⟩ : ∃ a c n, s.vp = .slice a n c := by obtain ⟨a, c, e, _⟩ := hvr.props.shape; exact ⟨_, _, _, e⟩
               obtain ⟨ah, ch, nh, eh⟩ : ∃ a c n, s.vh = .slice a n c := by obtain ⟨a, c, e, _⟩ := hvr.halves.shape; exact ⟨_, _, _, e⟩
               subst e0
               clear hs hbl hvr
               obtain ⟨⟨id, th, ps, hs⟩, vp, vh⟩ := s
               simp only at r0 r1 r2 r3 ep eh HTJ HHF
               subst ep eh
               simp only [vtxV] at HHF
               generalize (((l.map Vs.x).take j).any fun y => (entX y.halves x).isSome) = bj at HTJ ⊢
               generalize (entX hs x).getD noVal = hv at HHF
               generalize (entX hs x).isSome = hb at HHF HTJ
               obtain ⟨hvk, hvn, hvs⟩ := hv
               simp only [Val.v] at HHF
               cases bj
               all_goals
                 go_wp2_with (go_at_call 27; go_loud (refine (HHF.out _ (HWJ.out.alloc _)).mono ?_; (rintro e w7 ⟨rfl, hm7⟩); have HM7 : Hid (Mod (fun _ => False) w3 w7) := Lib.hid ((HJ.out.alloc _).trans hm7); clear hm7))
                 go_roundw
                 case rel => exact ⟨j + 1, by go_num, by omega, by rw [HTJ.out]; simp, HM7.out.alloc _⟩
                 case measure => simp [intOf]; omega
             · have HTA : Hid ((((l.map Vs.x).take j).any fun y => (entX y.halves x).isSome) = true) := Lib.hid (by
                 rw [List.take_of_length_le (by rw [List.length_map]; have := HNA.out; omega)]
                 exact HNM.out)
               have hta := HTA.out
               rw [hta]
               clear hta
               go_wp2
               go_roundw
               case rel => exact ⟨k2 + 1, by go_num, by omega, HJ.out⟩
               case measure => simp [intOf]; omega
         · go_wp2
           go_ret
           exact ⟨rfl, HM3.out.trans HK2.out⟩
open Go.RowKit Go.ChangeShapes Go.WideShapes Go.ChangeAt
theorem pfronts_all (v0 : Value) (w : World) (hg : ErrT w) (h0 : InVs w v0) : Calls Tryz.prog 5 #[v0] w fun e w' => e = .returned (.bool true) ∧ Below w.heap.size w w' := by
 obtain ⟨la, a1, a2⟩ := h0
 exact Calls.mono (R := fun e w' => e = .returned (.bool true) ∧ Mod (fun _ => False) w w') (pfronts_main v0 la w a1 a2 hg) (fun _ _ ⟨h, m⟩ => ⟨h, m.toBelow (Nat.le_refl _) (fun _ _ f => f)⟩)
end Go.Proofs.YtlpdifinkcjckaaGreatDoor
