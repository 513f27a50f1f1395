import Derived.Test.YtlpdifinkcjckaaGreatDoorMFw29
import Derived.Test.YtlpdifinkcjckaaGreatDoorMNWan02
import Derived.Test.YtlpdifinkcjckaaGreatDoorMNWan03
set_option linter.unusedVariables false
set_option linter.unusedSimpArgs false
namespace Go.Proofs.YtlpdifinkcjckaaGreatDoor
open Go.RowKit Go.Maps
theorem RdS.lessE {w : World} {size n c q : Nat} {a : Option Addr} {xs : List Value} (h : RdS w size (.slice a n c) n xs) (hq : q ≤ n) : RdS w size (.slice a q c) q (xs.take (q * size)) := by
 obtain ⟨a', c', e, h1, h2, h3⟩ := h.shape
 injection e with e1 e2 e3
 subst e1 e3
 refine ⟨by rw [List.length_take, h.len]; exact Nat.min_eq_left (Nat.mul_le_mul_right _ hq), ⟨_, _, rfl, by omega, h2, h3⟩, fun a' c' e j u hu => ?_⟩
 injection e with e1 e2 e3
 subst e1 e3
 rw [List.getElem?_take] at hu
 split at hu
 · exact h.cell _ _ rfl j u hu
 · simp at hu
theorem flat_takeE {α : Type} (cells : α → List Value) {size : Nat} (hc : ∀ x, (cells x).length = size) : ∀ (l : List α) (k : Nat), (l.flatMap cells).take (k * size) = (l.take k).flatMap cells
 | [], k => by simp
 | x :: r, 0 => by simp
 | x :: r, k + 1 => by
   rw [List.flatMap_cons, List.take_succ_cons, List.flatMap_cons, Nat.add_mul, Nat.one_mul, Nat.add_comm, List.take_append, hc, List.take_of_length_le (by rw [hc]; omega), show size + k * size - size = k * size by omega, flat_takeE cells hc r k]
theorem ORd.lessE {w : World} {n c q : Nat} {a : Option Addr} {l : List Opr} (h : ORd w (.slice a n c) l) (hn : n = l.length) (hq : q ≤ n) : ORd w (.slice a q c) (l.take q) := by
 have hr := h.row
 rw [← hn] at hr
 have h2 := hr.lessE hq
 rw [show (ocells l).take (q * 7) = ocells (l.take q) from flat_takeE Opr.cells opr_cells l q] at h2
 have e : (l.take q).length = q := by rw [List.length_take]; omega
 exact ⟨by rw [e]; exact h2, fun o ho => h.fits o (List.mem_of_mem_take ho)⟩
theorem bytes_lessE {w : World} {n c q : Nat} {a : Option Addr} {l : List Nat} (h : RdS w 1 (.slice a n c) n (l.map (keyV .u8))) (hq : q ≤ n) : RdS w 1 (.slice a q c) q ((l.take q).map (keyV .u8)) := by
 have h2 := h.lessE hq
 rw [Nat.mul_one, ← List.map_take] at h2
 exact h2
theorem grp_take_all {ws : List Wt} {os : List Nat} {k : Nat} (h1 : ws.length ≤ k) (h2 : os.length ≤ k) (n : Nat) : grpL (ws.take k) (os.take k) n = grpL ws os n := by rw [List.take_of_length_le h1, List.take_of_length_le h2]
theorem grpL_len (ws : List Wt) (os : List Nat) (n : Nat) : (grpL ws os n).length ≤ ws.length := by
 unfold grpL
 rw [List.length_map]
 exact Nat.le_trans (List.length_filter_le _ _) (by rw [List.length_zip]; omega)
set_option maxRecDepth 100000 in
set_option maxHeartbeats 8000000 in
theorem pwants_main (va vb : Value) (la : List Opr) (lb : List Nat) (w : World) (ha : ORd w va la) (za : la.length * 48 ≤ 140737488355328) (hb : RdS w 1 vb lb.length (lb.map (keyV .u8))) (zb : ∀ x ∈ lb, x < 256) (hg : ErrT w) :
   Calls Tryz.prog 6 #[va, vb] w fun e w' => e = .returned (.bool true) ∧ Mod (fun _ => False) w w' := by
 have HAW := Lib.hid (pawake_any w hg)
 obtain ⟨aa, ca, rfl, hca, hca2, -⟩ := ha.row.shape
 obtain ⟨ab, cb, rfl, hcb, hcb2, -⟩ := hb.shape
 obtain ⟨n, hna⟩ : ∃ n, n = la.length := ⟨_, rfl⟩
 obtain ⟨n2, hnb⟩ : ∃ n, n = lb.length := ⟨_, rfl⟩
 obtain ⟨q, hq, hqn, hq30⟩ : ∃ q : Nat, min (n : Int) 30 = (q : Int) ∧ q ≤ n ∧ q ≤ 30 := ⟨min n 30, by omega, by omega, by omega⟩
 obtain ⟨q2, hq2, hqn2, hq40⟩ : ∃ q : Nat, min (n2 : Int) 40 = (q : Int) ∧ q ≤ n2 ∧ q ≤ 40 := ⟨min n2 40, by omega, by omega, by omega⟩
 rw [← hna] at ha hca ⊢
 rw [← hnb] at hb hcb ⊢
 have HO0 := ha.lessE hna hqn
 have HB := Lib.hid (bytes_lessE hb hqn2)
 have HZB : Hid (∀ x ∈ lb.take q2, x < 256) := Lib.hid (fun x hx => zb x (List.mem_of_mem_take hx))
 have HNB : Hid (q2 = (lb.take q2).length) := Lib.hid (by rw [List.length_take, ← hnb]; omega)
 have HNA : Hid (q = (la.take q).length) := Lib.hid (by rw [List.length_take, ← hna]; omega)
 have HO := Lib.hid HO0
 generalize la.take q = ops at HO HNA
 generalize lb.take q2 = os at HB HZB HNB
 have HOP : Hid (∀ w', Mod (fun _ => False) w w' → Calls Tryz.prog 13 #[.slice aa q ca] w' fun e w'' => ∃ a c, e = .returned (.slice a q c) ∧ Mod (fun _ => False) w' w'' ∧ ORd w'' (.slice a q c) ops) := Lib.hid (fun w' m => by
   have h := ops18_any ops _ w' (HO.out.keep m) (by have := HNA.out; omega)
   rw [← HNA.out] at h
   exact h)
 have HPW : Hid (∀ v w', ORd w' v ops → Calls Tryz.prog 12 #[v] w' fun e w'' => ∃ a n c, e = .returned (.tuple #[.slice a n c, .int .i64 (checkR (txq ops) : Nat)]) ∧ WSeg w' w'' (.slice a n c) (wantsR ops)) := Lib.hid (fun v w' h => (wants_any ops v w' h).mono (by
   rintro e w'' ⟨v, rfl, h⟩
   obtain ⟨a, c, rfl, -⟩ := h.seg.shape
   exact ⟨a, _, c, rfl, h⟩))
 have HDW : Hid (∀ w', Mod (fun _ => False) w w' → Calls Tryz.prog 28 #[.slice aa q ca] w' fun e w'' => ∃ a n c, e = .returned (.tuple #[.slice a n c, .int .i64 (checkR (txq ops) : Nat)]) ∧ WSeg w' w'' (.slice a n c) (wantsR ops)) := Lib.hid (fun w' m => (docwants_any ops _ w' (HO.out.keep m) (by have := HNA.out; omega)).mono (by
   rintro e w'' ⟨v, rfl, h⟩
   obtain ⟨a, c, rfl, -⟩ := h.seg.shape
   exact ⟨a, _, c, rfl, h⟩))
 have HSW : Hid (∀ v u (l m : List Wt) w', WRd w' v l → WRd w' u m → Calls Tryz.prog 29 #[v, u] w' fun e w'' => e = .returned (.bool (decide (l = m))) ∧ Mod (fun _ => False) w' w'') := Lib.hid (fun v u l m w' h1 h2 => wsame18_any v u l m w' h1 h2)
 have HSQ : Hid (∀ v u w', ORd w' v ops → ORd w' u ops → Calls Tryz.prog 24 #[.agg #[.int .u8 0, v, .int .u32 0, .int .i64 0, .int .i64 0], .agg #[.int .u8 0, u, .int .u32 0, .int .i64 0, .int .i64 0]] w' fun e w'' => e = .returned (.bool true) ∧ Mod (fun _ => False) w' w'') := Lib.hid (fun v u w' h1 h2 => reqsame_yes ⟨0, ops, 0, 0, 0⟩ v u w' h1 h2)
 have HTW : Hid (∀ w', Mod (fun _ => False) w w' → Calls Tryz.prog 31 #[.slice ab q2 cb] w' fun e w'' => ∃ a c, e = .returned (.slice a q2 c) ∧ Mod (fun _ => False) w' w'' ∧ RdS w'' 1 (.slice a q2 c) q2 (os.map (keyV .u8))) := Lib.hid (fun w' m => (btwin_any q2 _ _ w' (HB.out.keep m) (by intro u hu; obtain ⟨x, _, rfl⟩ := List.mem_map.1 hu; rfl) (by omega)).mono (by
   rintro e w'' ⟨a, c, rfl, h1, h2, -⟩
   exact ⟨a, c, rfl, h1, h2.rdS⟩))
 have HWL : Hid ((wantsR ops).length ≤ 40 ∧ ∀ x ∈ wantsR ops, x.1 < 4294967296 ∧ x.2 < 256) := Lib.hid (by
   unfold wantsR
   split
   · rename_i h
     have h2 := (checkR_tx h rfl).1
     exact ⟨wants_short h2, wantsP_fits h2⟩
   · exact ⟨by simp, by simp⟩)
 obtain ⟨ck, hck⟩ : ∃ k, k = checkR (txq ops) := ⟨_, rfl⟩
 rw [← hck] at HPW HDW
 obtain ⟨ws, hws⟩ : ∃ l, l = wantsR ops := ⟨_, rfl⟩
 rw [← hws] at HPW HDW HWL
 have HGR : Hid (∀ wv ov w', Mod (fun _ => False) w w' → WRd w' wv ws → RdS w' 1 ov q2 (os.map (keyV .u8)) → Calls Tryz.prog 30 #[wv, ov] w' (GrP ws os w')) := Lib.hid (fun wv ov w' m h1 h2 => groups_any ws os wv ov w' h1 (by rw [← HNB.out]; exact h2) (by have := HWL.out.1; omega))
 obtain ⟨nw, hnw⟩ : ∃ n, n = ws.length := ⟨_, rfl⟩
 have HNW := Lib.hid hnw
 have hnw40 : nw ≤ 40 := by have := HWL.out.1; omega
 clear hna hnb ha hb za zb hg HO0 hck hws hnw
 go_enter Tryz.func6, Tryz.ntmps6
 by_cases hA : ∃ o ∈ os, 4 ≤ o
 · have HA := Lib.hid hA
   clear hA
   go_upto_region 12 with (first
     | (go_at_call 30; go_loud (refine (HGR.out _ _ _ (HMS.out.trans HMT.out) (HWS.out.rd.keep ((HM4.out.trans HM5.out).trans HMT.out)) HBT.out).mono ?_; (rintro e w7 hgp); (have HM7 : Hid (Mod (fun _ => False) w w7) := Lib.hid ((HMS.out.trans HMT.out).trans hgp.1)); (obtain rfl := hgp.2.1 HA.out); clear hgp))
     | (go_at_call 31; go_loud (refine (HTW.out _ HMS.out).mono ?_; (rintro e w6 ⟨at_, ct, rfl, hm6, hb6⟩); have HMT := Lib.hid hm6; have HBT := Lib.hid hb6; clear hm6 hb6))
     | (go_at_call 24; go_loud (refine (HSQ.out _ _ _ (HOM.out.keep (((HWS.out.mod.trans HM4.out).trans HM5.out))) (HO.out.keep (HMX.out.trans HM5.out))).mono ?_; (rintro e w5b ⟨rfl, hm5b⟩); have HMS : Hid (Mod (fun _ => False) w w5b) := Lib.hid ((HMX.out.trans HM5.out).trans hm5b); replace HM5 := Lib.hid (HM5.out.trans hm5b); clear hm5b))
     | (go_at_call 29; go_loud (refine (HSW.out _ _ _ _ _ (HWS.out.rd.keep HM4.out) HWK.out.rd).mono ?_; (rintro e w5 ⟨rfl, hm5⟩); simp only [decide_true]; have HM5 := Lib.hid hm5; clear hm5))
     | (go_at_call 28; go_loud (refine (HDW.out _ HMW.out).mono ?_; (rintro e w4 ⟨a4, n4, c4, rfl, hws4⟩); have HWK := Lib.hid hws4; have HM4 := Lib.hid hws4.mod; have HMX : Hid (Mod (fun _ => False) w w4) := Lib.hid (HMW.out.trans hws4.mod); clear hws4))
     | (go_at_call 12; go_loud (refine (HPW.out _ _ HOM.out).mono ?_; (rintro e w3 ⟨a3, n3, c3, rfl, hws3⟩); have HWS := Lib.hid hws3; have HMW : Hid (Mod (fun _ => False) w w3) := Lib.hid (HM2.out.trans hws3.mod); clear hws3))
     | (go_at_call 13; go_loud (refine (HOP.out _ HM1.out).mono ?_; (rintro e w2 ⟨a2, c2, rfl, hm2, ho2⟩); have HM2 := Lib.hid (HM1.out.trans hm2); have HOM := Lib.hid ho2; clear hm2 ho2))
     | (go_at_call 8; refine HAW.out.mono ?_; (rintro e w1 ⟨rfl, hm1⟩); have HM1 := Lib.hid hm1; clear hm1))
   clear hq hq2
   go_wp2_with fail
   go_loopw [68] (fun i wr => ∃ k : Nat, i = .int .i64 (k : Int) ∧ k ≤ q2 ∧ wr = w7 ∧ ∀ o ∈ os.take k, o < 4) (fun i _ => q2 - (intOf i).toNat)
   case atStart => exact ⟨0, rfl, Nat.zero_le _, rfl, by simp⟩
   case round =>
     obtain ⟨k, rfl, hk, rfl, hlow⟩ := hrel
     have HLOW := Lib.hid hlow
     clear hlow
     by_cases hkq : k < q2
     · have hrb := HB.out
       obtain ⟨o, hx⟩ : ∃ o, os[k]? = some o := ⟨_, List.getElem?_eq_getElem (by rw [← HNB.out]; exact hkq)⟩
       obtain ⟨bo, offo, eo, hbo, q0⟩ := hrb.cell _ _ rfl k (.int .u8 (o : Int)) (by rw [List.getElem?_map, hx]; rfl)
       have HOK := Lib.hid (List.mem_of_getElem? hx)
       have HTO : Hid (os.take (k + 1) = os.take k ++ [o]) := Lib.hid (by
         obtain ⟨h1, h2⟩ := List.getElem?_eq_some_iff.1 hx
         rw [List.take_succ_eq_append_getElem h1, h2])
       replace q0 := HM7.out.cell q0
       have zbo : bo < wr.heap.size := Nat.lt_of_lt_of_le hbo HM7.out.size
       subst eo
       clear hrb hx hbo
       by_cases ho4 : 3 < o
       · have ho4i : (3 : Int) < (o : Int) := by omega
         go_wp2
         go_ret
         exact ⟨rfl, HM7.out⟩
       · have ho4i : ¬ (3 : Int) < (o : Int) := by omega
         go_wp2
         go_roundw
         case rel => exact ⟨k + 1, by go_num, by omega, by first | rfl | trivial, fun y hy => by
           rw [HTO.out] at hy
           rcases List.mem_append.1 hy with hy | hy
           · exact HLOW.out y hy
           · rw [List.mem_singleton] at hy; omega⟩
         case measure => simp [intOf]; omega
     · exfalso
       obtain ⟨o, h1, h2⟩ := HA.out
       have h3 := HLOW.out o (by rw [List.take_of_length_le (by have := HNB.out; omega)]; exact h1)
       omega
 have hB : ∀ o ∈ os, o < 4 := fun o ho => by
   apply Classical.byContradiction
   intro h
   exact hA ⟨o, ho, by omega⟩
 have HBB := Lib.hid hB
 clear hA hB
 by_cases hC : os.length = ws.length
 rotate_left
 · have HC := Lib.hid hC
   have hqw : ((q2 : Int) == (nw : Int)) = false := by have := HNB.out; have := HNW.out; simp; omega
   have hqw2 : ¬ (q2 : Int) = (nw : Int) := by have := HNB.out; have := HNW.out; omega
   clear hC
   go_upto_region 12 with (first
     | (go_at_call 30; go_loud (refine (HGR.out _ _ _ (HMS.out.trans HMT.out) (HWS.out.rd.keep ((HM4.out.trans HM5.out).trans HMT.out)) HBT.out).mono ?_; (rintro e w7 hgp); (have HM7 : Hid (Mod (fun _ => False) w w7) := Lib.hid ((HMS.out.trans HMT.out).trans hgp.1)); (obtain rfl := hgp.2.2.1 HBB.out HC.out); clear hgp))
     | (go_at_call 31; go_loud (refine (HTW.out _ HMS.out).mono ?_; (rintro e w6 ⟨at_, ct, rfl, hm6, hb6⟩); have HMT := Lib.hid hm6; have HBT := Lib.hid hb6; clear hm6 hb6))
     | (go_at_call 24; go_loud (refine (HSQ.out _ _ _ (HOM.out.keep (((HWS.out.mod.trans HM4.out).trans HM5.out))) (HO.out.keep (HMX.out.trans HM5.out))).mono ?_; (rintro e w5b ⟨rfl, hm5b⟩); have HMS : Hid (Mod (fun _ => False) w w5b) := Lib.hid ((HMX.out.trans HM5.out).trans hm5b); replace HM5 := Lib.hid (HM5.out.trans hm5b); clear hm5b))
     | (go_at_call 29; go_loud (refine (HSW.out _ _ _ _ _ (HWS.out.rd.keep HM4.out) HWK.out.rd).mono ?_; (rintro e w5 ⟨rfl, hm5⟩); simp only [decide_true]; have HM5 := Lib.hid hm5; clear hm5))
     | (go_at_call 28; go_loud (refine (HDW.out _ HMW.out).mono ?_; (rintro e w4 ⟨a4, n4, c4, rfl, hws4⟩); have HWK := Lib.hid hws4; have HM4 := Lib.hid hws4.mod; have HMX : Hid (Mod (fun _ => False) w w4) := Lib.hid (HMW.out.trans hws4.mod); clear hws4))
     | (go_at_call 12; go_loud (refine (HPW.out _ _ HOM.out).mono ?_; (rintro e w3 ⟨a3, n3, c3, rfl, hws3⟩); have HWS := Lib.hid hws3; have HMW : Hid (Mod (fun _ => False) w w3) := Lib.hid (HM2.out.trans hws3.mod); clear hws3))
     | (go_at_call 13; go_loud (refine (HOP.out _ HM1.out).mono ?_; (rintro e w2 ⟨a2, c2, rfl, hm2, ho2⟩); have HM2 := Lib.hid (HM1.out.trans hm2); have HOM := Lib.hid ho2; clear hm2 ho2))
     | (go_at_call 8; refine HAW.out.mono ?_; (rintro e w1 ⟨rfl, hm1⟩); have HM1 := Lib.hid hm1; clear hm1))
   clear hq hq2
   obtain rfl : n3 = nw := by obtain ⟨a9, c9, e9, -⟩ := HWS.out.seg.shape; injection e9 with _ e9 _; rw [e9, HNW.out]
   go_wp2_with fail
   go_loopw [68] (fun i wr => ∃ k : Nat, i = .int .i64 (k : Int) ∧ k ≤ q2 ∧ wr = w7) (fun i _ => q2 - (intOf i).toNat)
   case atStart => exact ⟨0, rfl, Nat.zero_le _, rfl⟩
   case round =>
     obtain ⟨k, rfl, hk, rfl⟩ := hrel
     by_cases hkq : k < q2
     · have hrb := HB.out
       obtain ⟨o, hx⟩ : ∃ o, os[k]? = some o := ⟨_, List.getElem?_eq_getElem (by rw [← HNB.out]; exact hkq)⟩
       obtain ⟨bo, offo, eo, hbo, q0⟩ := hrb.cell _ _ rfl k (.int .u8 (o : Int)) (by rw [List.getElem?_map, hx]; rfl)
       have HOK := Lib.hid (List.mem_of_getElem? hx)
       have HTO : Hid (os.take (k + 1) = os.take k ++ [o]) := Lib.hid (by
         obtain ⟨h1, h2⟩ := List.getElem?_eq_some_iff.1 hx
         rw [List.take_succ_eq_append_getElem h1, h2])
       replace q0 := HM7.out.cell q0
       have zbo : bo < wr.heap.size := Nat.lt_of_lt_of_le hbo HM7.out.size
       subst eo
       clear hrb hx hbo
       have ho4i : ¬ (3 : Int) < (o : Int) := by have := HBB.out o HOK.out; omega
       go_wp2
       go_roundw
       case rel => exact ⟨k + 1, by go_num, by omega, by first | rfl | trivial⟩
       case measure => simp [intOf]; omega
     · go_wp2
       go_ret
       exact ⟨rfl, HM7.out⟩
 have HC := Lib.hid hC
 have HQW : Hid (q2 = nw) := Lib.hid (by have := HNB.out; have := HNW.out; omega)
 clear hC
 go_upto_region 12 with (first
   | (go_at_call 30; go_loud (refine (HGR.out _ _ _ (HMS.out.trans HMT.out) (HWS.out.rd.keep ((HM4.out.trans HM5.out).trans HMT.out)) HBT.out).mono ?_; (rintro e w7 hgp); (have HM7 : Hid (Mod (fun _ => False) w w7) := Lib.hid ((HMS.out.trans HMT.out).trans hgp.1)); have HGM := Lib.hid hgp.1; (obtain ⟨b, v0, v1, v2, v3, rfl, hbx, hv0, hv1, hv2, hv3⟩ := hgp.2.2.2 HBB.out HC.out); have HBX := Lib.hid hbx; (have HVS : Hid (∀ j, j < 4 → ∃ v, (#[v0, v1, v2, v3] : Array Value)[j]? = some v ∧ WRd w7 v (grpL ws os j)) := Lib.hid (fun j hj => match j, hj with | 0, _ => ⟨v0, rfl, hv0⟩ | 1, _ => ⟨v1, rfl, hv1⟩ | 2, _ => ⟨v2, rfl, hv2⟩ | 3, _ => ⟨v3, rfl, hv3⟩)); clear hgp hbx hv0 hv1 hv2 hv3))
   | (go_at_call 31; go_loud (refine (HTW.out _ HMS.out).mono ?_; (rintro e w6 ⟨at_, ct, rfl, hm6, hb6⟩); have HMT := Lib.hid hm6; have HBT := Lib.hid hb6; clear hm6 hb6))
   | (go_at_call 24; go_loud (refine (HSQ.out _ _ _ (HOM.out.keep (((HWS.out.mod.trans HM4.out).trans HM5.out))) (HO.out.keep (HMX.out.trans HM5.out))).mono ?_; (rintro e w5b ⟨rfl, hm5b⟩); have HMS : Hid (Mod (fun _ => False) w w5b) := Lib.hid ((HMX.out.trans HM5.out).trans hm5b); replace HM5 := Lib.hid (HM5.out.trans hm5b); clear hm5b))
   | (go_at_call 29; go_loud (refine (HSW.out _ _ _ _ _ (HWS.out.rd.keep HM4.out) HWK.out.rd).mono ?_; (rintro e w5 ⟨rfl, hm5⟩); simp only [decide_true]; have HM5 := Lib.hid hm5; clear hm5))
   | (go_at_call 28; go_loud (refine (HDW.out _ HMW.out).mono ?_; (rintro e w4 ⟨a4, n4, c4, rfl, hws4⟩); have HWK := Lib.hid hws4; have HM4 := Lib.hid hws4.mod; have HMX : Hid (Mod (fun _ => False) w w4) := Lib.hid (HMW.out.trans hws4.mod); clear hws4))
   | (go_at_call 12; go_loud (refine (HPW.out _ _ HOM.out).mono ?_; (rintro e w3 ⟨a3, n3, c3, rfl, hws3⟩); have HWS := Lib.hid hws3; have HMW : Hid (Mod (fun _ => False) w w3) := Lib.hid (HM2.out.trans hws3.mod); clear hws3))
   | (go_at_call 13; go_loud (refine (HOP.out _ HM1.out).mono ?_; (rintro e w2 ⟨a2, c2, rfl, hm2, ho2⟩); have HM2 := Lib.hid (HM1.out.trans hm2); have HOM := Lib.hid ho2; clear hm2 ho2))
   | (go_at_call 8; refine HAW.out.mono ?_; (rintro e w1 ⟨rfl, hm1⟩); have HM1 := Lib.hid hm1; clear hm1))
 clear hq hq2
 obtain rfl : n3 = nw := by obtain ⟨a9, c9, e9, -⟩ := HWS.out.seg.shape; injection e9 with _ e9 _; rw [e9, HNW.out]
 obtain rfl : n4 = n3 := by obtain ⟨a9, c9, e9, -⟩ := HWK.out.seg.shape; injection e9 with _ e9 _; rw [e9, HNW.out]
 obtain rfl : q2 = n4 := HQW.out
 clear HQW
 have HWK7 : Hid (WRd w7 (.slice a4 q2 c4) ws) := Lib.hid (HWK.out.rd.keep (((HM5.out.trans HMT.out)).trans HGM.out))
 go_wp2_with fail
 go_loopw [68] (fun i wr => ∃ k : Nat, i = .int .i64 (k : Int) ∧ k ≤ q2 ∧ wr = w7) (fun i _ => q2 - (intOf i).toNat)
 case atStart => exact ⟨0, rfl, Nat.zero_le _, rfl⟩
 case round =>
   obtain ⟨k, rfl, hk, rfl⟩ := hrel
   by_cases hkq : k < q2
   · have hrb := HB.out
     obtain ⟨o, hx⟩ : ∃ o, os[k]? = some o := ⟨_, List.getElem?_eq_getElem (by rw [← HNB.out]; exact hkq)⟩
     obtain ⟨bo, offo, eo, hbo, q0⟩ := hrb.cell _ _ rfl k (.int .u8 (o : Int)) (by rw [List.getElem?_map, hx]; rfl)
     have HOK := Lib.hid (List.mem_of_getElem? hx)
     have HTO : Hid (os.take (k + 1) = os.take k ++ [o]) := Lib.hid (by
       obtain ⟨h1, h2⟩ := List.getElem?_eq_some_iff.1 hx
       rw [List.take_succ_eq_append_getElem h1, h2])
     replace q0 := HM7.out.cell q0
     have zbo : bo < wr.heap.size := Nat.lt_of_lt_of_le hbo HM7.out.size
     subst eo
     clear hrb hx hbo
     have ho4i : ¬ (3 : Int) < (o : Int) := by have := HBB.out o HOK.out; omega
     go_wp2
     go_roundw
     case rel => exact ⟨k + 1, by go_num, by omega, by first | rfl | trivial⟩
     case measure => simp [intOf]; omega
   · obtain ⟨wi, rfl⟩ : ∃ wi : World, wi = wr := ⟨_, rfl⟩
     obtain ⟨i0, hi, hz0, hz1, hz2⟩ := info_parts infoWant
     have HI : Hid (Tryz.prog.info? 43 = some i0 ∧ i0.zero = some (.agg #[.int .u32 0, .int .u8 0]) ∧ i0.size = 2 ∧ i0.bytes = 8) := ⟨hi, hz0, hz1, hz2⟩
     clear hi hz0 hz1 hz2
     go_wp2_with fail
     go_loopw [103] (fun i wr => ∃ j : Nat, i = .int .i64 (j : Int) ∧ j ≤ 4 ∧ Mod (fun _ => False) wi wr) (fun i _ => 4 - (intOf i).toNat)
     case atStart => exact ⟨0, rfl, by omega, Mod.refl _ _⟩
     case round =>
       obtain ⟨j, rfl, hj, hmj⟩ := hrel
       have HJ := Lib.hid hmj
       clear hmj
       by_cases hj4 : j < 4
       · have hj4i : (j : Int) < 4 := by omega
         obtain ⟨gv, hgv, hgw⟩ := HVS.out j hj4
         have HGV := Lib.hid hgv
         have HGWJ := Lib.hid hgw
         obtain ⟨wj, rfl⟩ : ∃ wj : World, wj = wr := ⟨_, rfl⟩
         clear hgv hgw
         go_wp2_with fail
         go_loopw [108, 15] (fun i u wr => ∃ k : Nat, i = .int .i64 (k : Int) ∧ k ≤ q2 ∧ WSeg wj wr u (grpL (ws.take k) (os.take k) j)) (fun i _ _ => q2 - (intOf i).toNat)
         case atStart => exact ⟨0, rfl, Nat.zero_le _, ⟨Seg.nil _ _ _, fun b hb => by simp [Value.ownBlock] at hb, Mod.refl _ _, by simp [grpL]⟩⟩
         case round =>
           obtain ⟨k2, rfl, hk2, hwo⟩ := hrel
           have HWO := Lib.hid hwo
           obtain ⟨ng, hng⟩ : ∃ n, n = (grpL (ws.take k2) (os.take k2) j).length := ⟨_, rfl⟩
           have HNG := Lib.hid hng
           have HNL : Hid (ng ≤ q2) := Lib.hid (by have h1 := grpL_len (ws.take k2) (os.take k2) j; rw [List.length_take] at h1; have := HNW.out; omega)
           have hnl := HNL.out
           obtain ⟨ag, cg, hvv, -⟩ := hwo.seg.shape
           rw [← hng] at hvv
           subst hvv
           clear hwo hng
           by_cases hkq2 : k2 < q2
           · obtain ⟨o, hx⟩ : ∃ o, os[k2]? = some o := ⟨_, List.getElem?_eq_getElem (by rw [← HNB.out]; exact hkq2)⟩
             obtain ⟨x, hy⟩ : ∃ x, ws[k2]? = some x := ⟨_, List.getElem?_eq_getElem (by rw [← HNW.out]; exact hkq2)⟩
             obtain ⟨bo, offo, eo, hbo, q0⟩ := HB.out.cell _ _ rfl k2 (.int .u8 (o : Int)) (by rw [List.getElem?_map, hx]; rfl)
             obtain ⟨bx, offx, ex, hbx, r0, r1⟩ := HWK7.out.ent hy rfl
             have HMR : Hid (Mod (fun _ => False) wi wr) := Lib.hid (HJ.out.trans HWO.out.mod)
             replace q0 := HMR.out.cell (HM7.out.cell q0)
             have zbo : bo < wr.heap.size := Nat.lt_of_lt_of_le hbo (Nat.le_trans HM7.out.size HMR.out.size)
             replace r0 := HMR.out.cell r0
             replace r1 := HMR.out.cell r1
             have zbx : bx < wr.heap.size := Nat.lt_of_lt_of_le hbx HMR.out.size
             have HGS := Lib.hid (grpL_snoc hy hx j)
             have HFX := Lib.hid (HWL.out.2 x (List.mem_of_getElem? hy))
             have ho4 : o < 4 := HBB.out o (List.mem_of_getElem? hx)
             subst eo ex
             clear hx hy hbo hbx
             obtain ⟨xv, xm⟩ := x
             simp only at r0 r1 HFX
             generalize grpL (ws.take k2) (os.take k2) j = gl at HWO HNG HGS
             by_cases hoj : o = j
             · subst hoj
               have HG1 : Hid (grpL (ws.take (k2 + 1)) (os.take (k2 + 1)) o = gl ++ [(xv, xm)]) := Lib.hid (by rw [HGS.out, if_pos rfl])
               obtain ⟨W2, hW2⟩ : ∃ W, W = wr.alloc (.cells #[.int .u32 (xv : Int), .int .u8 (xm : Int)] 43) := ⟨_, rfl⟩
               have HM2b : Hid (Mod (fun _ => False) wr W2) := Lib.hid (by rw [hW2]; exact (Mod.refl _ _).alloc _)
               have HB2 : Hid (W2.heap[wr.heap.size]? = some (.cells #[.int .u32 (xv : Int), .int .u8 (xm : Int)] 43 (0, 0))) := Lib.hid (by rw [hW2]; exact heap_alloc_new' _ _)
               have HM6b : Hid (Mod (fun _ => False) wr (W2.alloc (.cells #[.int .u32 (xv : Int), .int .u8 (xm : Int)] 43))) := Lib.hid (HM2b.out.alloc _)
               have HSG6 : Hid (Seg (W2.alloc (.cells #[.int .u32 (xv : Int), .int .u8 (xm : Int)] 43)) 43 2 (.slice ag ng cg) ng (gl.flatMap wtC)) := Lib.hid ((HWO.out.row2 HNG.out).mod HM6b.out (fun _ _ f => f))
               have HSR6 := Lib.hid (src_cells (w := W2) rfl (size := 2) 43 #[.int .u32 (xv : Int), .int .u8 (xm : Int)] rfl (by simp [Value.oneCell']))
               go_upto_region 28 with fail
               rw [← hW2]
               clear hW2 r0 r1 zbx
               replace q0 := HM2b.out.cell q0
               have zbo2 : bo < W2.heap.size := Nat.lt_of_lt_of_le zbo HM2b.out.size
               have d0 := cell_of_row HB2.out 0
               have d1 := cell_of_row HB2.out 1
               have zd := lt_of_block HB2.out
               simp at d0 d1
               have hcv : IntKind.i64.wrap (o : Int) = (o : Int) := IntWalk.i64_in _ (by omega)
               go_wp2_with (at_builtin; go_loud (refine wpList_append_seg rfl (.tmp 120) (.tmp 122) 37 rfl i0 _ 2 8 Tryz.underlying37 HI.out.1 HI.out.2.1 HI.out.2.2.1 HI.out.2.2.2 rfl (by decide) rfl HSG6.out _ 1 _ rfl HSR6.out (by unfold maxLen; omega) (by omega) ?_; intro v8 w8 hs8 hg8 ho8; have HW8 := Lib.hid (HWO.out.next (x := (xv, xm)) HM6b.out HFX.out HNG.out hs8 hg8 ho8); (obtain ⟨a8, c8, rfl, -⟩ := hs8.shape); clear hs8 hg8 ho8))
               go_roundw
               case rel => exact ⟨k2 + 1, by go_num, by omega, by rw [HG1.out]; exact HW8.out⟩
               case measure => simp [intOf]; omega
             · have hoj1 : ((o : Int) == (j : Int)) = false := by simp; omega
               have hoj2 : ¬ (o : Int) = (j : Int) := by omega
               have HG1 : Hid (grpL (ws.take (k2 + 1)) (os.take (k2 + 1)) j = gl) := Lib.hid (by rw [HGS.out, if_neg hoj, List.append_nil])
               clear hoj
               have hcv : IntKind.i64.wrap (o : Int) = (o : Int) := IntWalk.i64_in _ (by omega)
               go_wp2
               go_roundw
               case rel => exact ⟨k2 + 1, by go_num, by omega, by rw [HG1.out]; exact HWO.out.keep ((Mod.refl _ _).alloc _)⟩
               case measure => simp [intOf]; omega
           · have HGA : Hid (grpL (ws.take k2) (os.take k2) j = grpL ws os j) := Lib.hid (grp_take_all (by have := HNW.out; omega) (by have := HNB.out; omega) j)
             rw [HGA.out] at HWO
             have HMR : Hid (Mod (fun _ => False) wi wr) := Lib.hid (HJ.out.trans HWO.out.mod)
             have hcb := cell_of_row (HMR.out.heap HBX.out (fun f => f)) j
             rw [HGV.out] at hcb
             have zb := lt_of_block (HMR.out.heap HBX.out (fun f => f))
             have HSJ : Hid (Calls Tryz.prog 29 #[gv, .slice ag ng cg] wr fun e w'' => e = .returned (.bool true) ∧ Mod (fun _ => False) wr w'') := Lib.hid (by
               have h := HSW.out gv (.slice ag ng cg) (grpL ws os j) (grpL ws os j) wr (HGWJ.out.keep HMR.out) HWO.out.rd
               simp only [decide_true] at h
               exact h)
             obtain ⟨agv, cgv, egv, -⟩ := HGWJ.out.row.shape
             subst egv
             go_wp2_with (go_at_call 29; go_loud (refine HSJ.out.mono ?_; (rintro e w9 ⟨rfl, hm9⟩); have HM9 := Lib.hid hm9; clear hm9))
             go_roundw
             case rel => exact ⟨j + 1, by go_num, by omega, HMR.out.trans HM9.out⟩
             case measure => simp [intOf]; omega
       · go_wp2
         go_ret
         exact ⟨rfl, HM7.out.trans HJ.out⟩
open Go.RowKit Go.ChangeShapes Go.WideShapes Go.ChangeAt
theorem pwants_all (v0 v1 : Value) (w : World) (hg : ErrT w) (h0 : InOps w v0) (h1 : InBytes w v1) : Calls Tryz.prog 6 #[v0, v1] w fun e w' => e = .returned (.bool true) ∧ Below w.heap.size w w' := by
 obtain ⟨la, a1, a2⟩ := h0
 obtain ⟨lb, b1, b2⟩ := h1
 exact Calls.mono (R := fun e w' => e = .returned (.bool true) ∧ Mod (fun _ => False) w w') (pwants_main v0 v1 la lb w a1 a2 b1 b2 hg) (fun _ _ ⟨h, m⟩ => ⟨h, m.toBelow (Nat.le_refl _) (fun _ _ f => f)⟩)
end Go.Proofs.YtlpdifinkcjckaaGreatDoor
