import Derived.Test.YtlpdifinkcjckaaGreatDoorMEn08
set_option linter.unusedVariables false
set_option linter.unusedSimpArgs false
namespace Go.Proofs.YtlpdifinkcjckaaGreatDoor
open Go.RowKit Go.Maps
set_option maxRecDepth 100000 in
set_option maxHeartbeats 2000000 in
theorem keysStopMd (Bm b : Nat) (es : Ents) (w : World) (hBm : Bm < w.heap.size) (hm : w.cell? ⟨Bm, 0, none⟩ = some (.map (some b))) (hU : UMap Tryz.prog 27 .u32 w b es) :
   SeqStops Fence.wide 4 Tryz.prog 63 #[.pointer (some ⟨Bm, 0, none⟩)] (keyV .u32) (fun ss => ss.Perm (es.map (·.1))) (fun _ => True) es.length w := by
 intro l J Jx W hW hJ _ hY h0
 have hm' : W.cell? ⟨Bm, 0, none⟩ = some (.map (some b)) := (hW.cell (p := ⟨Bm, 0, none⟩) hBm).trans hm
 have hown : W.ownsMap Tryz.prog 27 rawE b es.length (entsD .u32 es) := by
   have hbl := hU.lt
   obtain ⟨xs, clock, hb, Ft, hs, hD⟩ := hU.own
   exact ⟨xs, clock, (hW.block b hbl).trans hb, Ft, hs, hD⟩
 have hsz : Maps.size (entsD .u32 es) = es.length := entsD_size _ _
 have hri := UMap.rising hU (int_keyed Tryz.underlying27)
 refine callsIn_of_wp Tryz.func63 rfl trivial ?_ rfl
 simp only [Tryz.ntmps63, List.size_toArray, List.length_cons, List.length_nil, Nat.reduceAdd, Nat.reduceSub, Array.replicate_succ, Array.replicate_zero, List.push_toArray, List.append_toArray, List.nil_append, List.cons_append]
 have HRI := Lib.hid hri
 have HSZ := Lib.hid hsz
 have HU := Lib.hid hU
 have HW := Lib.hid hW
 clear hri hsz hm hU hW
 gi_wp2_with (first
   | (gi_at_range; refine wpListIn_range_own _ rfl _ 92 rfl 27 5 (int_keyed Tryz.underlying27) Tryz.underlying92 _ b es.length _ rfl hown ?_; intro w0 hrg0 hg0 hs0)
   | gi_in)
 go_frame
 gi_loopw [3] (fun _ wr => ∃ (left : Lit → Bool) (cnt : Nat) (ss : List Nat), wr.ranges Tryz.prog 27 rawE b W.heap.size es.length (entsD .u32 es) left cnt ∧ ss.length + cnt ≤ es.length ∧ CollU .u32 es left ss ∧ J ss wr)
   (fun _ wr => wr.rangeLeft b W.heap.size)
 case atStart =>
   exact ⟨_, _, [], hrg0, by rw [HSZ.out]; simp, CollU.start _ _, hJ [] W w0 none h0 hg0 (fun r e => by cases e)⟩
 case round =>
   obtain ⟨left, cnt, ss, hrg, hcs, hC, hJs⟩ := hrel
   gi_wp2_with (first
     | (gi_at_next; refine wpListIn_next_ranges _ rfl _ rfl 27 (int_keyed Tryz.underlying27) rawE (keyV .u32) id (fun key kl hk => by obtain ⟨x, hx, _⟩ := key_nat (by simp) Tryz.underlying27 hk; exact ⟨x, hx⟩) (fun v _ _ => ⟨v, rfl⟩) b W.heap.size es.length _ _ _ rfl hrg ?_ ?_)
     | gi_in)
   · intro hc0 hl0
     gi_wp2
     go_end0
     exact ⟨⟨_, rfl⟩, .inl ⟨ss, hC.perm HRI.out hl0, hJs⟩⟩
   · intro x c kl yd yp w2 cnt2 hkey hlk hv hat hrg2 hlt hg2 hs2 hen
     obtain ⟨x', ex, rfl, _⟩ := key_nat (by simp) Tryz.underlying27 hkey
     obtain rfl : x = x' := keyV_inj ex
     have hJ2 : J ss w2 := hJ ss wr w2 (some W.heap.size) hJs hg2 (fun r e => by cases e; exact ⟨Nat.le_refl _, hrg.iter_walk⟩)
     obtain ⟨fn, tmps, assign, body, hy, hR⟩ := hY ss x w2 hJ2 (by omega)
     clear hs2
     gi_wp2
     refine hR.mono ?_
     have hC2 := hC.step hlk hat
     rintro e W3 (⟨rfl, hJ3, hk3⟩ | ⟨rfl, hJx3⟩)
     · gi_wp2
       have hrg3 := hrg2.of_walks hk3
       go_roundw
       case rel => exact ⟨_, cnt2, ss ++ [x], hrg3, by simp; omega, hC2, hJ3⟩
       case measure => rw [hrg3.left_eq, hrg.left_eq]; exact hlt
     · gi_wp2
       refine bodyPost_ret (results_none rfl _ _ _) rfl ?_
       exact ⟨⟨_, rfl⟩, .inr ⟨ss ++ [x], trivial, hJx3⟩⟩
theorem keysMd (mb : Option Nat) (w : World) : Calls Tryz.prog 37 #[.map mb] w fun e w' => e = .returned (.func (.func 63) #[] #[.pointer (some ⟨w.heap.size, 0, none⟩)]) ∧ w' = w.alloc (.cells #[.map mb] 92) := by
 go_enter Tryz.func37, Tryz.ntmps37
 go_wp2
 go_ret
 exact ⟨rfl, rfl⟩
theorem sortedKeysMd (b : Nat) (es : Ents) (w : World) (hU : UMap Tryz.prog 27 .u32 w b es) (hl : es.length < 999999) :
   Calls Tryz.prog 36 #[.func (.func 63) #[] #[.pointer (some ⟨w.heap.size, 0, none⟩)]] (w.alloc (.cells #[.map (some b)] 92)) fun e w' => ∃ v, e = .returned v ∧ SegN w w' v (es.map (·.1)) := by
 have hri := UMap.rising hU (int_keyed Tryz.underlying27)
 refine (sorted_any _ _ (enters_of Tryz.func63 (by kernel_rfl) rfl) _ _ es.length hl (fun ss h => by rw [h.length_eq, List.length_map]; exact hl) _
   (keysStopMd w.heap.size b es _ (by simp) (by rw [cell_of_row (heap_alloc_new' w _)]; rfl) (hU.keep ((Mod.refl _ w).alloc _)))).mono ?_
 rintro e w' ⟨v, ss, ts, rfl, h1, h2, h3, h4⟩
 have e1 : ts = es.map (·.1) := rising_eq (by rw [List.pairwise_map]; exact hri) (h2.trans h1) h3
 subst e1
 exact ⟨v, rfl, h4.seg, fun k hk => by have := h4.own k hk; simp at this; omega, ((Mod.refl _ w).alloc _).trans h4.mod⟩
open Go.RowKit
def twoK (k : Nat) : Bool := decide (k = 5) || decide (k = 6) || decide (k = 7)
def keyK (k : Nat) : Bool := decide (k = 3) || decide (k = 4) || decide (k = 9)
def valK (k : Nat) : Bool := decide (k = 3) || decide (k = 5) || decide (k = 9)
def kindK (k : Nat) : Bool := decide (1 ≤ k) && decide (k ≤ 9)
theorem results_tmp4 {fn : Func} {t u v x : Tmp} (h : fn.results = #[.tmp t, .tmp u, .tmp v, .tmp x]) (tmps : Array Value) (P : Program) (w : World) :
   (results fn tmps).run P w = .ok (.tuple #[tmps.getD t undef, tmps.getD u undef, tmps.getD v undef, tmps.getD x undef]) w := by
 simp [results, h]
set_option maxRecDepth 100000 in
set_option maxHeartbeats 4000000 in
theorem uses_any (k : Nat) (w : World) : Calls Tryz.prog 97 #[.int .u8 (k : Int)] w fun e w' => e = .returned (.tuple #[.bool (twoK k), .bool (keyK k), .bool (valK k), .bool (kindK k)]) ∧ w = w' := by
 by_cases h : k < 1 ∨ 9 < k
 · have HT : Hid (twoK k = false ∧ keyK k = false ∧ valK k = false ∧ kindK k = false) := Lib.hid (by
     unfold twoK keyK valK kindK
     refine ⟨?_, ?_, ?_, ?_⟩ <;> simp <;> omega)
   have k1 : ((k : Int) == 1) = false := by simp; omega
   have k2 : ((k : Int) == 2) = false := by simp; omega
   have k3 : ((k : Int) == 3) = false := by simp; omega
   have k4 : ((k : Int) == 4) = false := by simp; omega
   have k5 : ((k : Int) == 5) = false := by simp; omega
   have k6 : ((k : Int) == 6) = false := by simp; omega
   have k7 : ((k : Int) == 7) = false := by simp; omega
   have k8 : ((k : Int) == 8) = false := by simp; omega
   have k9 : ((k : Int) == 9) = false := by simp; omega
   clear h
   go_enter Tryz.func97, Tryz.ntmps97
   go_wp2
   (try simp only [Exit.inBlock, Exit.then]); refine bodyPost_ret (results_tmp4 rfl _ _ _) rfl ?_
   exact ⟨by rw [HT.out.1, HT.out.2.1, HT.out.2.2.1, HT.out.2.2.2]; rfl, rfl⟩
 · have hk : k = 1 ∨ k = 2 ∨ k = 3 ∨ k = 4 ∨ k = 5 ∨ k = 6 ∨ k = 7 ∨ k = 8 ∨ k = 9 := by omega
   clear h
   rcases hk with rfl | rfl | rfl | rfl | rfl | rfl | rfl | rfl | rfl
   all_goals
     go_enter Tryz.func97, Tryz.ntmps97
     go_wp2
     (try simp only [Exit.inBlock, Exit.then]); refine bodyPost_ret (results_tmp4 rfl _ _ _) rfl ?_
     exact ⟨rfl, rfl⟩
theorem uses_K (k : Nat) (z : Int) (hz : z = (k : Int)) (t x v o : Bool) (h : twoK k = t ∧ keyK k = x ∧ valK k = v ∧ kindK k = o) (w : World) : Calls Tryz.prog 97 #[.int .u8 z] w fun e w' => e = .returned (.tuple #[.bool t, .bool x, .bool v, .bool o]) ∧ w = w' := by
 subst hz
 have := uses_any k w
 rw [h.1, h.2.1, h.2.2.1, h.2.2.2] at this
 exact this
theorem noVal_ok : Val.ok noVal = true := by kernel_rfl
theorem number_b (a : Nat) (b : Bool) (h : numB a = b) (w : World) : Calls Tryz.prog 54 #[.int .u32 (a : Int)] w fun e w' => e = .returned (.bool b) ∧ w = w' := by
 have := number_any a w
 rw [h] at this
 exact this
theorem check_b (k : Nat) (n : Int) (s : ByteArray) (hv : Val.Fits ⟨k, n, s⟩) (b : Bool) (h : Val.ok ⟨k, n, s⟩ = b) (c : Int) (hc : codeB b = c) (w w0 : World) (m : Mod (fun _ => False) w0 w) : Calls Tryz.prog 98 #[.agg #[.int .u8 (k : Int), .int .i64 n, .string s]] w fun e w' => e = .returned (.int .i64 c) ∧ Mod (fun _ => False) w0 w' := by
 have h1 := check_any ⟨k, n, s⟩ hv w
 rw [h, hc] at h1
 exact h1.mono fun e w' ⟨he, hm⟩ => ⟨he, m.trans hm⟩
set_option maxRecDepth 100000 in
set_option maxHeartbeats 4000000 in
theorem formed_1 (a b key vk : Nat) (vn : Int) (vs : ByteArray) (w : World) (hv : Val.Fits ⟨vk, vn, vs⟩) :
   Calls Tryz.prog 80 #[.agg #[.int .u8 1, .int .u32 (a : Int), .int .u32 (b : Int), .int .u8 (key : Int), .int .u8 (vk : Int), .int .i64 vn, .string vs]] w fun e w' => e = .returned (.bool (opOK ⟨1, a, b, key, ⟨vk, vn, vs⟩⟩)) ∧ Mod (fun _ => False) w w' := by
 have HU := Lib.hid (uses_K 1 1 rfl false false false true ⟨rfl, rfl, rfl, rfl⟩)
 have HV := Lib.hid hv
 have HM : Hid (∀ o : Obj, Mod (fun _ => False) w (w.alloc o)) := Lib.hid (fun o => (Mod.refl _ _).alloc o)
 obtain ⟨r, hr⟩ : ∃ r, opOK ⟨1, a, b, key, ⟨vk, vn, vs⟩⟩ = r := ⟨_, rfl⟩
 rw [hr]
 have HR := Lib.hid hr
 clear hr hv
 cases hna : numB a with
 | false =>
   have HNA := Lib.hid (number_b a false hna)
   have HQ : Hid (false = r) := Lib.hid (by rw [← HR.out]; symm; simp [opOK, Opr.two, Opr.hasKey, Opr.hasVal, noVal_iff, hna])
   clear HR
   clear hna
   go_enter Tryz.func80, Tryz.ntmps80
   go_wp2_with (first
     | (go_at_call 97; refine (HU.out _).mono ?_; (rintro e w1 ⟨rfl, rfl⟩))
     | (go_at_call 54; refine (HNA.out _).mono ?_; (rintro e w1 ⟨rfl, rfl⟩)))
   go_ret
   exact ⟨ret_bool HQ.out, HM.out _⟩
 | true =>
   have HNA := Lib.hid (number_b a true hna)
   by_cases hk : key = 0
   rotate_left
   · have hk2 : ((key : Int) != 0) = true := by simp; omega
     have HQ : Hid (false = r) := Lib.hid (by rw [← HR.out]; symm; simp [opOK, Opr.two, Opr.hasKey, Opr.hasVal, noVal_iff, hna, hk])
     clear HR
     clear hna hk
     go_enter Tryz.func80, Tryz.ntmps80
     go_wp2_with (first
       | (go_at_call 97; refine (HU.out _).mono ?_; (rintro e w1 ⟨rfl, rfl⟩))
       | (go_at_call 54; refine (HNA.out _).mono ?_; (rintro e w1 ⟨rfl, rfl⟩)))
     go_ret
     exact ⟨ret_bool HQ.out, HM.out _⟩
   · subst hk
     by_cases hv1 : vk = 0
     rotate_left
     · have hv2 : ¬ (vk : Int) = 0 := by omega
       have HQ : Hid (false = r) := Lib.hid (by rw [← HR.out]; symm; simp [opOK, Opr.two, Opr.hasKey, Opr.hasVal, noVal_iff, hna, hv1])
       clear HR
       clear hna hv1
       go_enter Tryz.func80, Tryz.ntmps80
       go_wp2_with (first
         | (go_at_call 97; refine (HU.out _).mono ?_; (rintro e w1 ⟨rfl, rfl⟩))
         | (go_at_call 54; refine (HNA.out _).mono ?_; (rintro e w1 ⟨rfl, rfl⟩)))
       go_ret
       exact ⟨ret_bool HQ.out, HM.out _⟩
     subst hv1
     by_cases hv1 : vn = 0
     rotate_left
     · have hv2 : ¬ vn = 0 := hv1
       have HQ : Hid (false = r) := Lib.hid (by rw [← HR.out]; symm; simp [opOK, Opr.two, Opr.hasKey, Opr.hasVal, noVal_iff, hna, hv1])
       clear HR
       clear hna hv1
       go_enter Tryz.func80, Tryz.ntmps80
       go_wp2_with (first
         | (go_at_call 97; refine (HU.out _).mono ?_; (rintro e w1 ⟨rfl, rfl⟩))
         | (go_at_call 54; refine (HNA.out _).mono ?_; (rintro e w1 ⟨rfl, rfl⟩)))
       go_ret
       exact ⟨ret_bool HQ.out, HM.out _⟩
     subst hv1
     by_cases hv1 : vs.toList = []
     rotate_left
     · have HQ : Hid (false = r) := Lib.hid (by rw [← HR.out]; symm; simp [opOK, Opr.two, Opr.hasKey, Opr.hasVal, noVal_iff, hna, hv1])
       clear HR
       clear hna
       go_enter Tryz.func80, Tryz.ntmps80
       go_wp2_with (first
         | (go_at_call 97; refine (HU.out _).mono ?_; (rintro e w1 ⟨rfl, rfl⟩))
         | (go_at_call 54; refine (HNA.out _).mono ?_; (rintro e w1 ⟨rfl, rfl⟩)))
       go_ret
       exact ⟨ret_bool HQ.out, HM.out _⟩
     obtain rfl : vs = ⟨#[]⟩ := by
       have := (noVal_iff 0 0 vs).2 ⟨rfl, rfl, hv1⟩
       unfold noVal at this
       injection this
     clear hv1
     by_cases hb : b = 0
     rotate_left
     · have hb2 : ((b : Int) != 0) = true := by simp; omega
       have HQ : Hid (false = r) := Lib.hid (by rw [← HR.out]; symm; simp [opOK, Opr.two, Opr.hasKey, Opr.hasVal, noVal_iff, hna, hb])
       clear HR
       clear hna hb
       go_enter Tryz.func80, Tryz.ntmps80
       go_wp2_with (first
         | (go_at_call 97; refine (HU.out _).mono ?_; (rintro e w1 ⟨rfl, rfl⟩))
         | (go_at_call 54; refine (HNA.out _).mono ?_; (rintro e w1 ⟨rfl, rfl⟩)))
       go_ret
       exact ⟨ret_bool HQ.out, HM.out _⟩
     · subst hb
       have HCK := Lib.hid (check_b 0 0 ⟨#[]⟩ HV.out true noVal_ok 0 rfl)
       have HQ : Hid (true = r) := Lib.hid (by rw [← HR.out]; symm; simp [opOK, Opr.two, Opr.hasKey, Opr.hasVal, noVal_iff, hna, ByteArray.toList_eq])
       clear HR
       clear hna
       go_enter Tryz.func80, Tryz.ntmps80
       go_wp2_with (first
         | (go_at_call 97; refine (HU.out _).mono ?_; (rintro e w1 ⟨rfl, rfl⟩))
         | (go_at_call 54; refine (HNA.out _).mono ?_; (rintro e w1 ⟨rfl, rfl⟩))
         | (go_at_call 98; refine (HCK.out _ _ (HM.out _)).mono ?_; (rintro e w1 ⟨rfl, hm1⟩); have HM1 := Lib.hid hm1; clear hm1))
       go_ret
       exact ⟨ret_bool HQ.out, HM1.out⟩
set_option maxRecDepth 100000 in
set_option maxHeartbeats 4000000 in
theorem formed_2 (a b key vk : Nat) (vn : Int) (vs : ByteArray) (w : World) (hv : Val.Fits ⟨vk, vn, vs⟩) :
   Calls Tryz.prog 80 #[.agg #[.int .u8 2, .int .u32 (a : Int), .int .u32 (b : Int), .int .u8 (key : Int), .int .u8 (vk : Int), .int .i64 vn, .string vs]] w fun e w' => e = .returned (.bool (opOK ⟨2, a, b, key, ⟨vk, vn, vs⟩⟩)) ∧ Mod (fun _ => False) w w' := by
 have HU := Lib.hid (uses_K 2 2 rfl false false false true ⟨rfl, rfl, rfl, rfl⟩)
 have HV := Lib.hid hv
 have HM : Hid (∀ o : Obj, Mod (fun _ => False) w (w.alloc o)) := Lib.hid (fun o => (Mod.refl _ _).alloc o)
 obtain ⟨r, hr⟩ : ∃ r, opOK ⟨2, a, b, key, ⟨vk, vn, vs⟩⟩ = r := ⟨_, rfl⟩
 rw [hr]
 have HR := Lib.hid hr
 clear hr hv
 cases hna : numB a with
 | false =>
   have HNA := Lib.hid (number_b a false hna)
   have HQ : Hid (false = r) := Lib.hid (by rw [← HR.out]; symm; simp [opOK, Opr.two, Opr.hasKey, Opr.hasVal, noVal_iff, hna])
   clear HR
   clear hna
   go_enter Tryz.func80, Tryz.ntmps80
   go_wp2_with (first
     | (go_at_call 97; refine (HU.out _).mono ?_; (rintro e w1 ⟨rfl, rfl⟩))
     | (go_at_call 54; refine (HNA.out _).mono ?_; (rintro e w1 ⟨rfl, rfl⟩)))
   go_ret
   exact ⟨ret_bool HQ.out, HM.out _⟩
 | true =>
   have HNA := Lib.hid (number_b a true hna)
   by_cases hk : key = 0
   rotate_left
   · have hk2 : ((key : Int) != 0) = true := by simp; omega
     have HQ : Hid (false = r) := Lib.hid (by rw [← HR.out]; symm; simp [opOK, Opr.two, Opr.hasKey, Opr.hasVal, noVal_iff, hna, hk])
     clear HR
     clear hna hk
     go_enter Tryz.func80, Tryz.ntmps80
     go_wp2_with (first
       | (go_at_call 97; refine (HU.out _).mono ?_; (rintro e w1 ⟨rfl, rfl⟩))
       | (go_at_call 54; refine (HNA.out _).mono ?_; (rintro e w1 ⟨rfl, rfl⟩)))
     go_ret
     exact ⟨ret_bool HQ.out, HM.out _⟩
   · subst hk
     by_cases hv1 : vk = 0
     rotate_left
     · have hv2 : ¬ (vk : Int) = 0 := by omega
       have HQ : Hid (false = r) := Lib.hid (by rw [← HR.out]; symm; simp [opOK, Opr.two, Opr.hasKey, Opr.hasVal, noVal_iff, hna, hv1])
       clear HR
       clear hna hv1
       go_enter Tryz.func80, Tryz.ntmps80
       go_wp2_with (first
         | (go_at_call 97; refine (HU.out _).mono ?_; (rintro e w1 ⟨rfl, rfl⟩))
         | (go_at_call 54; refine (HNA.out _).mono ?_; (rintro e w1 ⟨rfl, rfl⟩)))
       go_ret
       exact ⟨ret_bool HQ.out, HM.out _⟩
     subst hv1
     by_cases hv1 : vn = 0
     rotate_left
     · have hv2 : ¬ vn = 0 := hv1
       have HQ : Hid (false = r) := Lib.hid (by rw [← HR.out]; symm; simp [opOK, Opr.two, Opr.hasKey, Opr.hasVal, noVal_iff, hna, hv1])
       clear HR
       clear hna hv1
       go_enter Tryz.func80, Tryz.ntmps80
       go_wp2_with (first
         | (go_at_call 97; refine (HU.out _).mono ?_; (rintro e w1 ⟨rfl, rfl⟩))
         | (go_at_call 54; refine (HNA.out _).mono ?_; (rintro e w1 ⟨rfl, rfl⟩)))
       go_ret
       exact ⟨ret_bool HQ.out, HM.out _⟩
     subst hv1
     by_cases hv1 : vs.toList = []
     rotate_left
     · have HQ : Hid (false = r) := Lib.hid (by rw [← HR.out]; symm; simp [opOK, Opr.two, Opr.hasKey, Opr.hasVal, noVal_iff, hna, hv1])
       clear HR
       clear hna
       go_enter Tryz.func80, Tryz.ntmps80
       go_wp2_with (first
         | (go_at_call 97; refine (HU.out _).mono ?_; (rintro e w1 ⟨rfl, rfl⟩))
         | (go_at_call 54; refine (HNA.out _).mono ?_; (rintro e w1 ⟨rfl, rfl⟩)))
       go_ret
       exact ⟨ret_bool HQ.out, HM.out _⟩
     obtain rfl : vs = ⟨#[]⟩ := by
       have := (noVal_iff 0 0 vs).2 ⟨rfl, rfl, hv1⟩
       unfold noVal at this
       injection this
     clear hv1
     by_cases hb : b = 0
     rotate_left
     · have hb2 : ((b : Int) != 0) = true := by simp; omega
       have HQ : Hid (false = r) := Lib.hid (by rw [← HR.out]; symm; simp [opOK, Opr.two, Opr.hasKey, Opr.hasVal, noVal_iff, hna, hb])
       clear HR
       clear hna hb
       go_enter Tryz.func80, Tryz.ntmps80
       go_wp2_with (first
         | (go_at_call 97; refine (HU.out _).mono ?_; (rintro e w1 ⟨rfl, rfl⟩))
         | (go_at_call 54; refine (HNA.out _).mono ?_; (rintro e w1 ⟨rfl, rfl⟩)))
       go_ret
       exact ⟨ret_bool HQ.out, HM.out _⟩
     · subst hb
       have HCK := Lib.hid (check_b 0 0 ⟨#[]⟩ HV.out true noVal_ok 0 rfl)
       have HQ : Hid (true = r) := Lib.hid (by rw [← HR.out]; symm; simp [opOK, Opr.two, Opr.hasKey, Opr.hasVal, noVal_iff, hna, ByteArray.toList_eq])
       clear HR
       clear hna
       go_enter Tryz.func80, Tryz.ntmps80
       go_wp2_with (first
         | (go_at_call 97; refine (HU.out _).mono ?_; (rintro e w1 ⟨rfl, rfl⟩))
         | (go_at_call 54; refine (HNA.out _).mono ?_; (rintro e w1 ⟨rfl, rfl⟩))
         | (go_at_call 98; refine (HCK.out _ _ (HM.out _)).mono ?_; (rintro e w1 ⟨rfl, hm1⟩); have HM1 := Lib.hid hm1; clear hm1))
       go_ret
       exact ⟨ret_bool HQ.out, HM1.out⟩
set_option maxRecDepth 100000 in
set_option maxHeartbeats 4000000 in
theorem formed_8 (a b key vk : Nat) (vn : Int) (vs : ByteArray) (w : World) (hv : Val.Fits ⟨vk, vn, vs⟩) :
   Calls Tryz.prog 80 #[.agg #[.int .u8 8, .int .u32 (a : Int), .int .u32 (b : Int), .int .u8 (key : Int), .int .u8 (vk : Int), .int .i64 vn, .string vs]] w fun e w' => e = .returned (.bool (opOK ⟨8, a, b, key, ⟨vk, vn, vs⟩⟩)) ∧ Mod (fun _ => False) w w' := by
 have HU := Lib.hid (uses_K 8 8 rfl false false false true ⟨rfl, rfl, rfl, rfl⟩)
 have HV := Lib.hid hv
 have HM : Hid (∀ o : Obj, Mod (fun _ => False) w (w.alloc o)) := Lib.hid (fun o => (Mod.refl _ _).alloc o)
 obtain ⟨r, hr⟩ : ∃ r, opOK ⟨8, a, b, key, ⟨vk, vn, vs⟩⟩ = r := ⟨_, rfl⟩
 rw [hr]
 have HR := Lib.hid hr
 clear hr hv
 cases hna : numB a with
 | false =>
   have HNA := Lib.hid (number_b a false hna)
   have HQ : Hid (false = r) := Lib.hid (by rw [← HR.out]; symm; simp [opOK, Opr.two, Opr.hasKey, Opr.hasVal, noVal_iff, hna])
   clear HR
   clear hna
   go_enter Tryz.func80, Tryz.ntmps80
   go_wp2_with (first
     | (go_at_call 97; refine (HU.out _).mono ?_; (rintro e w1 ⟨rfl, rfl⟩))
     | (go_at_call 54; refine (HNA.out _).mono ?_; (rintro e w1 ⟨rfl, rfl⟩)))
   go_ret
   exact ⟨ret_bool HQ.out, HM.out _⟩
 | true =>
   have HNA := Lib.hid (number_b a true hna)
   by_cases hk : key = 0
   rotate_left
   · have hk2 : ((key : Int) != 0) = true := by simp; omega
     have HQ : Hid (false = r) := Lib.hid (by rw [← HR.out]; symm; simp [opOK, Opr.two, Opr.hasKey, Opr.hasVal, noVal_iff, hna, hk])
     clear HR
     clear hna hk
     go_enter Tryz.func80, Tryz.ntmps80
     go_wp2_with (first
       | (go_at_call 97; refine (HU.out _).mono ?_; (rintro e w1 ⟨rfl, rfl⟩))
       | (go_at_call 54; refine (HNA.out _).mono ?_; (rintro e w1 ⟨rfl, rfl⟩)))
     go_ret
     exact ⟨ret_bool HQ.out, HM.out _⟩
   · subst hk
     by_cases hv1 : vk = 0
     rotate_left
     · have hv2 : ¬ (vk : Int) = 0 := by omega
       have HQ : Hid (false = r) := Lib.hid (by rw [← HR.out]; symm; simp [opOK, Opr.two, Opr.hasKey, Opr.hasVal, noVal_iff, hna, hv1])
       clear HR
       clear hna hv1
       go_enter Tryz.func80, Tryz.ntmps80
       go_wp2_with (first
         | (go_at_call 97; refine (HU.out _).mono ?_; (rintro e w1 ⟨rfl, rfl⟩))
         | (go_at_call 54; refine (HNA.out _).mono ?_; (rintro e w1 ⟨rfl, rfl⟩)))
       go_ret
       exact ⟨ret_bool HQ.out, HM.out _⟩
     subst hv1
     by_cases hv1 : vn = 0
     rotate_left
     · have hv2 : ¬ vn = 0 := hv1
       have HQ : Hid (false = r) := Lib.hid (by rw [← HR.out]; symm; simp [opOK, Opr.two, Opr.hasKey, Opr.hasVal, noVal_iff, hna, hv1])
       clear HR
       clear hna hv1
       go_enter Tryz.func80, Tryz.ntmps80
       go_wp2_with (first
         | (go_at_call 97; refine (HU.out _).mono ?_; (rintro e w1 ⟨rfl, rfl⟩))
         | (go_at_call 54; refine (HNA.out _).mono ?_; (rintro e w1 ⟨rfl, rfl⟩)))
       go_ret
       exact ⟨ret_bool HQ.out, HM.out _⟩
     subst hv1
     by_cases hv1 : vs.toList = []
     rotate_left
     · have HQ : Hid (false = r) := Lib.hid (by rw [← HR.out]; symm; simp [opOK, Opr.two, Opr.hasKey, Opr.hasVal, noVal_iff, hna, hv1])
       clear HR
       clear hna
       go_enter Tryz.func80, Tryz.ntmps80
       go_wp2_with (first
         | (go_at_call 97; refine (HU.out _).mono ?_; (rintro e w1 ⟨rfl, rfl⟩))
         | (go_at_call 54; refine (HNA.out _).mono ?_; (rintro e w1 ⟨rfl, rfl⟩)))
       go_ret
       exact ⟨ret_bool HQ.out, HM.out _⟩
     obtain rfl : vs = ⟨#[]⟩ := by
       have := (noVal_iff 0 0 vs).2 ⟨rfl, rfl, hv1⟩
       unfold noVal at this
       injection this
     clear hv1
     by_cases hb : b = 0
     rotate_left
     · have hb2 : ((b : Int) != 0) = true := by simp; omega
       have HQ : Hid (false = r) := Lib.hid (by rw [← HR.out]; symm; simp [opOK, Opr.two, Opr.hasKey, Opr.hasVal, noVal_iff, hna, hb])
       clear HR
       clear hna hb
       go_enter Tryz.func80, Tryz.ntmps80
       go_wp2_with (first
         | (go_at_call 97; refine (HU.out _).mono ?_; (rintro e w1 ⟨rfl, rfl⟩))
         | (go_at_call 54; refine (HNA.out _).mono ?_; (rintro e w1 ⟨rfl, rfl⟩)))
       go_ret
       exact ⟨ret_bool HQ.out, HM.out _⟩
     · subst hb
       have HCK := Lib.hid (check_b 0 0 ⟨#[]⟩ HV.out true noVal_ok 0 rfl)
       have HQ : Hid (true = r) := Lib.hid (by rw [← HR.out]; symm; simp [opOK, Opr.two, Opr.hasKey, Opr.hasVal, noVal_iff, hna, ByteArray.toList_eq])
       clear HR
       clear hna
       go_enter Tryz.func80, Tryz.ntmps80
       go_wp2_with (first
         | (go_at_call 97; refine (HU.out _).mono ?_; (rintro e w1 ⟨rfl, rfl⟩))
         | (go_at_call 54; refine (HNA.out _).mono ?_; (rintro e w1 ⟨rfl, rfl⟩))
         | (go_at_call 98; refine (HCK.out _ _ (HM.out _)).mono ?_; (rintro e w1 ⟨rfl, hm1⟩); have HM1 := Lib.hid hm1; clear hm1))
       go_ret
       exact ⟨ret_bool HQ.out, HM1.out⟩
end Go.Proofs.YtlpdifinkcjckaaGreatDoor
