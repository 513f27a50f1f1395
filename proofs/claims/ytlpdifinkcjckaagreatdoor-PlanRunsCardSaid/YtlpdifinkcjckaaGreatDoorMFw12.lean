import Derived.Test.YtlpdifinkcjckaaGreatDoorMFw08
set_option linter.unusedVariables false
set_option linter.unusedSimpArgs false
namespace Go.Proofs.YtlpdifinkcjckaaGreatDoor
open Go.RowKit
def twoK (k : Nat) : Bool := decide (k = 5) || decide (k = 6) || decide (k = 7)
def keyK (k : Nat) : Bool := decide (k = 3) || decide (k = 4) || decide (k = 9)
def valK (k : Nat) : Bool := decide (k = 3) || decide (k = 5) || decide (k = 9)
def kindK (k : Nat) : Bool := decide (1 ≤ k) && decide (k ≤ 9)
theorem results_tmp4 {fn : Func} {t u v x : Tmp} (h : fn.results = #[.tmp t, .tmp u, .tmp v, .tmp x]) (tmps : Array Value) (P : Program) (w : World) :
   (results fn tmps).run P w = .ok (.tuple #[tmps.getD t undef, tmps.getD u undef, tmps.getD v undef, tmps.getD x undef]) w := by
 simp [results, h]
set_option maxRecDepth 100000 in
set_option maxHeartbeats 4000000 in
theorem uses_any (k : Nat) (w : World) : Calls Tryz.prog 97 #[.int .u8 (k : Int)] w fun e w' => e = .returned (.tuple #[.bool (twoK k), .bool (keyK k), .bool (valK k), .bool (kindK k)]) ∧ w = w' := by
 by_cases h : k < 1 ∨ 9 < k
 · have HT : Hid (twoK k = false ∧ keyK k = false ∧ valK k = false ∧ kindK k = false) := Lib.hid (by
     unfold twoK keyK valK kindK
     refine ⟨?_, ?_, ?_, ?_⟩ <;> simp <;> omega)
   have k1 : ((k : Int) == 1) = false := by simp; omega
   have k2 : ((k : Int) == 2) = false := by simp; omega
   have k3 : ((k : Int) == 3) = false := by simp; omega
   have k4 : ((k : Int) == 4) = false := by simp; omega
   have k5 : ((k : Int) == 5) = false := by simp; omega
   have k6 : ((k : Int) == 6) = false := by simp; omega
   have k7 : ((k : Int) == 7) = false := by simp; omega
   have k8 : ((k : Int) == 8) = false := by simp; omega
   have k9 : ((k : Int) == 9) = false := by simp; omega
   clear h
   go_enter Tryz.func97, Tryz.ntmps97
   go_wp2
   (try simp only [Exit.inBlock, Exit.then]); refine bodyPost_ret (results_tmp4 rfl _ _ _) rfl ?_
   exact ⟨by rw [HT.out.1, HT.out.2.1, HT.out.2.2.1, HT.out.2.2.2]; rfl, rfl⟩
 · have hk : k = 1 ∨ k = 2 ∨ k = 3 ∨ k = 4 ∨ k = 5 ∨ k = 6 ∨ k = 7 ∨ k = 8 ∨ k = 9 := by omega
   clear h
   rcases hk with rfl | rfl | rfl | rfl | rfl | rfl | rfl | rfl | rfl
   all_goals
     go_enter Tryz.func97, Tryz.ntmps97
     go_wp2
     (try simp only [Exit.inBlock, Exit.then]); refine bodyPost_ret (results_tmp4 rfl _ _ _) rfl ?_
     exact ⟨rfl, rfl⟩
theorem uses_K (k : Nat) (z : Int) (hz : z = (k : Int)) (t x v o : Bool) (h : twoK k = t ∧ keyK k = x ∧ valK k = v ∧ kindK k = o) (w : World) : Calls Tryz.prog 97 #[.int .u8 z] w fun e w' => e = .returned (.tuple #[.bool t, .bool x, .bool v, .bool o]) ∧ w = w' := by
 subst hz
 have := uses_any k w
 rw [h.1, h.2.1, h.2.2.1, h.2.2.2] at this
 exact this
theorem noVal_ok : Val.ok noVal = true := by kernel_rfl
theorem number_b (a : Nat) (b : Bool) (h : numB a = b) (w : World) : Calls Tryz.prog 54 #[.int .u32 (a : Int)] w fun e w' => e = .returned (.bool b) ∧ w = w' := by
 have := number_any a w
 rw [h] at this
 exact this
theorem check_b (k : Nat) (n : Int) (s : ByteArray) (hv : Val.Fits ⟨k, n, s⟩) (b : Bool) (h : Val.ok ⟨k, n, s⟩ = b) (c : Int) (hc : codeB b = c) (w w0 : World) (m : Mod (fun _ => False) w0 w) : Calls Tryz.prog 98 #[.agg #[.int .u8 (k : Int), .int .i64 n, .string s]] w fun e w' => e = .returned (.int .i64 c) ∧ Mod (fun _ => False) w0 w' := by
 have h1 := check_any ⟨k, n, s⟩ hv w
 rw [h, hc] at h1
 exact h1.mono fun e w' ⟨he, hm⟩ => ⟨he, m.trans hm⟩
set_option maxRecDepth 100000 in
set_option maxHeartbeats 4000000 in
theorem formed_1 (a b key vk : Nat) (vn : Int) (vs : ByteArray) (w : World) (hv : Val.Fits ⟨vk, vn, vs⟩) :
   Calls Tryz.prog 80 #[.agg #[.int .u8 1, .int .u32 (a : Int), .int .u32 (b : Int), .int .u8 (key : Int), .int .u8 (vk : Int), .int .i64 vn, .string vs]] w fun e w' => e = .returned (.bool (opOK ⟨1, a, b, key, ⟨vk, vn, vs⟩⟩)) ∧ Mod (fun _ => False) w w' := by
 have HU := Lib.hid (uses_K 1 1 rfl false false false true ⟨rfl, rfl, rfl, rfl⟩)
 have HV := Lib.hid hv
 have HM : Hid (∀ o : Obj, Mod (fun _ => False) w (w.alloc o)) := Lib.hid (fun o => (Mod.refl _ _).alloc o)
 obtain ⟨r, hr⟩ : ∃ r, opOK ⟨1, a, b, key, ⟨vk, vn, vs⟩⟩ = r := ⟨_, rfl⟩
 rw [hr]
 have HR := Lib.hid hr
 clear hr hv
 cases hna : numB a with
 | false =>
   have HNA := Lib.hid (number_b a false hna)
   have HQ : Hid (false = r) := Lib.hid (by rw [← HR.out]; symm; simp [opOK, Opr.two, Opr.hasKey, Opr.hasVal, noVal_iff, hna])
   clear HR
   clear hna
   go_enter Tryz.func80, Tryz.ntmps80
   go_wp2_with (first
     | (go_at_call 97; refine (HU.out _).mono ?_; (rintro e w1 ⟨rfl, rfl⟩))
     | (go_at_call 54; refine (HNA.out _).mono ?_; (rintro e w1 ⟨rfl, rfl⟩)))
   go_ret
   exact ⟨ret_bool HQ.out, HM.out _⟩
 | true =>
   have HNA := Lib.hid (number_b a true hna)
   by_cases hk : key = 0
   rotate_left
   · have hk2 : ((key : Int) != 0) = true := by simp; omega
     have HQ : Hid (false = r) := Lib.hid (by rw [← HR.out]; symm; simp [opOK, Opr.two, Opr.hasKey, Opr.hasVal, noVal_iff, hna, hk])
     clear HR
     clear hna hk
     go_enter Tryz.func80, Tryz.ntmps80
     go_wp2_with (first
       | (go_at_call 97; refine (HU.out _).mono ?_; (rintro e w1 ⟨rfl, rfl⟩))
       | (go_at_call 54; refine (HNA.out _).mono ?_; (rintro e w1 ⟨rfl, rfl⟩)))
     go_ret
     exact ⟨ret_bool HQ.out, HM.out _⟩
   · subst hk
     by_cases hv1 : vk = 0
     rotate_left
     · have hv2 : ¬ (vk : Int) = 0 := by omega
       have HQ : Hid (false = r) := Lib.hid (by rw [← HR.out]; symm; simp [opOK, Opr.two, Opr.hasKey, Opr.hasVal, noVal_iff, hna, hv1])
       clear HR
       clear hna hv1
       go_enter Tryz.func80, Tryz.ntmps80
       go_wp2_with (first
         | (go_at_call 97; refine (HU.out _).mono ?_; (rintro e w1 ⟨rfl, rfl⟩))
         | (go_at_call 54; refine (HNA.out _).mono ?_; (rintro e w1 ⟨rfl, rfl⟩)))
       go_ret
       exact ⟨ret_bool HQ.out, HM.out _⟩
     subst hv1
     by_cases hv1 : vn = 0
     rotate_left
     · have hv2 : ¬ vn = 0 := hv1
       have HQ : Hid (false = r) := Lib.hid (by rw [← HR.out]; symm; simp [opOK, Opr.two, Opr.hasKey, Opr.hasVal, noVal_iff, hna, hv1])
       clear HR
       clear hna hv1
       go_enter Tryz.func80, Tryz.ntmps80
       go_wp2_with (first
         | (go_at_call 97; refine (HU.out _).mono ?_; (rintro e w1 ⟨rfl, rfl⟩))
         | (go_at_call 54; refine (HNA.out _).mono ?_; (rintro e w1 ⟨rfl, rfl⟩)))
       go_ret
       exact ⟨ret_bool HQ.out, HM.out _⟩
     subst hv1
     by_cases hv1 : vs.toList = []
     rotate_left
     · have HQ : Hid (false = r) := Lib.hid (by rw [← HR.out]; symm; simp [opOK, Opr.two, Opr.hasKey, Opr.hasVal, noVal_iff, hna, hv1])
       clear HR
       clear hna
       go_enter Tryz.func80, Tryz.ntmps80
       go_wp2_with (first
         | (go_at_call 97; refine (HU.out _).mono ?_; (rintro e w1 ⟨rfl, rfl⟩))
         | (go_at_call 54; refine (HNA.out _).mono ?_; (rintro e w1 ⟨rfl, rfl⟩)))
       go_ret
       exact ⟨ret_bool HQ.out, HM.out _⟩
     obtain rfl : vs = ⟨#[]⟩ := by
       have := (noVal_iff 0 0 vs).2 ⟨rfl, rfl, hv1⟩
       unfold noVal at this
       injection this
     clear hv1
     by_cases hb : b = 0
     rotate_left
     · have hb2 : ((b : Int) != 0) = true := by simp; omega
       have HQ : Hid (false = r) := Lib.hid (by rw [← HR.out]; symm; simp [opOK, Opr.two, Opr.hasKey, Opr.hasVal, noVal_iff, hna, hb])
       clear HR
       clear hna hb
       go_enter Tryz.func80, Tryz.ntmps80
       go_wp2_with (first
         | (go_at_call 97; refine (HU.out _).mono ?_; (rintro e w1 ⟨rfl, rfl⟩))
         | (go_at_call 54; refine (HNA.out _).mono ?_; (rintro e w1 ⟨rfl, rfl⟩)))
       go_ret
       exact ⟨ret_bool HQ.out, HM.out _⟩
     · subst hb
       have HCK := Lib.hid (check_b 0 0 ⟨#[]⟩ HV.out true noVal_ok 0 rfl)
       have HQ : Hid (true = r) := Lib.hid (by rw [← HR.out]; symm; simp [opOK, Opr.two, Opr.hasKey, Opr.hasVal, noVal_iff, hna, ByteArray.toList_eq])
       clear HR
       clear hna
       go_enter Tryz.func80, Tryz.ntmps80
       go_wp2_with (first
         | (go_at_call 97; refine (HU.out _).mono ?_; (rintro e w1 ⟨rfl, rfl⟩))
         | (go_at_call 54; refine (HNA.out _).mono ?_; (rintro e w1 ⟨rfl, rfl⟩))
         | (go_at_call 98; refine (HCK.out _ _ (HM.out _)).mono ?_; (rintro e w1 ⟨rfl, hm1⟩); have HM1 := Lib.hid hm1; clear hm1))
       go_ret
       exact ⟨ret_bool HQ.out, HM1.out⟩
set_option maxRecDepth 100000 in
set_option maxHeartbeats 4000000 in
theorem formed_2 (a b key vk : Nat) (vn : Int) (vs : ByteArray) (w : World) (hv : Val.Fits ⟨vk, vn, vs⟩) :
   Calls Tryz.prog 80 #[.agg #[.int .u8 2, .int .u32 (a : Int), .int .u32 (b : Int), .int .u8 (key : Int), .int .u8 (vk : Int), .int .i64 vn, .string vs]] w fun e w' => e = .returned (.bool (opOK ⟨2, a, b, key, ⟨vk, vn, vs⟩⟩)) ∧ Mod (fun _ => False) w w' := by
 have HU := Lib.hid (uses_K 2 2 rfl false false false true ⟨rfl, rfl, rfl, rfl⟩)
 have HV := Lib.hid hv
 have HM : Hid (∀ o : Obj, Mod (fun _ => False) w (w.alloc o)) := Lib.hid (fun o => (Mod.refl _ _).alloc o)
 obtain ⟨r, hr⟩ : ∃ r, opOK ⟨2, a, b, key, ⟨vk, vn, vs⟩⟩ = r := ⟨_, rfl⟩
 rw [hr]
 have HR := Lib.hid hr
 clear hr hv
 cases hna : numB a with
 | false =>
   have HNA := Lib.hid (number_b a false hna)
   have HQ : Hid (false = r) := Lib.hid (by rw [← HR.out]; symm; simp [opOK, Opr.two, Opr.hasKey, Opr.hasVal, noVal_iff, hna])
   clear HR
   clear hna
   go_enter Tryz.func80, Tryz.ntmps80
   go_wp2_with (first
     | (go_at_call 97; refine (HU.out _).mono ?_; (rintro e w1 ⟨rfl, rfl⟩))
     | (go_at_call 54; refine (HNA.out _).mono ?_; (rintro e w1 ⟨rfl, rfl⟩)))
   go_ret
   exact ⟨ret_bool HQ.out, HM.out _⟩
 | true =>
   have HNA := Lib.hid (number_b a true hna)
   by_cases hk : key = 0
   rotate_left
   · have hk2 : ((key : Int) != 0) = true := by simp; omega
     have HQ : Hid (false = r) := Lib.hid (by rw [← HR.out]; symm; simp [opOK, Opr.two, Opr.hasKey, Opr.hasVal, noVal_iff, hna, hk])
     clear HR
     clear hna hk
     go_enter Tryz.func80, Tryz.ntmps80
     go_wp2_with (first
       | (go_at_call 97; refine (HU.out _).mono ?_; (rintro e w1 ⟨rfl, rfl⟩))
       | (go_at_call 54; refine (HNA.out _).mono ?_; (rintro e w1 ⟨rfl, rfl⟩)))
     go_ret
     exact ⟨ret_bool HQ.out, HM.out _⟩
   · subst hk
     by_cases hv1 : vk = 0
     rotate_left
     · have hv2 : ¬ (vk : Int) = 0 := by omega
       have HQ : Hid (false = r) := Lib.hid (by rw [← HR.out]; symm; simp [opOK, Opr.two, Opr.hasKey, Opr.hasVal, noVal_iff, hna, hv1])
       clear HR
       clear hna hv1
       go_enter Tryz.func80, Tryz.ntmps80
       go_wp2_with (first
         | (go_at_call 97; refine (HU.out _).mono ?_; (rintro e w1 ⟨rfl, rfl⟩))
         | (go_at_call 54; refine (HNA.out _).mono ?_; (rintro e w1 ⟨rfl, rfl⟩)))
       go_ret
       exact ⟨ret_bool HQ.out, HM.out _⟩
     subst hv1
     by_cases hv1 : vn = 0
     rotate_left
     · have hv2 : ¬ vn = 0 := hv1
       have HQ : Hid (false = r) := Lib.hid (by rw [← HR.out]; symm; simp [opOK, Opr.two, Opr.hasKey, Opr.hasVal, noVal_iff, hna, hv1])
       clear HR
       clear hna hv1
       go_enter Tryz.func80, Tryz.ntmps80
       go_wp2_with (first
         | (go_at_call 97; refine (HU.out _).mono ?_; (rintro e w1 ⟨rfl, rfl⟩))
         | (go_at_call 54; refine (HNA.out _).mono ?_; (rintro e w1 ⟨rfl, rfl⟩)))
       go_ret
       exact ⟨ret_bool HQ.out, HM.out _⟩
     subst hv1
     by_cases hv1 : vs.toList = []
     rotate_left
     · have HQ : Hid (false = r) := Lib.hid (by rw [← HR.out]; symm; simp [opOK, Opr.two, Opr.hasKey, Opr.hasVal, noVal_iff, hna, hv1])
       clear HR
       clear hna
       go_enter Tryz.func80, Tryz.ntmps80
       go_wp2_with (first
         | (go_at_call 97; refine (HU.out _).mono ?_; (rintro e w1 ⟨rfl, rfl⟩))
         | (go_at_call 54; refine (HNA.out _).mono ?_; (rintro e w1 ⟨rfl, rfl⟩)))
       go_ret
       exact ⟨ret_bool HQ.out, HM.out _⟩
     obtain rfl : vs = ⟨#[]⟩ := by
       have := (noVal_iff 0 0 vs).2 ⟨rfl, rfl, hv1⟩
       unfold noVal at this
       injection this
     clear hv1
     by_cases hb : b = 0
     rotate_left
     · have hb2 : ((b : Int) != 0) = true := by simp; omega
       have HQ : Hid (false = r) := Lib.hid (by rw [← HR.out]; symm; simp [opOK, Opr.two, Opr.hasKey, Opr.hasVal, noVal_iff, hna, hb])
       clear HR
       clear hna hb
       go_enter Tryz.func80, Tryz.ntmps80
       go_wp2_with (first
         | (go_at_call 97; refine (HU.out _).mono ?_; (rintro e w1 ⟨rfl, rfl⟩))
         | (go_at_call 54; refine (HNA.out _).mono ?_; (rintro e w1 ⟨rfl, rfl⟩)))
       go_ret
       exact ⟨ret_bool HQ.out, HM.out _⟩
     · subst hb
       have HCK := Lib.hid (check_b 0 0 ⟨#[]⟩ HV.out true noVal_ok 0 rfl)
       have HQ : Hid (true = r) := Lib.hid (by rw [← HR.out]; symm; simp [opOK, Opr.two, Opr.hasKey, Opr.hasVal, noVal_iff, hna, ByteArray.toList_eq])
       clear HR
       clear hna
       go_enter Tryz.func80, Tryz.ntmps80
       go_wp2_with (first
         | (go_at_call 97; refine (HU.out _).mono ?_; (rintro e w1 ⟨rfl, rfl⟩))
         | (go_at_call 54; refine (HNA.out _).mono ?_; (rintro e w1 ⟨rfl, rfl⟩))
         | (go_at_call 98; refine (HCK.out _ _ (HM.out _)).mono ?_; (rintro e w1 ⟨rfl, hm1⟩); have HM1 := Lib.hid hm1; clear hm1))
       go_ret
       exact ⟨ret_bool HQ.out, HM1.out⟩
set_option maxRecDepth 100000 in
set_option maxHeartbeats 4000000 in
theorem formed_8 (a b key vk : Nat) (vn : Int) (vs : ByteArray) (w : World) (hv : Val.Fits ⟨vk, vn, vs⟩) :
   Calls Tryz.prog 80 #[.agg #[.int .u8 8, .int .u32 (a : Int), .int .u32 (b : Int), .int .u8 (key : Int), .int .u8 (vk : Int), .int .i64 vn, .string vs]] w fun e w' => e = .returned (.bool (opOK ⟨8, a, b, key, ⟨vk, vn, vs⟩⟩)) ∧ Mod (fun _ => False) w w' := by
 have HU := Lib.hid (uses_K 8 8 rfl false false false true ⟨rfl, rfl, rfl, rfl⟩)
 have HV := Lib.hid hv
 have HM : Hid (∀ o : Obj, Mod (fun _ => False) w (w.alloc o)) := Lib.hid (fun o => (Mod.refl _ _).alloc o)
 obtain ⟨r, hr⟩ : ∃ r, opOK ⟨8, a, b, key, ⟨vk, vn, vs⟩⟩ = r := ⟨_, rfl⟩
 rw [hr]
 have HR := Lib.hid hr
 clear hr hv
 cases hna : numB a with
 | false =>
   have HNA := Lib.hid (number_b a false hna)
   have HQ : Hid (false = r) := Lib.hid (by rw [← HR.out]; symm; simp [opOK, Opr.two, Opr.hasKey, Opr.hasVal, noVal_iff, hna])
   clear HR
   clear hna
   go_enter Tryz.func80, Tryz.ntmps80
   go_wp2_with (first
     | (go_at_call 97; refine (HU.out _).mono ?_; (rintro e w1 ⟨rfl, rfl⟩))
     | (go_at_call 54; refine (HNA.out _).mono ?_; (rintro e w1 ⟨rfl, rfl⟩)))
   go_ret
   exact ⟨ret_bool HQ.out, HM.out _⟩
 | true =>
   have HNA := Lib.hid (number_b a true hna)
   by_cases hk : key = 0
   rotate_left
   · have hk2 : ((key : Int) != 0) = true := by simp; omega
     have HQ : Hid (false = r) := Lib.hid (by rw [← HR.out]; symm; simp [opOK, Opr.two, Opr.hasKey, Opr.hasVal, noVal_iff, hna, hk])
     clear HR
     clear hna hk
     go_enter Tryz.func80, Tryz.ntmps80
     go_wp2_with (first
       | (go_at_call 97; refine (HU.out _).mono ?_; (rintro e w1 ⟨rfl, rfl⟩))
       | (go_at_call 54; refine (HNA.out _).mono ?_; (rintro e w1 ⟨rfl, rfl⟩)))
     go_ret
     exact ⟨ret_bool HQ.out, HM.out _⟩
   · subst hk
     by_cases hv1 : vk = 0
     rotate_left
     · have hv2 : ¬ (vk : Int) = 0 := by omega
       have HQ : Hid (false = r) := Lib.hid (by rw [← HR.out]; symm; simp [opOK, Opr.two, Opr.hasKey, Opr.hasVal, noVal_iff, hna, hv1])
       clear HR
       clear hna hv1
       go_enter Tryz.func80, Tryz.ntmps80
       go_wp2_with (first
         | (go_at_call 97; refine (HU.out _).mono ?_; (rintro e w1 ⟨rfl, rfl⟩))
         | (go_at_call 54; refine (HNA.out _).mono ?_; (rintro e w1 ⟨rfl, rfl⟩)))
       go_ret
       exact ⟨ret_bool HQ.out, HM.out _⟩
     subst hv1
     by_cases hv1 : vn = 0
     rotate_left
     · have hv2 : ¬ vn = 0 := hv1
       have HQ : Hid (false = r) := Lib.hid (by rw [← HR.out]; symm; simp [opOK, Opr.two, Opr.hasKey, Opr.hasVal, noVal_iff, hna, hv1])
       clear HR
       clear hna hv1
       go_enter Tryz.func80, Tryz.ntmps80
       go_wp2_with (first
         | (go_at_call 97; refine (HU.out _).mono ?_; (rintro e w1 ⟨rfl, rfl⟩))
         | (go_at_call 54; refine (HNA.out _).mono ?_; (rintro e w1 ⟨rfl, rfl⟩)))
       go_ret
       exact ⟨ret_bool HQ.out, HM.out _⟩
     subst hv1
     by_cases hv1 : vs.toList = []
     rotate_left
     · have HQ : Hid (false = r) := Lib.hid (by rw [← HR.out]; symm; simp [opOK, Opr.two, Opr.hasKey, Opr.hasVal, noVal_iff, hna, hv1])
       clear HR
       clear hna
       go_enter Tryz.func80, Tryz.ntmps80
       go_wp2_with (first
         | (go_at_call 97; refine (HU.out _).mono ?_; (rintro e w1 ⟨rfl, rfl⟩))
         | (go_at_call 54; refine (HNA.out _).mono ?_; (rintro e w1 ⟨rfl, rfl⟩)))
       go_ret
       exact ⟨ret_bool HQ.out, HM.out _⟩
     obtain rfl : vs = ⟨#[]⟩ := by
       have := (noVal_iff 0 0 vs).2 ⟨rfl, rfl, hv1⟩
       unfold noVal at this
       injection this
     clear hv1
     by_cases hb : b = 0
     rotate_left
     · have hb2 : ((b : Int) != 0) = true := by simp; omega
       have HQ : Hid (false = r) := Lib.hid (by rw [← HR.out]; symm; simp [opOK, Opr.two, Opr.hasKey, Opr.hasVal, noVal_iff, hna, hb])
       clear HR
       clear hna hb
       go_enter Tryz.func80, Tryz.ntmps80
       go_wp2_with (first
         | (go_at_call 97; refine (HU.out _).mono ?_; (rintro e w1 ⟨rfl, rfl⟩))
         | (go_at_call 54; refine (HNA.out _).mono ?_; (rintro e w1 ⟨rfl, rfl⟩)))
       go_ret
       exact ⟨ret_bool HQ.out, HM.out _⟩
     · subst hb
       have HCK := Lib.hid (check_b 0 0 ⟨#[]⟩ HV.out true noVal_ok 0 rfl)
       have HQ : Hid (true = r) := Lib.hid (by rw [← HR.out]; symm; simp [opOK, Opr.two, Opr.hasKey, Opr.hasVal, noVal_iff, hna, ByteArray.toList_eq])
       clear HR
       clear hna
       go_enter Tryz.func80, Tryz.ntmps80
       go_wp2_with (first
         | (go_at_call 97; refine (HU.out _).mono ?_; (rintro e w1 ⟨rfl, rfl⟩))
         | (go_at_call 54; refine (HNA.out _).mono ?_; (rintro e w1 ⟨rfl, rfl⟩))
         | (go_at_call 98; refine (HCK.out _ _ (HM.out _)).mono ?_; (rintro e w1 ⟨rfl, hm1⟩); have HM1 := Lib.hid hm1; clear hm1))
       go_ret
       exact ⟨ret_bool HQ.out, HM1.out⟩
open Go.RowKit
set_option maxRecDepth 100000 in
set_option maxHeartbeats 4000000 in
theorem formed_3 (a b key vk : Nat) (vn : Int) (vs : ByteArray) (w : World) (hv : Val.Fits ⟨vk, vn, vs⟩) :
   Calls Tryz.prog 80 #[.agg #[.int .u8 3, .int .u32 (a : Int), .int .u32 (b : Int), .int .u8 (key : Int), .int .u8 (vk : Int), .int .i64 vn, .string vs]] w fun e w' => e = .returned (.bool (opOK ⟨3, a, b, key, ⟨vk, vn, vs⟩⟩)) ∧ Mod (fun _ => False) w w' := by
 have HU := Lib.hid (uses_K 3 3 rfl false true true true ⟨rfl, rfl, rfl, rfl⟩)
 have HV := Lib.hid hv
 have HM : Hid (∀ o : Obj, Mod (fun _ => False) w (w.alloc o)) := Lib.hid (fun o => (Mod.refl _ _).alloc o)
 obtain ⟨r, hr⟩ : ∃ r, opOK ⟨3, a, b, key, ⟨vk, vn, vs⟩⟩ = r := ⟨_, rfl⟩
 rw [hr]
 have HR := Lib.hid hr
 clear hr hv
 cases hna : numB a with
 | false =>
   have HNA := Lib.hid (number_b a false hna)
   have HQ : Hid (false = r) := Lib.hid (by rw [← HR.out]; symm; simp [opOK, Opr.two, Opr.hasKey, Opr.hasVal, noVal_iff, hna])
   clear HR
   clear hna
   go_enter Tryz.func80, Tryz.ntmps80
   go_wp2_with (first
     | (go_at_call 97; refine (HU.out _).mono ?_; (rintro e w1 ⟨rfl, rfl⟩))
     | (go_at_call 54; refine (HNA.out _).mono ?_; (rintro e w1 ⟨rfl, rfl⟩)))
   go_ret
   exact ⟨ret_bool HQ.out, HM.out _⟩
 | true =>
   have HNA := Lib.hid (number_b a true hna)
   by_cases hk : 3 < key
   · have hk2 : (3 : Int) < (key : Int) := by omega
     have HQ : Hid (false = r) := Lib.hid (by rw [← HR.out]; symm; (have hk9 : ¬ key ≤ 3 := (by omega)); simp [opOK, Opr.two, Opr.hasKey, Opr.hasVal, noVal_iff, hna, hk9])
     clear HR
     clear hna hk
     go_enter Tryz.func80, Tryz.ntmps80
     go_wp2_with (first
       | (go_at_call 97; refine (HU.out _).mono ?_; (rintro e w1 ⟨rfl, rfl⟩))
       | (go_at_call 54; refine (HNA.out _).mono ?_; (rintro e w1 ⟨rfl, rfl⟩)))
     go_ret
     exact ⟨ret_bool HQ.out, HM.out _⟩
   · have hk2 : ¬ (3 : Int) < (key : Int) := by omega
     have hk3 : key ≤ 3 := by omega
     by_cases hb : b = 0
     rotate_left
     · have hb2 : ((b : Int) != 0) = true := by simp; omega
       have HQ : Hid (false = r) := Lib.hid (by rw [← HR.out]; symm; simp [opOK, Opr.two, Opr.hasKey, Opr.hasVal, noVal_iff, hna, hb])
       clear HR
       clear hna hb
       go_enter Tryz.func80, Tryz.ntmps80
       go_wp2_with (first
         | (go_at_call 97; refine (HU.out _).mono ?_; (rintro e w1 ⟨rfl, rfl⟩))
         | (go_at_call 54; refine (HNA.out _).mono ?_; (rintro e w1 ⟨rfl, rfl⟩)))
       go_ret
       exact ⟨ret_bool HQ.out, HM.out _⟩
     · subst hb
       cases hok : Val.ok ⟨vk, vn, vs⟩ with
       | false =>
         have HCK := Lib.hid (check_b vk vn vs HV.out false hok 3 rfl)
         have HQ : Hid (false = r) := Lib.hid (by rw [← HR.out]; symm; simp [opOK, Opr.two, Opr.hasKey, Opr.hasVal, noVal_iff, hna, hk3, hok])
         clear HR
         clear hna hk hok
         go_enter Tryz.func80, Tryz.ntmps80
         go_wp2_with (first
           | (go_at_call 97; refine (HU.out _).mono ?_; (rintro e w1 ⟨rfl, rfl⟩))
           | (go_at_call 54; refine (HNA.out _).mono ?_; (rintro e w1 ⟨rfl, rfl⟩))
           | (go_at_call 98; refine (HCK.out _ _ (HM.out _)).mono ?_; (rintro e w1 ⟨rfl, hm1⟩); have HM1 := Lib.hid hm1; clear hm1))
         go_ret
         exact ⟨ret_bool HQ.out, HM1.out⟩
       | true =>
         have HCK := Lib.hid (check_b vk vn vs HV.out true hok 0 rfl)
         have HQ : Hid (true = r) := Lib.hid (by rw [← HR.out]; symm; simp [opOK, Opr.two, Opr.hasKey, Opr.hasVal, noVal_iff, hna, hk3, hok])
         clear HR
         clear hna hk hok
         go_enter Tryz.func80, Tryz.ntmps80
         go_wp2_with (first
           | (go_at_call 97; refine (HU.out _).mono ?_; (rintro e w1 ⟨rfl, rfl⟩))
           | (go_at_call 54; refine (HNA.out _).mono ?_; (rintro e w1 ⟨rfl, rfl⟩))
           | (go_at_call 98; refine (HCK.out _ _ (HM.out _)).mono ?_; (rintro e w1 ⟨rfl, hm1⟩); have HM1 := Lib.hid hm1; clear hm1))
         go_ret
         exact ⟨ret_bool HQ.out, HM1.out⟩
set_option maxRecDepth 100000 in
set_option maxHeartbeats 4000000 in
theorem formed_4 (a b key vk : Nat) (vn : Int) (vs : ByteArray) (w : World) (hv : Val.Fits ⟨vk, vn, vs⟩) :
   Calls Tryz.prog 80 #[.agg #[.int .u8 4, .int .u32 (a : Int), .int .u32 (b : Int), .int .u8 (key : Int), .int .u8 (vk : Int), .int .i64 vn, .string vs]] w fun e w' => e = .returned (.bool (opOK ⟨4, a, b, key, ⟨vk, vn, vs⟩⟩)) ∧ Mod (fun _ => False) w w' := by
 have HU := Lib.hid (uses_K 4 4 rfl false true false true ⟨rfl, rfl, rfl, rfl⟩)
 have HV := Lib.hid hv
 have HM : Hid (∀ o : Obj, Mod (fun _ => False) w (w.alloc o)) := Lib.hid (fun o => (Mod.refl _ _).alloc o)
 obtain ⟨r, hr⟩ : ∃ r, opOK ⟨4, a, b, key, ⟨vk, vn, vs⟩⟩ = r := ⟨_, rfl⟩
 rw [hr]
 have HR := Lib.hid hr
 clear hr hv
 cases hna : numB a with
 | false =>
   have HNA := Lib.hid (number_b a false hna)
   have HQ : Hid (false = r) := Lib.hid (by rw [← HR.out]; symm; simp [opOK, Opr.two, Opr.hasKey, Opr.hasVal, noVal_iff, hna])
   clear HR
   clear hna
   go_enter Tryz.func80, Tryz.ntmps80
   go_wp2_with (first
     | (go_at_call 97; refine (HU.out _).mono ?_; (rintro e w1 ⟨rfl, rfl⟩))
     | (go_at_call 54; refine (HNA.out _).mono ?_; (rintro e w1 ⟨rfl, rfl⟩)))
   go_ret
   exact ⟨ret_bool HQ.out, HM.out _⟩
 | true =>
   have HNA := Lib.hid (number_b a true hna)
   by_cases hk : 3 < key
   · have hk2 : (3 : Int) < (key : Int) := by omega
     have HQ : Hid (false = r) := Lib.hid (by rw [← HR.out]; symm; (have hk9 : ¬ key ≤ 3 := (by omega)); simp [opOK, Opr.two, Opr.hasKey, Opr.hasVal, noVal_iff, hna, hk9])
     clear HR
     clear hna hk
     go_enter Tryz.func80, Tryz.ntmps80
     go_wp2_with (first
       | (go_at_call 97; refine (HU.out _).mono ?_; (rintro e w1 ⟨rfl, rfl⟩))
       | (go_at_call 54; refine (HNA.out _).mono ?_; (rintro e w1 ⟨rfl, rfl⟩)))
     go_ret
     exact ⟨ret_bool HQ.out, HM.out _⟩
   · have hk2 : ¬ (3 : Int) < (key : Int) := by omega
     have hk3 : key ≤ 3 := by omega
     by_cases hv1 : vk = 0
     rotate_left
     · have hv2 : ¬ (vk : Int) = 0 := by omega
       have HQ : Hid (false = r) := Lib.hid (by rw [← HR.out]; symm; simp [opOK, Opr.two, Opr.hasKey, Opr.hasVal, noVal_iff, hna, hv1])
       clear HR
       clear hna hv1
       go_enter Tryz.func80, Tryz.ntmps80
       go_wp2_with (first
         | (go_at_call 97; refine (HU.out _).mono ?_; (rintro e w1 ⟨rfl, rfl⟩))
         | (go_at_call 54; refine (HNA.out _).mono ?_; (rintro e w1 ⟨rfl, rfl⟩)))
       go_ret
       exact ⟨ret_bool HQ.out, HM.out _⟩
     subst hv1
     by_cases hv1 : vn = 0
     rotate_left
     · have hv2 : ¬ vn = 0 := hv1
       have HQ : Hid (false = r) := Lib.hid (by rw [← HR.out]; symm; simp [opOK, Opr.two, Opr.hasKey, Opr.hasVal, noVal_iff, hna, hv1])
       clear HR
       clear hna hv1
       go_enter Tryz.func80, Tryz.ntmps80
       go_wp2_with (first
         | (go_at_call 97; refine (HU.out _).mono ?_; (rintro e w1 ⟨rfl, rfl⟩))
         | (go_at_call 54; refine (HNA.out _).mono ?_; (rintro e w1 ⟨rfl, rfl⟩)))
       go_ret
       exact ⟨ret_bool HQ.out, HM.out _⟩
     subst hv1
     by_cases hv1 : vs.toList = []
     rotate_left
     · have HQ : Hid (false = r) := Lib.hid (by rw [← HR.out]; symm; simp [opOK, Opr.two, Opr.hasKey, Opr.hasVal, noVal_iff, hna, hv1])
       clear HR
       clear hna
       go_enter Tryz.func80, Tryz.ntmps80
       go_wp2_with (first
         | (go_at_call 97; refine (HU.out _).mono ?_; (rintro e w1 ⟨rfl, rfl⟩))
         | (go_at_call 54; refine (HNA.out _).mono ?_; (rintro e w1 ⟨rfl, rfl⟩)))
       go_ret
       exact ⟨ret_bool HQ.out, HM.out _⟩
     obtain rfl : vs = ⟨#[]⟩ := by
       have := (noVal_iff 0 0 vs).2 ⟨rfl, rfl, hv1⟩
       unfold noVal at this
       injection this
     clear hv1
     by_cases hb : b = 0
     rotate_left
     · have hb2 : ((b : Int) != 0) = true := by simp; omega
       have HQ : Hid (false = r) := Lib.hid (by rw [← HR.out]; symm; simp [opOK, Opr.two, Opr.hasKey, Opr.hasVal, noVal_iff, hna, hb])
       clear HR
       clear hna hb
       go_enter Tryz.func80, Tryz.ntmps80
       go_wp2_with (first
         | (go_at_call 97; refine (HU.out _).mono ?_; (rintro e w1 ⟨rfl, rfl⟩))
         | (go_at_call 54; refine (HNA.out _).mono ?_; (rintro e w1 ⟨rfl, rfl⟩)))
       go_ret
       exact ⟨ret_bool HQ.out, HM.out _⟩
     · subst hb
       have HCK := Lib.hid (check_b 0 0 ⟨#[]⟩ HV.out true noVal_ok 0 rfl)
       have HQ : Hid (true = r) := Lib.hid (by rw [← HR.out]; symm; simp [opOK, Opr.two, Opr.hasKey, Opr.hasVal, noVal_iff, hna, hk3, ByteArray.toList_eq])
       clear HR
       clear hna hk
       go_enter Tryz.func80, Tryz.ntmps80
       go_wp2_with (first
         | (go_at_call 97; refine (HU.out _).mono ?_; (rintro e w1 ⟨rfl, rfl⟩))
         | (go_at_call 54; refine (HNA.out _).mono ?_; (rintro e w1 ⟨rfl, rfl⟩))
         | (go_at_call 98; refine (HCK.out _ _ (HM.out _)).mono ?_; (rintro e w1 ⟨rfl, hm1⟩); have HM1 := Lib.hid hm1; clear hm1))
       go_ret
       exact ⟨ret_bool HQ.out, HM1.out⟩
set_option maxRecDepth 100000 in
set_option maxHeartbeats 4000000 in
theorem formed_9 (a b key vk : Nat) (vn : Int) (vs : ByteArray) (w : World) (hv : Val.Fits ⟨vk, vn, vs⟩) :
   Calls Tryz.prog 80 #[.agg #[.int .u8 9, .int .u32 (a : Int), .int .u32 (b : Int), .int .u8 (key : Int), .int .u8 (vk : Int), .int .i64 vn, .string vs]] w fun e w' => e = .returned (.bool (opOK ⟨9, a, b, key, ⟨vk, vn, vs⟩⟩)) ∧ Mod (fun _ => False) w w' := by
 have HU := Lib.hid (uses_K 9 9 rfl false true true true ⟨rfl, rfl, rfl, rfl⟩)
 have HV := Lib.hid hv
 have HM : Hid (∀ o : Obj, Mod (fun _ => False) w (w.alloc o)) := Lib.hid (fun o => (Mod.refl _ _).alloc o)
 obtain ⟨r, hr⟩ : ∃ r, opOK ⟨9, a, b, key, ⟨vk, vn, vs⟩⟩ = r := ⟨_, rfl⟩
 rw [hr]
 have HR := Lib.hid hr
 clear hr hv
 cases hna : numB a with
 | false =>
   have HNA := Lib.hid (number_b a false hna)
   have HQ : Hid (false = r) := Lib.hid (by rw [← HR.out]; symm; simp [opOK, Opr.two, Opr.hasKey, Opr.hasVal, noVal_iff, hna])
   clear HR
   clear hna
   go_enter Tryz.func80, Tryz.ntmps80
   go_wp2_with (first
     | (go_at_call 97; refine (HU.out _).mono ?_; (rintro e w1 ⟨rfl, rfl⟩))
     | (go_at_call 54; refine (HNA.out _).mono ?_; (rintro e w1 ⟨rfl, rfl⟩)))
   go_ret
   exact ⟨ret_bool HQ.out, HM.out _⟩
 | true =>
   have HNA := Lib.hid (number_b a true hna)
   by_cases hk : 3 < key
   · have hk2 : (3 : Int) < (key : Int) := by omega
     have HQ : Hid (false = r) := Lib.hid (by rw [← HR.out]; symm; (have hk9 : ¬ key ≤ 3 := (by omega)); simp [opOK, Opr.two, Opr.hasKey, Opr.hasVal, noVal_iff, hna, hk9])
     clear HR
     clear hna hk
     go_enter Tryz.func80, Tryz.ntmps80
     go_wp2_with (first
       | (go_at_call 97; refine (HU.out _).mono ?_; (rintro e w1 ⟨rfl, rfl⟩))
       | (go_at_call 54; refine (HNA.out _).mono ?_; (rintro e w1 ⟨rfl, rfl⟩)))
     go_ret
     exact ⟨ret_bool HQ.out, HM.out _⟩
   · have hk2 : ¬ (3 : Int) < (key : Int) := by omega
     have hk3 : key ≤ 3 := by omega
     by_cases hb : b = 0
     rotate_left
     · have hb2 : ((b : Int) != 0) = true := by simp; omega
       have HQ : Hid (false = r) := Lib.hid (by rw [← HR.out]; symm; simp [opOK, Opr.two, Opr.hasKey, Opr.hasVal, noVal_iff, hna, hb])
       clear HR
       clear hna hb
       go_enter Tryz.func80, Tryz.ntmps80
       go_wp2_with (first
         | (go_at_call 97; refine (HU.out _).mono ?_; (rintro e w1 ⟨rfl, rfl⟩))
         | (go_at_call 54; refine (HNA.out _).mono ?_; (rintro e w1 ⟨rfl, rfl⟩)))
       go_ret
       exact ⟨ret_bool HQ.out, HM.out _⟩
     · subst hb
       cases hok : Val.ok ⟨vk, vn, vs⟩ with
       | false =>
         have HCK := Lib.hid (check_b vk vn vs HV.out false hok 3 rfl)
         have HQ : Hid (false = r) := Lib.hid (by rw [← HR.out]; symm; simp [opOK, Opr.two, Opr.hasKey, Opr.hasVal, noVal_iff, hna, hk3, hok])
         clear HR
         clear hna hk hok
         go_enter Tryz.func80, Tryz.ntmps80
         go_wp2_with (first
           | (go_at_call 97; refine (HU.out _).mono ?_; (rintro e w1 ⟨rfl, rfl⟩))
           | (go_at_call 54; refine (HNA.out _).mono ?_; (rintro e w1 ⟨rfl, rfl⟩))
           | (go_at_call 98; refine (HCK.out _ _ (HM.out _)).mono ?_; (rintro e w1 ⟨rfl, hm1⟩); have HM1 := Lib.hid hm1; clear hm1))
         go_ret
         exact ⟨ret_bool HQ.out, HM1.out⟩
       | true =>
         have HCK := Lib.hid (check_b vk vn vs HV.out true hok 0 rfl)
         have HQ : Hid (true = r) := Lib.hid (by rw [← HR.out]; symm; simp [opOK, Opr.two, Opr.hasKey, Opr.hasVal, noVal_iff, hna, hk3, hok])
         clear HR
         clear hna hk hok
         go_enter Tryz.func80, Tryz.ntmps80
         go_wp2_with (first
           | (go_at_call 97; refine (HU.out _).mono ?_; (rintro e w1 ⟨rfl, rfl⟩))
           | (go_at_call 54; refine (HNA.out _).mono ?_; (rintro e w1 ⟨rfl, rfl⟩))
           | (go_at_call 98; refine (HCK.out _ _ (HM.out _)).mono ?_; (rintro e w1 ⟨rfl, hm1⟩); have HM1 := Lib.hid hm1; clear hm1))
         go_ret
         exact ⟨ret_bool HQ.out, HM1.out⟩
end Go.Proofs.YtlpdifinkcjckaaGreatDoor
