import Derived.Test.YtpigipgoopeeoaaGreatDoorMOn26
set_option linter.unusedVariables false
set_option linter.unusedSimpArgs false
namespace Go.Proofs.YtpigipgoopeeoaaGreatDoor
open Go.RowKit
set_option maxRecDepth 100000 in
set_option maxHeartbeats 4000000 in
theorem formed_3 (a b key vk : Nat) (vn : Int) (vs : ByteArray) (w : World) (hv : Val.Fits ⟨vk, vn, vs⟩) :
   Calls Tryz.prog 84 #[.agg #[.int .u8 3, .int .u32 (a : Int), .int .u32 (b : Int), .int .u8 (key : Int), .int .u8 (vk : Int), .int .i64 vn, .string vs]] w fun e w' => e = .returned (.bool (opOK ⟨3, a, b, key, ⟨vk, vn, vs⟩⟩)) ∧ Mod (fun _ => False) w w' := by
 have HU := Lib.hid (uses_K 3 3 rfl false true true true ⟨rfl, rfl, rfl, rfl⟩)
 have HV := Lib.hid hv
 have HM : Hid (∀ o : Obj, Mod (fun _ => False) w (w.alloc o)) := Lib.hid (fun o => (Mod.refl _ _).alloc o)
 obtain ⟨r, hr⟩ : ∃ r, opOK ⟨3, a, b, key, ⟨vk, vn, vs⟩⟩ = r := ⟨_, rfl⟩
 rw [hr]
 have HR := Lib.hid hr
 clear hr hv
 cases hna : numB a with
 | false =>
   have HNA := Lib.hid (number_b a false hna)
   have HQ : Hid (false = r) := Lib.hid (by rw [← HR.out]; symm; simp [opOK, Opr.two, Opr.hasKey, Opr.hasVal, noVal_iff, hna])
   clear HR
   clear hna
   go_enter Tryz.func84, Tryz.ntmps84
   go_wp2_with (first
     | (go_at_call 96; refine (HU.out _).mono ?_; (rintro e w1 ⟨rfl, rfl⟩))
     | (go_at_call 70; refine (HNA.out _).mono ?_; (rintro e w1 ⟨rfl, rfl⟩)))
   go_ret
   exact ⟨ret_bool HQ.out, HM.out _⟩
 | true =>
   have HNA := Lib.hid (number_b a true hna)
   by_cases hk : 3 < key
   · have hk2 : (3 : Int) < (key : Int) := by omega
     have HQ : Hid (false = r) := Lib.hid (by rw [← HR.out]; symm; (have hk9 : ¬ key ≤ 3 := (by omega)); simp [opOK, Opr.two, Opr.hasKey, Opr.hasVal, noVal_iff, hna, hk9])
     clear HR
     clear hna hk
     go_enter Tryz.func84, Tryz.ntmps84
     go_wp2_with (first
       | (go_at_call 96; refine (HU.out _).mono ?_; (rintro e w1 ⟨rfl, rfl⟩))
       | (go_at_call 70; refine (HNA.out _).mono ?_; (rintro e w1 ⟨rfl, rfl⟩)))
     go_ret
     exact ⟨ret_bool HQ.out, HM.out _⟩
   · have hk2 : ¬ (3 : Int) < (key : Int) := by omega
     have hk3 : key ≤ 3 := by omega
     by_cases hb : b = 0
     rotate_left
     · have hb2 : ((b : Int) != 0) = true := by simp; omega
       have HQ : Hid (false = r) := Lib.hid (by rw [← HR.out]; symm; simp [opOK, Opr.two, Opr.hasKey, Opr.hasVal, noVal_iff, hna, hb])
       clear HR
       clear hna hb
       go_enter Tryz.func84, Tryz.ntmps84
       go_wp2_with (first
         | (go_at_call 96; refine (HU.out _).mono ?_; (rintro e w1 ⟨rfl, rfl⟩))
         | (go_at_call 70; refine (HNA.out _).mono ?_; (rintro e w1 ⟨rfl, rfl⟩)))
       go_ret
       exact ⟨ret_bool HQ.out, HM.out _⟩
     · subst hb
       cases hok : Val.ok ⟨vk, vn, vs⟩ with
       | false =>
         have HCK := Lib.hid (check_b vk vn vs HV.out false hok 3 rfl)
         have HQ : Hid (false = r) := Lib.hid (by rw [← HR.out]; symm; simp [opOK, Opr.two, Opr.hasKey, Opr.hasVal, noVal_iff, hna, hk3, hok])
         clear HR
         clear hna hk hok
         go_enter Tryz.func84, Tryz.ntmps84
         go_wp2_with (first
           | (go_at_call 96; refine (HU.out _).mono ?_; (rintro e w1 ⟨rfl, rfl⟩))
           | (go_at_call 70; refine (HNA.out _).mono ?_; (rintro e w1 ⟨rfl, rfl⟩))
           | (go_at_call 97; refine (HCK.out _ _ (HM.out _)).mono ?_; (rintro e w1 ⟨rfl, hm1⟩); have HM1 := Lib.hid hm1; clear hm1))
         go_ret
         exact ⟨ret_bool HQ.out, HM1.out⟩
       | true =>
         have HCK := Lib.hid (check_b vk vn vs HV.out true hok 0 rfl)
         have HQ : Hid (true = r) := Lib.hid (by rw [← HR.out]; symm; simp [opOK, Opr.two, Opr.hasKey, Opr.hasVal, noVal_iff, hna, hk3, hok])
         clear HR
         clear hna hk hok
         go_enter Tryz.func84, Tryz.ntmps84
         go_wp2_with (first
           | (go_at_call 96; refine (HU.out _).mono ?_; (rintro e w1 ⟨rfl, rfl⟩))
           | (go_at_call 70; refine (HNA.out _).mono ?_; (rintro e w1 ⟨rfl, rfl⟩))
           | (go_at_call 97; refine (HCK.out _ _ (HM.out _)).mono ?_; (rintro e w1 ⟨rfl, hm1⟩); have HM1 := Lib.hid hm1; clear hm1))
         go_ret
         exact ⟨ret_bool HQ.out, HM1.out⟩
set_option maxRecDepth 100000 in
set_option maxHeartbeats 4000000 in
theorem formed_4 (a b key vk : Nat) (vn : Int) (vs : ByteArray) (w : World) (hv : Val.Fits ⟨vk, vn, vs⟩) :
   Calls Tryz.prog 84 #[.agg #[.int .u8 4, .int .u32 (a : Int), .int .u32 (b : Int), .int .u8 (key : Int), .int .u8 (vk : Int), .int .i64 vn, .string vs]] w fun e w' => e = .returned (.bool (opOK ⟨4, a, b, key, ⟨vk, vn, vs⟩⟩)) ∧ Mod (fun _ => False) w w' := by
 have HU := Lib.hid (uses_K 4 4 rfl false true false true ⟨rfl, rfl, rfl, rfl⟩)
 have HV := Lib.hid hv
 have HM : Hid (∀ o : Obj, Mod (fun _ => False) w (w.alloc o)) := Lib.hid (fun o => (Mod.refl _ _).alloc o)
 obtain ⟨r, hr⟩ : ∃ r, opOK ⟨4, a, b, key, ⟨vk, vn, vs⟩⟩ = r := ⟨_, rfl⟩
 rw [hr]
 have HR := Lib.hid hr
 clear hr hv
 cases hna : numB a with
 | false =>
   have HNA := Lib.hid (number_b a false hna)
   have HQ : Hid (false = r) := Lib.hid (by rw [← HR.out]; symm; simp [opOK, Opr.two, Opr.hasKey, Opr.hasVal, noVal_iff, hna])
   clear HR
   clear hna
   go_enter Tryz.func84, Tryz.ntmps84
   go_wp2_with (first
     | (go_at_call 96; refine (HU.out _).mono ?_; (rintro e w1 ⟨rfl, rfl⟩))
     | (go_at_call 70; refine (HNA.out _).mono ?_; (rintro e w1 ⟨rfl, rfl⟩)))
   go_ret
   exact ⟨ret_bool HQ.out, HM.out _⟩
 | true =>
   have HNA := Lib.hid (number_b a true hna)
   by_cases hk : 3 < key
   · have hk2 : (3 : Int) < (key : Int) := by omega
     have HQ : Hid (false = r) := Lib.hid (by rw [← HR.out]; symm; (have hk9 : ¬ key ≤ 3 := (by omega)); simp [opOK, Opr.two, Opr.hasKey, Opr.hasVal, noVal_iff, hna, hk9])
     clear HR
     clear hna hk
     go_enter Tryz.func84, Tryz.ntmps84
     go_wp2_with (first
       | (go_at_call 96; refine (HU.out _).mono ?_; (rintro e w1 ⟨rfl, rfl⟩))
       | (go_at_call 70; refine (HNA.out _).mono ?_; (rintro e w1 ⟨rfl, rfl⟩)))
     go_ret
     exact ⟨ret_bool HQ.out, HM.out _⟩
   · have hk2 : ¬ (3 : Int) < (key : Int) := by omega
     have hk3 : key ≤ 3 := by omega
     by_cases hv1 : vk = 0
     rotate_left
     · have hv2 : ¬ (vk : Int) = 0 := by omega
       have HQ : Hid (false = r) := Lib.hid (by rw [← HR.out]; symm; simp [opOK, Opr.two, Opr.hasKey, Opr.hasVal, noVal_iff, hna, hv1])
       clear HR
       clear hna hv1
       go_enter Tryz.func84, Tryz.ntmps84
       go_wp2_with (first
         | (go_at_call 96; refine (HU.out _).mono ?_; (rintro e w1 ⟨rfl, rfl⟩))
         | (go_at_call 70; refine (HNA.out _).mono ?_; (rintro e w1 ⟨rfl, rfl⟩)))
       go_ret
       exact ⟨ret_bool HQ.out, HM.out _⟩
     subst hv1
     by_cases hv1 : vn = 0
     rotate_left
     · have hv2 : ¬ vn = 0 := hv1
       have HQ : Hid (false = r) := Lib.hid (by rw [← HR.out]; symm; simp [opOK, Opr.two, Opr.hasKey, Opr.hasVal, noVal_iff, hna, hv1])
       clear HR
       clear hna hv1
       go_enter Tryz.func84, Tryz.ntmps84
       go_wp2_with (first
         | (go_at_call 96; refine (HU.out _).mono ?_; (rintro e w1 ⟨rfl, rfl⟩))
         | (go_at_call 70; refine (HNA.out _).mono ?_; (rintro e w1 ⟨rfl, rfl⟩)))
       go_ret
       exact ⟨ret_bool HQ.out, HM.out _⟩
     subst hv1
     by_cases hv1 : vs.toList = []
     rotate_left
     · have HQ : Hid (false = r) := Lib.hid (by rw [← HR.out]; symm; simp [opOK, Opr.two, Opr.hasKey, Opr.hasVal, noVal_iff, hna, hv1])
       clear HR
       clear hna
       go_enter Tryz.func84, Tryz.ntmps84
       go_wp2_with (first
         | (go_at_call 96; refine (HU.out _).mono ?_; (rintro e w1 ⟨rfl, rfl⟩))
         | (go_at_call 70; refine (HNA.out _).mono ?_; (rintro e w1 ⟨rfl, rfl⟩)))
       go_ret
       exact ⟨ret_bool HQ.out, HM.out _⟩
     obtain rfl : vs = ⟨#[]⟩ := by
       have := (noVal_iff 0 0 vs).2 ⟨rfl, rfl, hv1⟩
       unfold noVal at this
       injection this
     clear hv1
     by_cases hb : b = 0
     rotate_left
     · have hb2 : ((b : Int) != 0) = true := by simp; omega
       have HQ : Hid (false = r) := Lib.hid (by rw [← HR.out]; symm; simp [opOK, Opr.two, Opr.hasKey, Opr.hasVal, noVal_iff, hna, hb])
       clear HR
       clear hna hb
       go_enter Tryz.func84, Tryz.ntmps84
       go_wp2_with (first
         | (go_at_call 96; refine (HU.out _).mono ?_; (rintro e w1 ⟨rfl, rfl⟩))
         | (go_at_call 70; refine (HNA.out _).mono ?_; (rintro e w1 ⟨rfl, rfl⟩)))
       go_ret
       exact ⟨ret_bool HQ.out, HM.out _⟩
     · subst hb
       have HCK := Lib.hid (check_b 0 0 ⟨#[]⟩ HV.out true noVal_ok 0 rfl)
       have HQ : Hid (true = r) := Lib.hid (by rw [← HR.out]; symm; simp [opOK, Opr.two, Opr.hasKey, Opr.hasVal, noVal_iff, hna, hk3, ByteArray.toList_eq])
       clear HR
       clear hna hk
       go_enter Tryz.func84, Tryz.ntmps84
       go_wp2_with (first
         | (go_at_call 96; refine (HU.out _).mono ?_; (rintro e w1 ⟨rfl, rfl⟩))
         | (go_at_call 70; refine (HNA.out _).mono ?_; (rintro e w1 ⟨rfl, rfl⟩))
         | (go_at_call 97; refine (HCK.out _ _ (HM.out _)).mono ?_; (rintro e w1 ⟨rfl, hm1⟩); have HM1 := Lib.hid hm1; clear hm1))
       go_ret
       exact ⟨ret_bool HQ.out, HM1.out⟩
set_option maxRecDepth 100000 in
set_option maxHeartbeats 4000000 in
theorem formed_9 (a b key vk : Nat) (vn : Int) (vs : ByteArray) (w : World) (hv : Val.Fits ⟨vk, vn, vs⟩) :
   Calls Tryz.prog 84 #[.agg #[.int .u8 9, .int .u32 (a : Int), .int .u32 (b : Int), .int .u8 (key : Int), .int .u8 (vk : Int), .int .i64 vn, .string vs]] w fun e w' => e = .returned (.bool (opOK ⟨9, a, b, key, ⟨vk, vn, vs⟩⟩)) ∧ Mod (fun _ => False) w w' := by
 have HU := Lib.hid (uses_K 9 9 rfl false true true true ⟨rfl, rfl, rfl, rfl⟩)
 have HV := Lib.hid hv
 have HM : Hid (∀ o : Obj, Mod (fun _ => False) w (w.alloc o)) := Lib.hid (fun o => (Mod.refl _ _).alloc o)
 obtain ⟨r, hr⟩ : ∃ r, opOK ⟨9, a, b, key, ⟨vk, vn, vs⟩⟩ = r := ⟨_, rfl⟩
 rw [hr]
 have HR := Lib.hid hr
 clear hr hv
 cases hna : numB a with
 | false =>
   have HNA := Lib.hid (number_b a false hna)
   have HQ : Hid (false = r) := Lib.hid (by rw [← HR.out]; symm; simp [opOK, Opr.two, Opr.hasKey, Opr.hasVal, noVal_iff, hna])
   clear HR
   clear hna
   go_enter Tryz.func84, Tryz.ntmps84
   go_wp2_with (first
     | (go_at_call 96; refine (HU.out _).mono ?_; (rintro e w1 ⟨rfl, rfl⟩))
     | (go_at_call 70; refine (HNA.out _).mono ?_; (rintro e w1 ⟨rfl, rfl⟩)))
   go_ret
   exact ⟨ret_bool HQ.out, HM.out _⟩
 | true =>
   have HNA := Lib.hid (number_b a true hna)
   by_cases hk : 3 < key
   · have hk2 : (3 : Int) < (key : Int) := by omega
     have HQ : Hid (false = r) := Lib.hid (by rw [← HR.out]; symm; (have hk9 : ¬ key ≤ 3 := (by omega)); simp [opOK, Opr.two, Opr.hasKey, Opr.hasVal, noVal_iff, hna, hk9])
     clear HR
     clear hna hk
     go_enter Tryz.func84, Tryz.ntmps84
     go_wp2_with (first
       | (go_at_call 96; refine (HU.out _).mono ?_; (rintro e w1 ⟨rfl, rfl⟩))
       | (go_at_call 70; refine (HNA.out _).mono ?_; (rintro e w1 ⟨rfl, rfl⟩)))
     go_ret
     exact ⟨ret_bool HQ.out, HM.out _⟩
   · have hk2 : ¬ (3 : Int) < (key : Int) := by omega
     have hk3 : key ≤ 3 := by omega
     by_cases hb : b = 0
     rotate_left
     · have hb2 : ((b : Int) != 0) = true := by simp; omega
       have HQ : Hid (false = r) := Lib.hid (by rw [← HR.out]; symm; simp [opOK, Opr.two, Opr.hasKey, Opr.hasVal, noVal_iff, hna, hb])
       clear HR
       clear hna hb
       go_enter Tryz.func84, Tryz.ntmps84
       go_wp2_with (first
         | (go_at_call 96; refine (HU.out _).mono ?_; (rintro e w1 ⟨rfl, rfl⟩))
         | (go_at_call 70; refine (HNA.out _).mono ?_; (rintro e w1 ⟨rfl, rfl⟩)))
       go_ret
       exact ⟨ret_bool HQ.out, HM.out _⟩
     · subst hb
       cases hok : Val.ok ⟨vk, vn, vs⟩ with
       | false =>
         have HCK := Lib.hid (check_b vk vn vs HV.out false hok 3 rfl)
         have HQ : Hid (false = r) := Lib.hid (by rw [← HR.out]; symm; simp [opOK, Opr.two, Opr.hasKey, Opr.hasVal, noVal_iff, hna, hk3, hok])
         clear HR
         clear hna hk hok
         go_enter Tryz.func84, Tryz.ntmps84
         go_wp2_with (first
           | (go_at_call 96; refine (HU.out _).mono ?_; (rintro e w1 ⟨rfl, rfl⟩))
           | (go_at_call 70; refine (HNA.out _).mono ?_; (rintro e w1 ⟨rfl, rfl⟩))
           | (go_at_call 97; refine (HCK.out _ _ (HM.out _)).mono ?_; (rintro e w1 ⟨rfl, hm1⟩); have HM1 := Lib.hid hm1; clear hm1))
         go_ret
         exact ⟨ret_bool HQ.out, HM1.out⟩
       | true =>
         have HCK := Lib.hid (check_b vk vn vs HV.out true hok 0 rfl)
         have HQ : Hid (true = r) := Lib.hid (by rw [← HR.out]; symm; simp [opOK, Opr.two, Opr.hasKey, Opr.hasVal, noVal_iff, hna, hk3, hok])
         clear HR
         clear hna hk hok
         go_enter Tryz.func84, Tryz.ntmps84
         go_wp2_with (first
           | (go_at_call 96; refine (HU.out _).mono ?_; (rintro e w1 ⟨rfl, rfl⟩))
           | (go_at_call 70; refine (HNA.out _).mono ?_; (rintro e w1 ⟨rfl, rfl⟩))
           | (go_at_call 97; refine (HCK.out _ _ (HM.out _)).mono ?_; (rintro e w1 ⟨rfl, hm1⟩); have HM1 := Lib.hid hm1; clear hm1))
         go_ret
         exact ⟨ret_bool HQ.out, HM1.out⟩
open Go.RowKit
set_option maxRecDepth 100000 in
set_option maxHeartbeats 4000000 in
theorem formed_5 (a b key vk : Nat) (vn : Int) (vs : ByteArray) (w : World) (hv : Val.Fits ⟨vk, vn, vs⟩) :
   Calls Tryz.prog 84 #[.agg #[.int .u8 5, .int .u32 (a : Int), .int .u32 (b : Int), .int .u8 (key : Int), .int .u8 (vk : Int), .int .i64 vn, .string vs]] w fun e w' => e = .returned (.bool (opOK ⟨5, a, b, key, ⟨vk, vn, vs⟩⟩)) ∧ Mod (fun _ => False) w w' := by
 have HU := Lib.hid (uses_K 5 5 rfl true false true true ⟨rfl, rfl, rfl, rfl⟩)
 have HV := Lib.hid hv
 have HM : Hid (∀ o : Obj, Mod (fun _ => False) w (w.alloc o)) := Lib.hid (fun o => (Mod.refl _ _).alloc o)
 obtain ⟨r, hr⟩ : ∃ r, opOK ⟨5, a, b, key, ⟨vk, vn, vs⟩⟩ = r := ⟨_, rfl⟩
 rw [hr]
 have HR := Lib.hid hr
 clear hr hv
 cases hna : numB a with
 | false =>
   have HNA := Lib.hid (number_b a false hna)
   have HQ : Hid (false = r) := Lib.hid (by rw [← HR.out]; symm; simp [opOK, Opr.two, Opr.hasKey, Opr.hasVal, noVal_iff, hna])
   clear HR
   clear hna
   go_enter Tryz.func84, Tryz.ntmps84
   go_wp2_with (first
     | (go_at_call 96; refine (HU.out _).mono ?_; (rintro e w1 ⟨rfl, rfl⟩))
     | (go_at_call 70; refine (HNA.out _).mono ?_; (rintro e w1 ⟨rfl, rfl⟩)))
   go_ret
   exact ⟨ret_bool HQ.out, HM.out _⟩
 | true =>
   have HNA := Lib.hid (number_b a true hna)
   by_cases hk : key = 0
   rotate_left
   · have hk2 : ((key : Int) != 0) = true := by simp; omega
     have HQ : Hid (false = r) := Lib.hid (by rw [← HR.out]; symm; simp [opOK, Opr.two, Opr.hasKey, Opr.hasVal, noVal_iff, hna, hk])
     clear HR
     clear hna hk
     go_enter Tryz.func84, Tryz.ntmps84
     go_wp2_with (first
       | (go_at_call 96; refine (HU.out _).mono ?_; (rintro e w1 ⟨rfl, rfl⟩))
       | (go_at_call 70; refine (HNA.out _).mono ?_; (rintro e w1 ⟨rfl, rfl⟩)))
     go_ret
     exact ⟨ret_bool HQ.out, HM.out _⟩
   · subst hk
     cases hnb : numB b with
     | false =>
       have HNB := Lib.hid (number_b b false hnb)
       have HQ : Hid (false = r) := Lib.hid (by rw [← HR.out]; symm; simp [opOK, Opr.two, Opr.hasKey, Opr.hasVal, noVal_iff, hna, hnb])
       clear HR
       clear hna hnb
       go_enter Tryz.func84, Tryz.ntmps84
       go_wp2_with (first
         | (go_at_call 96; refine (HU.out _).mono ?_; (rintro e w1 ⟨rfl, rfl⟩))
         | (go_at_call 70; refine (HNA.out _).mono ?_; (rintro e w1 ⟨rfl, rfl⟩))
         | (go_at_call 70; refine (HNB.out _).mono ?_; (rintro e w1 ⟨rfl, rfl⟩)))
       go_ret
       exact ⟨ret_bool HQ.out, HM.out _⟩
     | true =>
       have HNB := Lib.hid (number_b b true hnb)
       by_cases hab : b = a
       · subst hab
         have HQ : Hid (false = r) := Lib.hid (by rw [← HR.out]; symm; simp [opOK, Opr.two, Opr.hasKey, Opr.hasVal, noVal_iff, hna])
         clear HR
         clear hna hnb
         go_enter Tryz.func84, Tryz.ntmps84
         go_wp2_with (first
           | (go_at_call 96; refine (HU.out _).mono ?_; (rintro e w1 ⟨rfl, rfl⟩))
           | (go_at_call 70; refine (HNA.out _).mono ?_; (rintro e w1 ⟨rfl, rfl⟩))
           | (go_at_call 70; refine (HNB.out _).mono ?_; (rintro e w1 ⟨rfl, rfl⟩)))
         go_ret
         exact ⟨ret_bool HQ.out, HM.out _⟩
       · have hab2 : ((a : Int) == (b : Int)) = false := by simp; omega
         cases hok : Val.ok ⟨vk, vn, vs⟩ with
         | false =>
           have HCK := Lib.hid (check_b vk vn vs HV.out false hok 3 rfl)
           have HQ : Hid (false = r) := Lib.hid (by rw [← HR.out]; symm; simp [opOK, Opr.two, Opr.hasKey, Opr.hasVal, noVal_iff, hna, hnb, hab, hok])
           clear HR
           clear hna hnb hab hok
           go_enter Tryz.func84, Tryz.ntmps84
           go_wp2_with (first
             | (go_at_call 96; refine (HU.out _).mono ?_; (rintro e w1 ⟨rfl, rfl⟩))
             | (go_at_call 70; refine (HNA.out _).mono ?_; (rintro e w1 ⟨rfl, rfl⟩))
             | (go_at_call 70; refine (HNB.out _).mono ?_; (rintro e w1 ⟨rfl, rfl⟩))
             | (go_at_call 97; refine (HCK.out _ _ (HM.out _)).mono ?_; (rintro e w1 ⟨rfl, hm1⟩); have HM1 := Lib.hid hm1; clear hm1))
           go_ret
           exact ⟨ret_bool HQ.out, HM1.out⟩
         | true =>
           have HCK := Lib.hid (check_b vk vn vs HV.out true hok 0 rfl)
           have HQ : Hid (true = r) := Lib.hid (by rw [← HR.out]; symm; simp [opOK, Opr.two, Opr.hasKey, Opr.hasVal, noVal_iff, hna, hnb, hab, hok])
           clear HR
           clear hna hnb hab hok
           go_enter Tryz.func84, Tryz.ntmps84
           go_wp2_with (first
             | (go_at_call 96; refine (HU.out _).mono ?_; (rintro e w1 ⟨rfl, rfl⟩))
             | (go_at_call 70; refine (HNA.out _).mono ?_; (rintro e w1 ⟨rfl, rfl⟩))
             | (go_at_call 70; refine (HNB.out _).mono ?_; (rintro e w1 ⟨rfl, rfl⟩))
             | (go_at_call 97; refine (HCK.out _ _ (HM.out _)).mono ?_; (rintro e w1 ⟨rfl, hm1⟩); have HM1 := Lib.hid hm1; clear hm1))
           go_ret
           exact ⟨ret_bool HQ.out, HM1.out⟩
set_option maxRecDepth 100000 in
set_option maxHeartbeats 4000000 in
theorem formed_6 (a b key vk : Nat) (vn : Int) (vs : ByteArray) (w : World) (hv : Val.Fits ⟨vk, vn, vs⟩) :
   Calls Tryz.prog 84 #[.agg #[.int .u8 6, .int .u32 (a : Int), .int .u32 (b : Int), .int .u8 (key : Int), .int .u8 (vk : Int), .int .i64 vn, .string vs]] w fun e w' => e = .returned (.bool (opOK ⟨6, a, b, key, ⟨vk, vn, vs⟩⟩)) ∧ Mod (fun _ => False) w w' := by
 have HU := Lib.hid (uses_K 6 6 rfl true false false true ⟨rfl, rfl, rfl, rfl⟩)
 have HV := Lib.hid hv
 have HM : Hid (∀ o : Obj, Mod (fun _ => False) w (w.alloc o)) := Lib.hid (fun o => (Mod.refl _ _).alloc o)
 obtain ⟨r, hr⟩ : ∃ r, opOK ⟨6, a, b, key, ⟨vk, vn, vs⟩⟩ = r := ⟨_, rfl⟩
 rw [hr]
 have HR := Lib.hid hr
 clear hr hv
 cases hna : numB a with
 | false =>
   have HNA := Lib.hid (number_b a false hna)
   have HQ : Hid (false = r) := Lib.hid (by rw [← HR.out]; symm; simp [opOK, Opr.two, Opr.hasKey, Opr.hasVal, noVal_iff, hna])
   clear HR
   clear hna
   go_enter Tryz.func84, Tryz.ntmps84
   go_wp2_with (first
     | (go_at_call 96; refine (HU.out _).mono ?_; (rintro e w1 ⟨rfl, rfl⟩))
     | (go_at_call 70; refine (HNA.out _).mono ?_; (rintro e w1 ⟨rfl, rfl⟩)))
   go_ret
   exact ⟨ret_bool HQ.out, HM.out _⟩
 | true =>
   have HNA := Lib.hid (number_b a true hna)
   by_cases hk : key = 0
   rotate_left
   · have hk2 : ((key : Int) != 0) = true := by simp; omega
     have HQ : Hid (false = r) := Lib.hid (by rw [← HR.out]; symm; simp [opOK, Opr.two, Opr.hasKey, Opr.hasVal, noVal_iff, hna, hk])
     clear HR
     clear hna hk
     go_enter Tryz.func84, Tryz.ntmps84
     go_wp2_with (first
       | (go_at_call 96; refine (HU.out _).mono ?_; (rintro e w1 ⟨rfl, rfl⟩))
       | (go_at_call 70; refine (HNA.out _).mono ?_; (rintro e w1 ⟨rfl, rfl⟩)))
     go_ret
     exact ⟨ret_bool HQ.out, HM.out _⟩
   · subst hk
     by_cases hv1 : vk = 0
     rotate_left
     · have hv2 : ¬ (vk : Int) = 0 := by omega
       have HQ : Hid (false = r) := Lib.hid (by rw [← HR.out]; symm; simp [opOK, Opr.two, Opr.hasKey, Opr.hasVal, noVal_iff, hna, hv1])
       clear HR
       clear hna hv1
       go_enter Tryz.func84, Tryz.ntmps84
       go_wp2_with (first
         | (go_at_call 96; refine (HU.out _).mono ?_; (rintro e w1 ⟨rfl, rfl⟩))
         | (go_at_call 70; refine (HNA.out _).mono ?_; (rintro e w1 ⟨rfl, rfl⟩)))
       go_ret
       exact ⟨ret_bool HQ.out, HM.out _⟩
     subst hv1
     by_cases hv1 : vn = 0
     rotate_left
     · have hv2 : ¬ vn = 0 := hv1
       have HQ : Hid (false = r) := Lib.hid (by rw [← HR.out]; symm; simp [opOK, Opr.two, Opr.hasKey, Opr.hasVal, noVal_iff, hna, hv1])
       clear HR
       clear hna hv1
       go_enter Tryz.func84, Tryz.ntmps84
       go_wp2_with (first
         | (go_at_call 96; refine (HU.out _).mono ?_; (rintro e w1 ⟨rfl, rfl⟩))
         | (go_at_call 70; refine (HNA.out _).mono ?_; (rintro e w1 ⟨rfl, rfl⟩)))
       go_ret
       exact ⟨ret_bool HQ.out, HM.out _⟩
     subst hv1
     by_cases hv1 : vs.toList = []
     rotate_left
     · have HQ : Hid (false = r) := Lib.hid (by rw [← HR.out]; symm; simp [opOK, Opr.two, Opr.hasKey, Opr.hasVal, noVal_iff, hna, hv1])
       clear HR
       clear hna
       go_enter Tryz.func84, Tryz.ntmps84
       go_wp2_with (first
         | (go_at_call 96; refine (HU.out _).mono ?_; (rintro e w1 ⟨rfl, rfl⟩))
         | (go_at_call 70; refine (HNA.out _).mono ?_; (rintro e w1 ⟨rfl, rfl⟩)))
       go_ret
       exact ⟨ret_bool HQ.out, HM.out _⟩
     obtain rfl : vs = ⟨#[]⟩ := by
       have := (noVal_iff 0 0 vs).2 ⟨rfl, rfl, hv1⟩
       unfold noVal at this
       injection this
     clear hv1
     cases hnb : numB b with
     | false =>
       have HNB := Lib.hid (number_b b false hnb)
       have HQ : Hid (false = r) := Lib.hid (by rw [← HR.out]; symm; simp [opOK, Opr.two, Opr.hasKey, Opr.hasVal, noVal_iff, hna, hnb])
       clear HR
       clear hna hnb
       go_enter Tryz.func84, Tryz.ntmps84
       go_wp2_with (first
         | (go_at_call 96; refine (HU.out _).mono ?_; (rintro e w1 ⟨rfl, rfl⟩))
         | (go_at_call 70; refine (HNA.out _).mono ?_; (rintro e w1 ⟨rfl, rfl⟩))
         | (go_at_call 70; refine (HNB.out _).mono ?_; (rintro e w1 ⟨rfl, rfl⟩)))
       go_ret
       exact ⟨ret_bool HQ.out, HM.out _⟩
     | true =>
       have HNB := Lib.hid (number_b b true hnb)
       by_cases hab : b = a
       · subst hab
         have HQ : Hid (false = r) := Lib.hid (by rw [← HR.out]; symm; simp [opOK, Opr.two, Opr.hasKey, Opr.hasVal, noVal_iff, hna])
         clear HR
         clear hna hnb
         go_enter Tryz.func84, Tryz.ntmps84
         go_wp2_with (first
           | (go_at_call 96; refine (HU.out _).mono ?_; (rintro e w1 ⟨rfl, rfl⟩))
           | (go_at_call 70; refine (HNA.out _).mono ?_; (rintro e w1 ⟨rfl, rfl⟩))
           | (go_at_call 70; refine (HNB.out _).mono ?_; (rintro e w1 ⟨rfl, rfl⟩)))
         go_ret
         exact ⟨ret_bool HQ.out, HM.out _⟩
       · have hab2 : ((a : Int) == (b : Int)) = false := by simp; omega
         have HCK := Lib.hid (check_b 0 0 ⟨#[]⟩ HV.out true noVal_ok 0 rfl)
         have HQ : Hid (true = r) := Lib.hid (by rw [← HR.out]; symm; simp [opOK, Opr.two, Opr.hasKey, Opr.hasVal, noVal_iff, hna, hnb, hab, ByteArray.toList_eq])
         clear HR
         clear hna hnb hab
         go_enter Tryz.func84, Tryz.ntmps84
         go_wp2_with (first
           | (go_at_call 96; refine (HU.out _).mono ?_; (rintro e w1 ⟨rfl, rfl⟩))
           | (go_at_call 70; refine (HNA.out _).mono ?_; (rintro e w1 ⟨rfl, rfl⟩))
           | (go_at_call 70; refine (HNB.out _).mono ?_; (rintro e w1 ⟨rfl, rfl⟩))
           | (go_at_call 97; refine (HCK.out _ _ (HM.out _)).mono ?_; (rintro e w1 ⟨rfl, hm1⟩); have HM1 := Lib.hid hm1; clear hm1))
         go_ret
         exact ⟨ret_bool HQ.out, HM1.out⟩
set_option maxRecDepth 100000 in
set_option maxHeartbeats 4000000 in
theorem formed_7 (a b key vk : Nat) (vn : Int) (vs : ByteArray) (w : World) (hv : Val.Fits ⟨vk, vn, vs⟩) :
   Calls Tryz.prog 84 #[.agg #[.int .u8 7, .int .u32 (a : Int), .int .u32 (b : Int), .int .u8 (key : Int), .int .u8 (vk : Int), .int .i64 vn, .string vs]] w fun e w' => e = .returned (.bool (opOK ⟨7, a, b, key, ⟨vk, vn, vs⟩⟩)) ∧ Mod (fun _ => False) w w' := by
 have HU := Lib.hid (uses_K 7 7 rfl true false false true ⟨rfl, rfl, rfl, rfl⟩)
 have HV := Lib.hid hv
 have HM : Hid (∀ o : Obj, Mod (fun _ => False) w (w.alloc o)) := Lib.hid (fun o => (Mod.refl _ _).alloc o)
 obtain ⟨r, hr⟩ : ∃ r, opOK ⟨7, a, b, key, ⟨vk, vn, vs⟩⟩ = r := ⟨_, rfl⟩
 rw [hr]
 have HR := Lib.hid hr
 clear hr hv
 cases hna : numB a with
 | false =>
   have HNA := Lib.hid (number_b a false hna)
   have HQ : Hid (false = r) := Lib.hid (by rw [← HR.out]; symm; simp [opOK, Opr.two, Opr.hasKey, Opr.hasVal, noVal_iff, hna])
   clear HR
   clear hna
   go_enter Tryz.func84, Tryz.ntmps84
   go_wp2_with (first
     | (go_at_call 96; refine (HU.out _).mono ?_; (rintro e w1 ⟨rfl, rfl⟩))
     | (go_at_call 70; refine (HNA.out _).mono ?_; (rintro e w1 ⟨rfl, rfl⟩)))
   go_ret
   exact ⟨ret_bool HQ.out, HM.out _⟩
 | true =>
   have HNA := Lib.hid (number_b a true hna)
   by_cases hk : key = 0
   rotate_left
   · have hk2 : ((key : Int) != 0) = true := by simp; omega
     have HQ : Hid (false = r) := Lib.hid (by rw [← HR.out]; symm; simp [opOK, Opr.two, Opr.hasKey, Opr.hasVal, noVal_iff, hna, hk])
     clear HR
     clear hna hk
     go_enter Tryz.func84, Tryz.ntmps84
     go_wp2_with (first
       | (go_at_call 96; refine (HU.out _).mono ?_; (rintro e w1 ⟨rfl, rfl⟩))
       | (go_at_call 70; refine (HNA.out _).mono ?_; (rintro e w1 ⟨rfl, rfl⟩)))
     go_ret
     exact ⟨ret_bool HQ.out, HM.out _⟩
   · subst hk
     by_cases hv1 : vk = 0
     rotate_left
     · have hv2 : ¬ (vk : Int) = 0 := by omega
       have HQ : Hid (false = r) := Lib.hid (by rw [← HR.out]; symm; simp [opOK, Opr.two, Opr.hasKey, Opr.hasVal, noVal_iff, hna, hv1])
       clear HR
       clear hna hv1
       go_enter Tryz.func84, Tryz.ntmps84
       go_wp2_with (first
         | (go_at_call 96; refine (HU.out _).mono ?_; (rintro e w1 ⟨rfl, rfl⟩))
         | (go_at_call 70; refine (HNA.out _).mono ?_; (rintro e w1 ⟨rfl, rfl⟩)))
       go_ret
       exact ⟨ret_bool HQ.out, HM.out _⟩
     subst hv1
     by_cases hv1 : vn = 0
     rotate_left
     · have hv2 : ¬ vn = 0 := hv1
       have HQ : Hid (false = r) := Lib.hid (by rw [← HR.out]; symm; simp [opOK, Opr.two, Opr.hasKey, Opr.hasVal, noVal_iff, hna, hv1])
       clear HR
       clear hna hv1
       go_enter Tryz.func84, Tryz.ntmps84
       go_wp2_with (first
         | (go_at_call 96; refine (HU.out _).mono ?_; (rintro e w1 ⟨rfl, rfl⟩))
         | (go_at_call 70; refine (HNA.out _).mono ?_; (rintro e w1 ⟨rfl, rfl⟩)))
       go_ret
       exact ⟨ret_bool HQ.out, HM.out _⟩
     subst hv1
     by_cases hv1 : vs.toList = []
     rotate_left
     · have HQ : Hid (false = r) := Lib.hid (by rw [← HR.out]; symm; simp [opOK, Opr.two, Opr.hasKey, Opr.hasVal, noVal_iff, hna, hv1])
       clear HR
       clear hna
       go_enter Tryz.func84, Tryz.ntmps84
       go_wp2_with (first
         | (go_at_call 96; refine (HU.out _).mono ?_; (rintro e w1 ⟨rfl, rfl⟩))
         | (go_at_call 70; refine (HNA.out _).mono ?_; (rintro e w1 ⟨rfl, rfl⟩)))
       go_ret
       exact ⟨ret_bool HQ.out, HM.out _⟩
     obtain rfl : vs = ⟨#[]⟩ := by
       have := (noVal_iff 0 0 vs).2 ⟨rfl, rfl, hv1⟩
       unfold noVal at this
       injection this
     clear hv1
     cases hnb : numB b with
     | false =>
       have HNB := Lib.hid (number_b b false hnb)
       have HQ : Hid (false = r) := Lib.hid (by rw [← HR.out]; symm; simp [opOK, Opr.two, Opr.hasKey, Opr.hasVal, noVal_iff, hna, hnb])
       clear HR
       clear hna hnb
       go_enter Tryz.func84, Tryz.ntmps84
       go_wp2_with (first
         | (go_at_call 96; refine (HU.out _).mono ?_; (rintro e w1 ⟨rfl, rfl⟩))
         | (go_at_call 70; refine (HNA.out _).mono ?_; (rintro e w1 ⟨rfl, rfl⟩))
         | (go_at_call 70; refine (HNB.out _).mono ?_; (rintro e w1 ⟨rfl, rfl⟩)))
       go_ret
       exact ⟨ret_bool HQ.out, HM.out _⟩
     | true =>
       have HNB := Lib.hid (number_b b true hnb)
       by_cases hab : b = a
       · subst hab
         have HQ : Hid (false = r) := Lib.hid (by rw [← HR.out]; symm; simp [opOK, Opr.two, Opr.hasKey, Opr.hasVal, noVal_iff, hna])
         clear HR
         clear hna hnb
         go_enter Tryz.func84, Tryz.ntmps84
         go_wp2_with (first
           | (go_at_call 96; refine (HU.out _).mono ?_; (rintro e w1 ⟨rfl, rfl⟩))
           | (go_at_call 70; refine (HNA.out _).mono ?_; (rintro e w1 ⟨rfl, rfl⟩))
           | (go_at_call 70; refine (HNB.out _).mono ?_; (rintro e w1 ⟨rfl, rfl⟩)))
         go_ret
         exact ⟨ret_bool HQ.out, HM.out _⟩
       · have hab2 : ((a : Int) == (b : Int)) = false := by simp; omega
         have HCK := Lib.hid (check_b 0 0 ⟨#[]⟩ HV.out true noVal_ok 0 rfl)
         have HQ : Hid (true = r) := Lib.hid (by rw [← HR.out]; symm; simp [opOK, Opr.two, Opr.hasKey, Opr.hasVal, noVal_iff, hna, hnb, hab, ByteArray.toList_eq])
         clear HR
         clear hna hnb hab
         go_enter Tryz.func84, Tryz.ntmps84
         go_wp2_with (first
           | (go_at_call 96; refine (HU.out _).mono ?_; (rintro e w1 ⟨rfl, rfl⟩))
           | (go_at_call 70; refine (HNA.out _).mono ?_; (rintro e w1 ⟨rfl, rfl⟩))
           | (go_at_call 70; refine (HNB.out _).mono ?_; (rintro e w1 ⟨rfl, rfl⟩))
           | (go_at_call 97; refine (HCK.out _ _ (HM.out _)).mono ?_; (rintro e w1 ⟨rfl, hm1⟩); have HM1 := Lib.hid hm1; clear hm1))
         go_ret
         exact ⟨ret_bool HQ.out, HM1.out⟩
end Go.Proofs.YtpigipgoopeeoaaGreatDoor
