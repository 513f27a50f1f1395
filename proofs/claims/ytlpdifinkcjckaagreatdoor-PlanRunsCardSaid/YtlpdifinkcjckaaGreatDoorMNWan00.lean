import Derived.Test.YtlpdifinkcjckaaGreatDoorMFw08
set_option linter.unusedVariables false
set_option linter.unusedSimpArgs false
namespace Go.Proofs.YtlpdifinkcjckaaGreatDoor
open Go.RowKit Go.Maps
open Go.RowKit
open Go.RowKit
open Go.RowKit
theorem num_any (v : Nat) (w : World) : Calls Tryz.prog 72 #[.int .u32 (v : Int)] w fun e w' => e = .returned (.bool (numB v)) ∧ w = w' := by
 by_cases h1 : 0 < v
 · have t1 : (0 : Int) < (v : Int) := by omega
   by_cases h2 : v ≤ 40
   · have t2 : (v : Int) ≤ 40 := by omega
     have HF : Hid (numB v = true) := Lib.hid (by simp [numB]; omega)
     clear h1 h2
     go_enter Tryz.func72, Tryz.ntmps72
     go_wp2
     go_ret
     exact ⟨ret_bool HF.out.symm, rfl⟩
   · have t2 : ¬ (v : Int) ≤ 40 := by omega
     have HF : Hid (numB v = false) := Lib.hid (by simp [numB]; omega)
     clear h1 h2
     go_enter Tryz.func72, Tryz.ntmps72
     go_wp2
     go_ret
     exact ⟨ret_bool HF.out.symm, rfl⟩
 · have t1 : ¬ (0 : Int) < (v : Int) := by omega
   have HF : Hid (numB v = false) := Lib.hid (by simp [numB]; omega)
   clear h1
   go_enter Tryz.func72, Tryz.ntmps72
   go_wp2
   go_ret
   exact ⟨ret_bool HF.out.symm, rfl⟩
set_option maxRecDepth 100000 in
set_option maxHeartbeats 2000000 in
theorem form_text (s : ByteArray) (hs : s.size ≤ 8) (w : World) : Calls Tryz.prog 93 #[.agg #[.int .u8 2, .int .i64 0, .string s]] w fun e w' => e = .returned (.bool (textB s)) ∧ Mod (fun _ => False) w w' := by
 go_enter Tryz.func93, Tryz.ntmps93
 go_wp2
 go_loopw [3] (fun i wr => ∃ k : Nat, i = .int .i64 k ∧ k ≤ s.size ∧ (s.data.toList.take k).all (fun c => letterB c.toNat) = true ∧ Mod (fun _ => False) w wr ∧ wr.heap[w.heap.size]? = some (.cells #[.int .u8 2, .int .i64 0, .string s] 68 (0, 0))) (fun i _ => s.size - (intOf i).toNat)
 case atStart => exact ⟨0, rfl, Nat.zero_le _, rfl, (Mod.refl _ _).alloc _, heap_alloc_new' w _⟩
 case round =>
   obtain ⟨k, rfl, hk, hall, hm, hbx⟩ := hrel
   have HA := Lib.hid hall
   have HM := Lib.hid hm
   have HBX := Lib.hid hbx
   have b2 := cell_of_row hbx 2
   simp at b2
   clear hall hm hbx
   by_cases hlt : k < s.size
   · have hts : s.data.toList.take (k + 1) = s.data.toList.take k ++ [s[k]] := by
       rw [List.take_succ_eq_append_getElem (by simpa using hlt)]; rfl
     have HS : Hid (∀ b, letterB s[k].toNat = b → (s.data.toList.take (k + 1)).all (fun c => letterB c.toNat) = b) := Lib.hid (by
       intro b hb
       rw [hts, List.all_append, HA.out]
       simp [hb])
     have hb256 := UInt8.toNat_lt s[k]
     have HBAD : Hid (letterB s[k].toNat = false → textB s = false) := Lib.hid (fun hb => by
       unfold textB
       have h1 := HS.out false hb
       have h2 : s.data.toList.all (fun c => letterB c.toNat) = false := by
         rw [List.all_eq_false] at h1 ⊢
         obtain ⟨c, hc, hn⟩ := h1
         exact ⟨c, List.mem_of_mem_take hc, hn⟩
       rw [h2]; rfl)
     clear hts
     have HGO : Hid (letterB s[k].toNat = true → (s.data.toList.take (k + 1)).all (fun c => letterB c.toNat) = true) := Lib.hid (fun hb => HS.out true hb)
     clear HS
     have hcs : (97 ≤ s[k].toNat ∧ s[k].toNat ≤ 122) ∨ (122 < s[k].toNat) ∨ (48 ≤ s[k].toNat ∧ s[k].toNat ≤ 57) ∨ (57 < s[k].toNat ∧ s[k].toNat < 97) ∨ (s[k].toNat = 46) ∨ (s[k].toNat = 45) ∨ (s[k].toNat < 48 ∧ s[k].toNat ≠ 46 ∧ s[k].toNat ≠ 45) := by omega
     rcases hcs with hcs | hcs | hcs | hcs | hcs | hcs | hcs
     · have t1 : (97 : Int) ≤ (s[k].toNat : Int) := by omega
       have t2 : (s[k].toNat : Int) ≤ 122 := by omega
       have t3 : (48 : Int) ≤ (s[k].toNat : Int) := by omega
       have t4 : ¬ (s[k].toNat : Int) ≤ 57 := by omega
       have HL : Hid (letterB s[k].toNat = true) := Lib.hid (by simp [letterB]; omega)
       clear hcs
       go_wp2
       go_roundw
       case rel => exact ⟨k + 1, by go_num, by omega, HGO.out HL.out, HM.out, HBX.out⟩
       case measure => simp [intOf]; omega
     · have t1 : (97 : Int) ≤ (s[k].toNat : Int) := by omega
       have t2 : ¬ (s[k].toNat : Int) ≤ 122 := by omega
       have t3 : (48 : Int) ≤ (s[k].toNat : Int) := by omega
       have t4 : ¬ (s[k].toNat : Int) ≤ 57 := by omega
       have t5 : ((s[k].toNat : Int) != 46) = true := by simp; omega
       have t6 : ((s[k].toNat : Int) != 45) = true := by simp; omega
       have HL : Hid (letterB s[k].toNat = false) := Lib.hid (by simp [letterB]; omega)
       clear hcs
       go_wp2
       go_ret
       exact ⟨ret_bool (HBAD.out HL.out).symm, HM.out⟩
     · have t1 : ¬ (97 : Int) ≤ (s[k].toNat : Int) := by omega
       have t3 : (48 : Int) ≤ (s[k].toNat : Int) := by omega
       have t4 : (s[k].toNat : Int) ≤ 57 := by omega
       have HL : Hid (letterB s[k].toNat = true) := Lib.hid (by simp [letterB]; omega)
       clear hcs
       go_wp2
       go_roundw
       case rel => exact ⟨k + 1, by go_num, by omega, HGO.out HL.out, HM.out, HBX.out⟩
       case measure => simp [intOf]; omega
     · have t1 : ¬ (97 : Int) ≤ (s[k].toNat : Int) := by omega
       have t3 : (48 : Int) ≤ (s[k].toNat : Int) := by omega
       have t4 : ¬ (s[k].toNat : Int) ≤ 57 := by omega
       have t5 : ((s[k].toNat : Int) != 46) = true := by simp; omega
       have t6 : ((s[k].toNat : Int) != 45) = true := by simp; omega
       have HL : Hid (letterB s[k].toNat = false) := Lib.hid (by simp [letterB]; omega)
       clear hcs
       go_wp2
       go_ret
       exact ⟨ret_bool (HBAD.out HL.out).symm, HM.out⟩
     · have t1 : ¬ (97 : Int) ≤ (s[k].toNat : Int) := by omega
       have t3 : ¬ (48 : Int) ≤ (s[k].toNat : Int) := by omega
       have t5 : ((s[k].toNat : Int) != 46) = false := by simp; omega
       have HL : Hid (letterB s[k].toNat = true) := Lib.hid (by simp [letterB]; omega)
       clear hcs
       go_wp2
       go_roundw
       case rel => exact ⟨k + 1, by go_num, by omega, HGO.out HL.out, HM.out, HBX.out⟩
       case measure => simp [intOf]; omega
     · have t1 : ¬ (97 : Int) ≤ (s[k].toNat : Int) := by omega
       have t3 : ¬ (48 : Int) ≤ (s[k].toNat : Int) := by omega
       have t5 : ((s[k].toNat : Int) != 46) = true := by simp; omega
       have t6 : ((s[k].toNat : Int) != 45) = false := by simp; omega
       have HL : Hid (letterB s[k].toNat = true) := Lib.hid (by simp [letterB]; omega)
       clear hcs
       go_wp2
       go_roundw
       case rel => exact ⟨k + 1, by go_num, by omega, HGO.out HL.out, HM.out, HBX.out⟩
       case measure => simp [intOf]; omega
     · have t1 : ¬ (97 : Int) ≤ (s[k].toNat : Int) := by omega
       have t3 : ¬ (48 : Int) ≤ (s[k].toNat : Int) := by omega
       have t5 : ((s[k].toNat : Int) != 46) = true := by simp; omega
       have t6 : ((s[k].toNat : Int) != 45) = true := by simp; omega
       have HL : Hid (letterB s[k].toNat = false) := Lib.hid (by simp [letterB]; omega)
       clear hcs
       go_wp2
       go_ret
       exact ⟨ret_bool (HBAD.out HL.out).symm, HM.out⟩
   · have HF : Hid (textB s = true) := Lib.hid (by
       unfold textB
       have h1 := HA.out
       rw [List.take_of_length_le (by simp; omega)] at h1
       rw [h1]
       simp
       omega)
     go_wp2
     go_ret
     exact ⟨ret_bool HF.out.symm, HM.out⟩
open Go.RowKit
theorem empty_size (s : ByteArray) : s.toList.isEmpty = decide (s.size = 0) := by
 rw [ByteArray.toList_eq]
 obtain ⟨⟨l⟩⟩ := s
 cases l <;> simp [ByteArray.size]
set_option maxRecDepth 100000 in
set_option maxHeartbeats 2000000 in
theorem form_any (v : Val) (hv : v.Fits) (w : World) : Calls Tryz.prog 93 #[v.v] w fun e w' => e = .returned (.bool v.ok) ∧ Mod (fun _ => False) w w' := by
 obtain ⟨k, n, s⟩ := v
 have hk := hv.k
 simp only at hk
 have hk0 : (0 : Int) ≤ (k : Int) := by omega
 have hk1 : (k : Int) < 256 := by omega
 show Calls _ _ #[.agg #[.int .u8 (k : Int), .int .i64 n, .string s]] w _
 by_cases h2 : k = 2
 · subst h2
   by_cases hn : n = 0
   · subst hn
     by_cases h8 : s.size ≤ 8
     · refine (form_text s h8 w).mono ?_
       rintro e w' ⟨rfl, hm⟩
       exact ⟨ret_bool (by simp [Val.ok]), hm⟩
     · have t8 : (8 : Int) < (s.size : Int) := by omega
       have HF : Hid (Val.ok ⟨2, 0, s⟩ = false) := Lib.hid (by simp [Val.ok, textB, h8])
       clear h8 hv
       go_enter Tryz.func93, Tryz.ntmps93
       go_wp2
       go_ret
       exact ⟨ret_bool HF.out.symm, (Mod.refl _ _).alloc _⟩
   · have n2 : (n != 0) = true := by simp [hn]
     have HF : Hid (Val.ok ⟨2, n, s⟩ = false) := Lib.hid (by simp [Val.ok, hn])
     clear hn hv
     go_enter Tryz.func93, Tryz.ntmps93
     go_wp2
     go_ret
     exact ⟨ret_bool HF.out.symm, (Mod.refl _ _).alloc _⟩
 · have k2 : ((k : Int) != 2) = true := by simp; omega
   by_cases h0 : k = 0
   · subst h0
     obtain ⟨eb, heb⟩ : ∃ eb, eb = s.toList.isEmpty := ⟨_, rfl⟩
     by_cases hn : n = 0
     · subst hn
       have HF : Hid (Val.ok ⟨0, 0, s⟩ = eb) := Lib.hid (by simp [Val.ok, heb])
       cases eb
       all_goals
         have es := heb.symm
         clear heb h2 hv
         go_enter Tryz.func93, Tryz.ntmps93
         go_wp2
         go_ret
         exact ⟨ret_bool (by rw [HF.out]), (Mod.refl _ _).alloc _⟩
     · have n1 : (n == 0) = false := by simp [hn]
       have HF : Hid (Val.ok ⟨0, n, s⟩ = false) := Lib.hid (by simp [Val.ok, hn])
       clear heb h2 hv
       go_enter Tryz.func93, Tryz.ntmps93
       go_wp2
       go_ret
       exact ⟨ret_bool HF.out.symm, (Mod.refl _ _).alloc _⟩
   · have k0 : ((k : Int) == 0) = false := by simp; omega
     by_cases h1 : k = 1
     · subst h1
       clear h2 h0 hv
       have HE : Hid (Val.ok ⟨1, n, s⟩ = decide (s.size = 0)) := Lib.hid (by simp [Val.ok, empty_size])
       by_cases hs0 : s.size = 0
       · have HF : Hid (Val.ok ⟨1, n, s⟩ = true) := Lib.hid (by rw [HE.out]; simp [hs0])
         have t0 : ((s.size : Int) == 0) = true := by simp [hs0]
         go_enter Tryz.func93, Tryz.ntmps93
         go_wp2
         go_ret
         exact ⟨ret_bool (by rw [HF.out]), (Mod.refl _ _).alloc _⟩
       · have HF : Hid (Val.ok ⟨1, n, s⟩ = false) := Lib.hid (by rw [HE.out]; simp [hs0])
         have t0 : ((s.size : Int) == 0) = false := by simp [hs0]
         go_enter Tryz.func93, Tryz.ntmps93
         go_wp2
         go_ret
         exact ⟨ret_bool (by rw [HF.out]), (Mod.refl _ _).alloc _⟩
     · have k1 : ((k : Int) == 1) = false := by simp; omega
       have HF : Hid (Val.ok ⟨k, n, s⟩ = false) := Lib.hid (by simp [Val.ok, h0, h1, h2])
       clear hv h0 h1 h2
       go_enter Tryz.func93, Tryz.ntmps93
       go_wp2
       go_ret
       exact ⟨ret_bool HF.out.symm, (Mod.refl _ _).alloc _⟩
open Go.ChangeShapes Go.WideShapes Go.ChangeAt Go.RowKit
section
variable {H : Type}
variable {enc : TypeId × Value → H} {W : World}
end
open Go.ChangeShapes Go.WideShapes Go.ChangeAt Go.RowKit
section
variable {H : Type} {enc : TypeId × Value → H} {W : World}
theorem flat_one {α : Type} (f : α → Value) (l : List α) : (l.flatMap fun x => [f x]) = l.map f := by
 induction l with
 | nil => rfl
 | cons x r ih => rw [List.flatMap_cons, ih]; rfl
variable {base : Nat} {v : Value} {d : DataW H} {p : List MemPlace}
end
open Go.RowKit
open Go.RowKit
set_option maxRecDepth 100000 in
set_option maxHeartbeats 4000000 in
theorem op_1 (kind a b key vk : Nat) (vn : Int) (vs : ByteArray) (w : World) (hv : Val.Fits ⟨vk, vn, vs⟩) (hkey : key < 256) (hb : b < 4294967296) (hkd : kind = 1 ∨ kind = 2 ∨ kind = 8) :
   Calls Tryz.prog 71 #[.agg #[.int .u8 (kind : Int), .int .u32 (a : Int), .int .u32 (b : Int), .int .u8 (key : Int), .int .u8 (vk : Int), .int .i64 vn, .string vs]] w fun e w' => e = .returned (.bool (opOK ⟨kind, a, b, key, ⟨vk, vn, vs⟩⟩)) ∧ Mod (fun _ => False) w w' := by
 rcases hkd with rfl | rfl | rfl
 all_goals
   go_enter Tryz.func71, Tryz.ntmps71
   go_wp2_with (first
     | (go_at_call 72; refine (num_any _ _).mono ?_; (rintro e w1 ⟨rfl, rfl⟩)))
   all_goals
     go_ret
     refine ⟨ret_bool ?_, (Mod.refl _ _).alloc _⟩
     simp_all [opOK, Opr.two, Opr.hasKey, Opr.hasVal, noVal_iff]
set_option maxRecDepth 100000 in
set_option maxHeartbeats 4000000 in
theorem op_2 (kind a b key vk : Nat) (vn : Int) (vs : ByteArray) (w : World) (hv : Val.Fits ⟨vk, vn, vs⟩) (hkey : key < 256) (hb : b < 4294967296) (hkd : kind = 4 ∨ kind = 6 ∨ kind = 7) :
   Calls Tryz.prog 71 #[.agg #[.int .u8 (kind : Int), .int .u32 (a : Int), .int .u32 (b : Int), .int .u8 (key : Int), .int .u8 (vk : Int), .int .i64 vn, .string vs]] w fun e w' => e = .returned (.bool (opOK ⟨kind, a, b, key, ⟨vk, vn, vs⟩⟩)) ∧ Mod (fun _ => False) w w' := by
 by_cases hab : b = a
 · subst hab
   rcases hkd with rfl | rfl | rfl
   all_goals
     go_enter Tryz.func71, Tryz.ntmps71
     go_wp2_with (first
       | (go_at_call 72; refine (num_any _ _).mono ?_; (rintro e w1 ⟨rfl, rfl⟩)))
     all_goals
       go_ret
       refine ⟨ret_bool ?_, (Mod.refl _ _).alloc _⟩
       simp_all [opOK, Opr.two, Opr.hasKey, Opr.hasVal, noVal_iff]
       try omega
 · have hab' : ((b : Int) == (a : Int)) = false := by simp; omega
   rcases hkd with rfl | rfl | rfl
   all_goals
     go_enter Tryz.func71, Tryz.ntmps71
     go_wp2_with (first
       | (go_at_call 72; refine (num_any _ _).mono ?_; (rintro e w1 ⟨rfl, rfl⟩)))
     all_goals
       go_ret
       refine ⟨ret_bool ?_, (Mod.refl _ _).alloc _⟩
       simp_all [opOK, Opr.two, Opr.hasKey, Opr.hasVal, noVal_iff]
       try omega
theorem form_call (vk : Nat) (vn : Int) (vs : ByteArray) (hv : Val.Fits ⟨vk, vn, vs⟩) (w : World) : Calls Tryz.prog 93 #[.agg #[.int .u8 (vk : Int), .int .i64 vn, .string vs]] w fun e w' => e = .returned (.bool (Val.ok ⟨vk, vn, vs⟩)) ∧ Mod (fun _ => False) w w' := form_any ⟨vk, vn, vs⟩ hv w
set_option maxRecDepth 100000 in
set_option maxHeartbeats 4000000 in
theorem op_3 (kind a b key vk : Nat) (vn : Int) (vs : ByteArray) (w : World) (hv : Val.Fits ⟨vk, vn, vs⟩) (hkey : key < 256) (hb : b < 4294967296) (hkd : kind = 3 ∨ kind = 5 ∨ kind = 9) :
   Calls Tryz.prog 71 #[.agg #[.int .u8 (kind : Int), .int .u32 (a : Int), .int .u32 (b : Int), .int .u8 (key : Int), .int .u8 (vk : Int), .int .i64 vn, .string vs]] w fun e w' => e = .returned (.bool (opOK ⟨kind, a, b, key, ⟨vk, vn, vs⟩⟩)) ∧ Mod (fun _ => False) w w' := by
 have HFM := Lib.hid (form_call vk vn vs hv)
 obtain ⟨vok, hvok⟩ : ∃ vok, vok = Val.ok ⟨vk, vn, vs⟩ := ⟨_, rfl⟩
 rw [← hvok] at HFM
 have hm : ∀ (w w' : World) (o : Obj), Mod (fun _ => False) (w.alloc o) w' → Mod (fun _ => False) w w' := fun w w' o m => ((Mod.refl _ _).alloc _).trans m
 have HMM := Lib.hid hm
 clear hm
 by_cases hab : b = a
 · subst hab
   rcases hkd with rfl | rfl | rfl
   all_goals
     go_enter Tryz.func71, Tryz.ntmps71
     go_wp2_with (first
       | (go_at_call 72; refine (num_any _ _).mono ?_; (rintro e w1 ⟨rfl, rfl⟩))
       | (go_at_call 93; refine (HFM.out _).mono ?_; (rintro e w1 ⟨rfl, hm1⟩); have HM1 := Lib.hid (HMM.out _ _ _ hm1); clear hm1))
     all_goals
       go_ret
       refine ⟨ret_bool ?_, by first | exact HM1.out | exact (Mod.refl _ _).alloc _⟩
       simp_all [opOK, Opr.two, Opr.hasKey, Opr.hasVal, noVal_iff]
       try omega
 · have hab' : ((b : Int) == (a : Int)) = false := by simp; omega
   rcases hkd with rfl | rfl | rfl
   all_goals
     go_enter Tryz.func71, Tryz.ntmps71
     go_wp2_with (first
       | (go_at_call 72; refine (num_any _ _).mono ?_; (rintro e w1 ⟨rfl, rfl⟩))
       | (go_at_call 93; refine (HFM.out _).mono ?_; (rintro e w1 ⟨rfl, hm1⟩); have HM1 := Lib.hid (HMM.out _ _ _ hm1); clear hm1))
     all_goals
       go_ret
       refine ⟨ret_bool ?_, by first | exact HM1.out | exact (Mod.refl _ _).alloc _⟩
       simp_all [opOK, Opr.two, Opr.hasKey, Opr.hasVal, noVal_iff]
       try omega
set_option maxRecDepth 100000 in
set_option maxHeartbeats 4000000 in
theorem op_0 (kind a b key vk : Nat) (vn : Int) (vs : ByteArray) (w : World) (hk : kind < 1 ∨ 9 < kind) :
   Calls Tryz.prog 71 #[.agg #[.int .u8 (kind : Int), .int .u32 (a : Int), .int .u32 (b : Int), .int .u8 (key : Int), .int .u8 (vk : Int), .int .i64 vn, .string vs]] w fun e w' => e = .returned (.bool (opOK ⟨kind, a, b, key, ⟨vk, vn, vs⟩⟩)) ∧ Mod (fun _ => False) w w' := by
 have HF : Hid (opOK ⟨kind, a, b, key, ⟨vk, vn, vs⟩⟩ = false) := Lib.hid (by
   unfold opOK
   rcases hk with h | h
   · have : ¬ 1 ≤ kind := by omega
     simp [this]
   · have : ¬ kind ≤ 9 := by omega
     simp [this])
 have k3 : ((kind : Int) == 3) = false := by simp; omega
 have k4 : ((kind : Int) == 4) = false := by simp; omega
 have k5 : ((kind : Int) == 5) = false := by simp; omega
 have k6 : ((kind : Int) == 6) = false := by simp; omega
 have k7 : ((kind : Int) == 7) = false := by simp; omega
 have k9 : ((kind : Int) == 9) = false := by simp; omega
 rcases hk with h | h
 · obtain rfl : kind = 0 := by omega
   clear k3 k4 k5 k6 k7 k9 h
   go_enter Tryz.func71, Tryz.ntmps71
   go_wp2
   go_ret
   exact ⟨ret_bool HF.out.symm, (Mod.refl _ _).alloc _⟩
 · have h1 : ¬ (kind : Int) < 1 := by omega
   have h9 : (9 : Int) < (kind : Int) := by omega
   clear h
   go_enter Tryz.func71, Tryz.ntmps71
   go_wp2
   go_ret
   exact ⟨ret_bool HF.out.symm, (Mod.refl _ _).alloc _⟩
theorem opd_any (o : Opr) (ho : o.Fits) (w : World) : Calls Tryz.prog 71 #[o.v] w fun e w' => e = .returned (.bool (opOK o)) ∧ Mod (fun _ => False) w w' := by
 obtain ⟨kind, a, b, key, ⟨vk, vn, vs⟩⟩ := o
 by_cases h0 : kind < 1 ∨ 9 < kind
 · exact op_0 kind a b key vk vn vs w h0
 · by_cases h1 : kind = 1 ∨ kind = 2 ∨ kind = 8
   · exact op_1 kind a b key vk vn vs w ho.val ho.key ho.b h1
   · by_cases h2 : kind = 4 ∨ kind = 6 ∨ kind = 7
     · exact op_2 kind a b key vk vn vs w ho.val ho.key ho.b h2
     · exact op_3 kind a b key vk vn vs w ho.val ho.key ho.b (by omega)
open Go.RowKit
theorem op_call (kind a b key vk : Nat) (vn : Int) (vs : ByteArray) (ho : Opr.Fits ⟨kind, a, b, key, ⟨vk, vn, vs⟩⟩) (w : World) : Calls Tryz.prog 71 #[.agg #[.int .u8 (kind : Int), .int .u32 (a : Int), .int .u32 (b : Int), .int .u8 (key : Int), .int .u8 (vk : Int), .int .i64 vn, .string vs]] w fun e w' => e = .returned (.bool (opOK ⟨kind, a, b, key, ⟨vk, vn, vs⟩⟩)) ∧ Mod (fun _ => False) w w' := opd_any ⟨kind, a, b, key, ⟨vk, vn, vs⟩⟩ ho w
set_option maxRecDepth 100000 in
set_option maxHeartbeats 4000000 in
theorem dcheck_1 (ops : List Opr) (v : Nat) (k d : Int) (vo : Value) (w : World) (ho : ORd w vo ops) :
   Calls Tryz.prog 44 #[.agg #[.int .u8 1, vo, .int .u32 (v : Int), .int .i64 k, .int .i64 d]] w fun e w' => e = .returned (.int .i64 (checkR ⟨1, ops, v, k, d⟩ : Nat)) ∧ Mod (fun _ => False) w w' := by
 rw [checkR_1]
 have HV := Lib.hid ho
 obtain ⟨a, c, rfl, hc1, hc2, -⟩ := ho.row.shape
 obtain ⟨n, hn⟩ : ∃ n, n = ops.length := ⟨_, rfl⟩
 have HN := Lib.hid hn
 rw [← hn] at HV hc1 ⊢
 clear hn ho
 have hcode : ∀ z : Nat, checkT n (ops.all opOK) v k d = z → ∀ e, e = Ending.returned (.int .i64 (z : Int)) → e = .returned (.int .i64 (checkT n (ops.all opOK) v k d : Nat)) := fun z h e he => by rw [h]; exact he
 have HC := Lib.hid hcode
 clear hcode
 have hbx := Lib.hid (heap_alloc_new' w (.cells #[.int .u8 1, .slice a n c, .int .u32 (v : Int), .int .i64 k, .int .i64 d] 29))
 by_cases hl : n < 1 ∨ 6 < n
 · have HR : Hid (checkT n (ops.all opOK) v k d = 2) := Lib.hid (by unfold checkT; rw [if_pos hl])
   rcases hl with hl | hl
   · obtain rfl : n = 0 := by omega
     go_enter Tryz.func44, Tryz.ntmps44
     go_wp2
     go_ret
     exact ⟨HC.out _ HR.out _ rfl, (Mod.refl _ _).alloc _⟩
   · have h6 : (6 : Int) < (n : Int) := by omega
     have h1 : ¬ (n : Int) < 1 := by omega
     go_enter Tryz.func44, Tryz.ntmps44
     go_wp2
     go_ret
     exact ⟨HC.out _ HR.out _ rfl, (Mod.refl _ _).alloc _⟩
 · have h6 : ¬ (6 : Int) < (n : Int) := by omega
   have h1 : ¬ (n : Int) < 1 := by omega
   have HNL := Lib.hid hl
   clear hl
   go_enter Tryz.func44, Tryz.ntmps44
   go_wp2
   go_loopw [67] (fun i wr => ∃ j : Nat, i = .int .i64 j ∧ j ≤ n ∧ (ops.take j).all opOK = true ∧ Mod (fun _ => False) (w.alloc (.cells #[.int .u8 1, .slice a n c, .int .u32 (v : Int), .int .i64 k, .int .i64 d] 29)) wr) (fun i _ => n - (intOf i).toNat)
   case atStart => exact ⟨0, rfl, Nat.zero_le _, by simp, Mod.refl _ _⟩
   case round =>
     obtain ⟨j, rfl, hj, hall, hm⟩ := hrel
     have HALL := Lib.hid hall
     have HM0 := Lib.hid hm
     have HM : Hid (Mod (fun _ => False) w wr) := Lib.hid (((Mod.refl _ _).alloc _).trans hm)
     have hb := hm.heap hbx.out (fun f => f)
     have b2 := cell_of_row hb 2
     have b3 := cell_of_row hb 3
     have b4 := cell_of_row hb 4
     simp at b2 b3 b4
     clear hall hm hb
     by_cases hjn : j < n
     · obtain ⟨x, hx⟩ : ∃ x, ops[j]? = some x := ⟨_, List.getElem?_eq_getElem (by rw [← HN.out]; exact hjn)⟩
       obtain ⟨bl, offl, e0, hbl, r0, r1, r2, r3, r4, r5, r6⟩ := HV.out.ent hx rfl
       have r0 := HM.out.cell r0
       have r1 := HM.out.cell r1
       have r2 := HM.out.cell r2
       have r3 := HM.out.cell r3
       have r4 := HM.out.cell r4
       have r5 := HM.out.cell r5
       have r6 := HM.out.cell r6
       have zbl : bl < wr.heap.size := Nat.lt_of_lt_of_le hbl HM.out.size
       have HTK := Lib.hid (take_snoc hx)
       have HFO := Lib.hid (HV.out.fits x (List.mem_of_getElem? hx))
       have HMEM := Lib.hid (List.mem_of_getElem? hx)
       clear hx hbl
       obtain ⟨kind, oa, ob, okey, ⟨vk, vn, vs⟩⟩ := x
       simp only at r0 r1 r2 r3 r4 r5 r6
       subst e0
       obtain ⟨bo, hbo⟩ : ∃ bo, opOK ⟨kind, oa, ob, okey, ⟨vk, vn, vs⟩⟩ = bo := ⟨_, rfl⟩
       have HBO := Lib.hid hbo
       have HOP := Lib.hid (op_call kind oa ob okey vk vn vs HFO.out)
       rw [hbo] at HOP
       clear hbo
       cases bo with
       | true =>
         go_wp2_with (go_at_call 71; refine (HOP.out _).mono ?_; (rintro e w1 ⟨rfl, hm1⟩); have HM1 := Lib.hid (((Mod.refl (fun _ => False) wr).alloc _).trans hm1); clear hm1)
         go_roundw
         case rel => exact ⟨j + 1, by go_num, by omega, by rw [HTK.out, List.all_append, HALL.out]; simp [HBO.out], HM0.out.trans HM1.out⟩
         case measure => simp [intOf]; omega
       | false =>
         have HR : Hid (checkT n (ops.all opOK) v k d = 3) := Lib.hid (by
           have : ops.all opOK = false := by
             rw [List.all_eq_false]
             exact ⟨_, HMEM.out, by rw [HBO.out]; simp⟩
           unfold checkT; rw [if_neg HNL.out, if_pos this])
         go_wp2_with (go_at_call 71; refine (HOP.out _).mono ?_; (rintro e w1 ⟨rfl, hm1⟩); have HM1 := Lib.hid (((Mod.refl (fun _ => False) wr).alloc _).trans hm1); clear hm1)
         go_ret
         exact ⟨HC.out _ HR.out _ rfl, HM.out.trans HM1.out⟩
     · have HALT : Hid (ops.all opOK = true) := Lib.hid (by
         have h := HALL.out
         rwa [List.take_of_length_le (by have := HN.out; omega)] at h)
       have HCT : Hid (checkT n (ops.all opOK) v k d = if v ≠ 0 ∨ k ≠ 0 ∨ d ≠ 0 then 3 else 0) := Lib.hid (by unfold checkT; rw [if_neg HNL.out, HALT.out]; simp)
       by_cases hz : v ≠ 0 ∨ k ≠ 0 ∨ d ≠ 0
       · have HR : Hid (checkT n (ops.all opOK) v k d = 3) := Lib.hid (by rw [HCT.out, if_pos hz])
         by_cases hv : v = 0
         · subst hv
           by_cases hk : k = 0
           · subst hk
             have hd : (d != 0) = true := by simp at hz; simp [hz]
             clear hz
             go_wp2
             go_ret
             exact ⟨HC.out _ HR.out _ rfl, HM.out⟩
           · have hk : (k != 0) = true := by simp [hk]
             clear hz
             go_wp2
             go_ret
             exact ⟨HC.out _ HR.out _ rfl, HM.out⟩
         · have hk : ((v : Int) != 0) = true := by simp [hv]
           clear hz
           go_wp2
           go_ret
           exact ⟨HC.out _ HR.out _ rfl, HM.out⟩
       · have HR : Hid (checkT n (ops.all opOK) v k d = 0) := Lib.hid (by rw [HCT.out, if_neg hz])
         obtain rfl : v = 0 := by simp at hz; exact hz.1
         obtain rfl : k = 0 := by simp at hz; exact hz.1
         obtain rfl : d = 0 := by simpa using hz
         clear hz
         go_wp2
         go_ret
         exact ⟨HC.out _ HR.out _ rfl, HM.out⟩
set_option maxRecDepth 100000 in
set_option maxHeartbeats 4000000 in
theorem dcheck_2 (n v : Nat) (k d : Int) (a : Option Addr) (c : Nat) (w : World) :
   Calls Tryz.prog 44 #[.agg #[.int .u8 2, .slice a n c, .int .u32 (v : Int), .int .i64 k, .int .i64 d]] w fun e w' => e = .returned (.int .i64 (checkO n v k d 8 : Nat)) ∧ Mod (fun _ => False) w w' := by
 have hcode : ∀ z : Nat, checkO n v k d 8 = z → ∀ e, e = Ending.returned (.int .i64 (z : Int)) → e = .returned (.int .i64 (checkO n v k d 8 : Nat)) := fun z h e he => by rw [h]; exact he
 have HC := Lib.hid hcode
 clear hcode
 by_cases hx : k < 0 ∨ 8 < k
 · have HR : Hid (checkO n v k d 8 = 1) := Lib.hid (by unfold checkO; rw [if_pos hx])
   rcases hx with hx | hx
   · go_enter Tryz.func44, Tryz.ntmps44
     go_wp2
     go_ret
     exact ⟨HC.out _ HR.out _ rfl, (Mod.refl _ _).alloc _⟩
   · have h0 : ¬ k < 0 := by omega
     go_enter Tryz.func44, Tryz.ntmps44
     go_wp2
     go_ret
     exact ⟨HC.out _ HR.out _ rfl, (Mod.refl _ _).alloc _⟩
 · have h0 : ¬ k < 0 := by omega
   have h8 : ¬ 8 < k := by omega
   have HU : Hid (checkO n v k d 8 = if 0 < n ∨ numB v = false ∨ d ≠ 0 then 3 else 0) := Lib.hid (by unfold checkO; rw [if_neg hx])
   clear hx
   by_cases hn : 0 < n
   · have HR : Hid (checkO n v k d 8 = 3) := Lib.hid (by rw [HU.out, if_pos (.inl hn)])
     have hn' : (0 : Int) < (n : Int) := by omega
     go_enter Tryz.func44, Tryz.ntmps44
     go_wp2
     go_ret
     exact ⟨HC.out _ HR.out _ rfl, (Mod.refl _ _).alloc _⟩
   · obtain rfl : n = 0 := by omega
     obtain ⟨bv, hbv⟩ : ∃ bv, numB v = bv := ⟨_, rfl⟩
     have HNU := Lib.hid (num_any v)
     rw [hbv] at HNU
     by_cases hd : d = 0
     · subst hd
       cases bv with
       | true =>
         have HR : Hid (checkO 0 v k 0 8 = 0) := Lib.hid (by rw [HU.out, hbv]; simp)
         clear hn hbv
         go_enter Tryz.func44, Tryz.ntmps44
         go_wp2_with (go_at_call 72; refine (HNU.out _).mono ?_; (rintro e w1 ⟨rfl, rfl⟩))
         go_ret
         exact ⟨HC.out _ HR.out _ rfl, (Mod.refl _ _).alloc _⟩
       | false =>
         have HR : Hid (checkO 0 v k 0 8 = 3) := Lib.hid (by rw [HU.out, hbv]; simp)
         clear hn hbv
         go_enter Tryz.func44, Tryz.ntmps44
         go_wp2_with (go_at_call 72; refine (HNU.out _).mono ?_; (rintro e w1 ⟨rfl, rfl⟩))
         go_ret
         exact ⟨HC.out _ HR.out _ rfl, (Mod.refl _ _).alloc _⟩
     · have HR : Hid (checkO 0 v k d 8 = 3) := Lib.hid (by rw [HU.out, if_pos (.inr (.inr hd))])
       have hd' : (d != 0) = true := by simp [hd]
       clear hn hbv hd
       cases bv
       all_goals
         go_enter Tryz.func44, Tryz.ntmps44
         go_wp2_with (go_at_call 72; refine (HNU.out _).mono ?_; (rintro e w1 ⟨rfl, rfl⟩))
         go_ret
         exact ⟨HC.out _ HR.out _ rfl, (Mod.refl _ _).alloc _⟩
set_option maxRecDepth 100000 in
set_option maxHeartbeats 4000000 in
theorem dcheck_3 (n v : Nat) (k d : Int) (a : Option Addr) (c : Nat) (w : World) :
   Calls Tryz.prog 44 #[.agg #[.int .u8 3, .slice a n c, .int .u32 (v : Int), .int .i64 k, .int .i64 d]] w fun e w' => e = .returned (.int .i64 (checkO n v d k 3 : Nat)) ∧ Mod (fun _ => False) w w' := by
 have hcode : ∀ z : Nat, checkO n v d k 3 = z → ∀ e, e = Ending.returned (.int .i64 (z : Int)) → e = .returned (.int .i64 (checkO n v d k 3 : Nat)) := fun z h e he => by rw [h]; exact he
 have HC := Lib.hid hcode
 clear hcode
 by_cases hx : d < 0 ∨ 3 < d
 · have HR : Hid (checkO n v d k 3 = 1) := Lib.hid (by unfold checkO; rw [if_pos hx])
   rcases hx with hx | hx
   · go_enter Tryz.func44, Tryz.ntmps44
     go_wp2
     go_ret
     exact ⟨HC.out _ HR.out _ rfl, (Mod.refl _ _).alloc _⟩
   · have h0 : ¬ d < 0 := by omega
     go_enter Tryz.func44, Tryz.ntmps44
     go_wp2
     go_ret
     exact ⟨HC.out _ HR.out _ rfl, (Mod.refl _ _).alloc _⟩
 · have h0 : ¬ d < 0 := by omega
   have h8 : ¬ 3 < d := by omega
   have HU : Hid (checkO n v d k 3 = if 0 < n ∨ numB v = false ∨ k ≠ 0 then 3 else 0) := Lib.hid (by unfold checkO; rw [if_neg hx])
   clear hx
   by_cases hn : 0 < n
   · have HR : Hid (checkO n v d k 3 = 3) := Lib.hid (by rw [HU.out, if_pos (.inl hn)])
     have hn' : (0 : Int) < (n : Int) := by omega
     go_enter Tryz.func44, Tryz.ntmps44
     go_wp2
     go_ret
     exact ⟨HC.out _ HR.out _ rfl, (Mod.refl _ _).alloc _⟩
   · obtain rfl : n = 0 := by omega
     obtain ⟨bv, hbv⟩ : ∃ bv, numB v = bv := ⟨_, rfl⟩
     have HNU := Lib.hid (num_any v)
     rw [hbv] at HNU
     by_cases hd : k = 0
     · subst hd
       cases bv with
       | true =>
         have HR : Hid (checkO 0 v d 0 3 = 0) := Lib.hid (by rw [HU.out, hbv]; simp)
         clear hn hbv
         go_enter Tryz.func44, Tryz.ntmps44
         go_wp2_with (go_at_call 72; refine (HNU.out _).mono ?_; (rintro e w1 ⟨rfl, rfl⟩))
         go_ret
         exact ⟨HC.out _ HR.out _ rfl, (Mod.refl _ _).alloc _⟩
       | false =>
         have HR : Hid (checkO 0 v d 0 3 = 3) := Lib.hid (by rw [HU.out, hbv]; simp)
         clear hn hbv
         go_enter Tryz.func44, Tryz.ntmps44
         go_wp2_with (go_at_call 72; refine (HNU.out _).mono ?_; (rintro e w1 ⟨rfl, rfl⟩))
         go_ret
         exact ⟨HC.out _ HR.out _ rfl, (Mod.refl _ _).alloc _⟩
     · have HR : Hid (checkO 0 v d k 3 = 3) := Lib.hid (by rw [HU.out, if_pos (.inr (.inr hd))])
       have hd' : (k != 0) = true := by simp [hd]
       clear hn hbv hd
       cases bv
       all_goals
         go_enter Tryz.func44, Tryz.ntmps44
         go_wp2_with (go_at_call 72; refine (HNU.out _).mono ?_; (rintro e w1 ⟨rfl, rfl⟩))
         go_ret
         exact ⟨HC.out _ HR.out _ rfl, (Mod.refl _ _).alloc _⟩
set_option maxRecDepth 100000 in
set_option maxHeartbeats 4000000 in
theorem dcheck_0 (kind n v : Nat) (k d : Int) (a : Option Addr) (c : Nat) (w : World) (hk : kind < 1 ∨ 3 < kind) :
   Calls Tryz.prog 44 #[.agg #[.int .u8 (kind : Int), .slice a n c, .int .u32 (v : Int), .int .i64 k, .int .i64 d]] w fun e w' => e = .returned (.int .i64 1) ∧ Mod (fun _ => False) w w' := by
 rcases hk with h | h
 · obtain rfl : kind = 0 := by omega
   clear h
   go_enter Tryz.func44, Tryz.ntmps44
   go_wp2
   go_ret
   exact ⟨rfl, (Mod.refl _ _).alloc _⟩
 · have h1 : ¬ (kind : Int) < 1 := by omega
   have h9 : (3 : Int) < (kind : Int) := by omega
   clear h
   go_enter Tryz.func44, Tryz.ntmps44
   go_wp2
   go_ret
   exact ⟨rfl, (Mod.refl _ _).alloc _⟩
theorem dcheck_any (r : Rqt) (vo : Value) (w : World) (ho : ORd w vo r.ops) : Calls Tryz.prog 44 #[rqV r vo] w fun e w' => e = .returned (.int .i64 (checkR r : Nat)) ∧ Mod (fun _ => False) w w' := by
 obtain ⟨kind, ops, v, k, d⟩ := r
 obtain ⟨a, c, rfl, -⟩ := ho.row.shape
 simp only at ho ⊢
 by_cases h0 : kind < 1 ∨ 3 < kind
 · have e : checkR ⟨kind, ops, v, k, d⟩ = 1 := by unfold checkR; rw [if_pos (by rcases h0 with h | h; exact .inl h; exact .inr (.inl h))]
   rw [e]
   exact dcheck_0 kind _ v k d a c w h0
 · by_cases h1 : kind = 1
   · subst h1; exact dcheck_1 ops v k d _ w ho
   · by_cases h2 : kind = 2
     · subst h2; rw [checkR_2]; exact dcheck_2 _ v k d a c w
     · obtain rfl : kind = 3 := by omega
       rw [checkR_3]; exact dcheck_3 _ v k d a c w
open Go.RowKit
end Go.Proofs.YtlpdifinkcjckaaGreatDoor
