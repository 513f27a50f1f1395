import Derived.Test.YtpigipgoopeeoaaGreatDoorMOn27
set_option linter.unusedVariables false
set_option linter.unusedSimpArgs false
namespace Go.Proofs.YtpigipgoopeeoaaGreatDoor
open Go.RowKit
set_option maxRecDepth 100000 in
set_option maxHeartbeats 4000000 in
theorem formed_0 (kind a b key vk : Nat) (vn : Int) (vs : ByteArray) (w : World) (hk : kind < 1 ∨ 9 < kind) :
   Calls Tryz.prog 84 #[.agg #[.int .u8 (kind : Int), .int .u32 (a : Int), .int .u32 (b : Int), .int .u8 (key : Int), .int .u8 (vk : Int), .int .i64 vn, .string vs]] w fun e w' => e = .returned (.bool (opOK ⟨kind, a, b, key, ⟨vk, vn, vs⟩⟩)) ∧ Mod (fun _ => False) w w' := by
 have HF : Hid (opOK ⟨kind, a, b, key, ⟨vk, vn, vs⟩⟩ = false) := Lib.hid (by
   unfold opOK
   rcases hk with h | h
   · have : ¬ 1 ≤ kind := by omega
     simp [this]
   · have : ¬ kind ≤ 9 := by omega
     simp [this])
 have HU := Lib.hid (uses_K kind kind rfl false false false false (by
   unfold twoK keyK valK kindK
   refine ⟨?_, ?_, ?_, ?_⟩ <;> simp <;> omega))
 clear hk
 go_enter Tryz.func84, Tryz.ntmps84
 go_wp2_with (go_at_call 96; refine (HU.out _).mono ?_; (rintro e w1 ⟨rfl, rfl⟩))
 go_ret
 exact ⟨ret_bool HF.out.symm, (Mod.refl _ _).alloc _⟩
theorem formed_any (o : Opr) (ho : o.Fits) (w : World) : Calls Tryz.prog 84 #[o.v] w fun e w' => e = .returned (.bool (opOK o)) ∧ Mod (fun _ => False) w w' := by
 obtain ⟨kind, a, b, key, ⟨vk, vn, vs⟩⟩ := o
 by_cases h0 : kind < 1 ∨ 9 < kind
 · exact formed_0 kind a b key vk vn vs w h0
 · have hk : kind = 1 ∨ kind = 2 ∨ kind = 3 ∨ kind = 4 ∨ kind = 5 ∨ kind = 6 ∨ kind = 7 ∨ kind = 8 ∨ kind = 9 := by omega
   rcases hk with rfl | rfl | rfl | rfl | rfl | rfl | rfl | rfl | rfl
   · exact formed_1 a b key vk vn vs w ho.val
   · exact formed_2 a b key vk vn vs w ho.val
   · exact formed_3 a b key vk vn vs w ho.val
   · exact formed_4 a b key vk vn vs w ho.val
   · exact formed_5 a b key vk vn vs w ho.val
   · exact formed_6 a b key vk vn vs w ho.val
   · exact formed_7 a b key vk vn vs w ho.val
   · exact formed_8 a b key vk vn vs w ho.val
   · exact formed_9 a b key vk vn vs w ho.val
theorem fop_call (kind a b key vk : Nat) (vn : Int) (vs : ByteArray) (ho : Opr.Fits ⟨kind, a, b, key, ⟨vk, vn, vs⟩⟩) (w : World) : Calls Tryz.prog 84 #[.agg #[.int .u8 (kind : Int), .int .u32 (a : Int), .int .u32 (b : Int), .int .u8 (key : Int), .int .u8 (vk : Int), .int .i64 vn, .string vs]] w fun e w' => e = .returned (.bool (opOK ⟨kind, a, b, key, ⟨vk, vn, vs⟩⟩)) ∧ Mod (fun _ => False) w w' := formed_any ⟨kind, a, b, key, ⟨vk, vn, vs⟩⟩ ho w
set_option maxRecDepth 100000 in
set_option maxHeartbeats 4000000 in
theorem all_any (ops : List Opr) (vo : Value) (w : World) (ho : ORd w vo ops) :
   Calls Tryz.prog 69 #[vo] w fun e w' => e = .returned (.bool (ops.all opOK)) ∧ Mod (fun _ => False) w w' := by
 have HV := Lib.hid ho
 obtain ⟨a, c, rfl, hc1, hc2, -⟩ := ho.row.shape
 obtain ⟨n, hn⟩ : ∃ n, n = ops.length := ⟨_, rfl⟩
 have HN := Lib.hid hn
 rw [← hn] at HV hc1 ⊢
 clear hn ho
 go_enter Tryz.func69, Tryz.ntmps69
 go_wp2
 go_loopw [7] (fun i wr => ∃ j : Nat, i = .int .i64 j ∧ j ≤ n ∧ (ops.take j).all opOK = true ∧ Mod (fun _ => False) w wr) (fun i _ => n - (intOf i).toNat)
 case atStart => exact ⟨0, rfl, Nat.zero_le _, by simp, Mod.refl _ _⟩
 case round =>
   obtain ⟨j, rfl, hj, hall, hm⟩ := hrel
   have HALL := Lib.hid hall
   have HM := Lib.hid hm
   clear hall hm
   by_cases hjn : j < n
   · obtain ⟨x, hx⟩ : ∃ x, ops[j]? = some x := ⟨_, List.getElem?_eq_getElem (by rw [← HN.out]; exact hjn)⟩
     obtain ⟨bl, offl, e0, hbl, r0, r1, r2, r3, r4, r5, r6⟩ := HV.out.ent hx rfl
     have r0 := HM.out.cell r0
     have r1 := HM.out.cell r1
     have r2 := HM.out.cell r2
     have r3 := HM.out.cell r3
     have r4 := HM.out.cell r4
     have r5 := HM.out.cell r5
     have r6 := HM.out.cell r6
     have zbl : bl < wr.heap.size := Nat.lt_of_lt_of_le hbl HM.out.size
     have HTK := Lib.hid (take_snoc hx)
     have HFO := Lib.hid (HV.out.fits x (List.mem_of_getElem? hx))
     have HMEM := Lib.hid (List.mem_of_getElem? hx)
     clear hx hbl
     obtain ⟨kind, oa, ob, okey, ⟨vk, vn, vs⟩⟩ := x
     simp only at r0 r1 r2 r3 r4 r5 r6
     subst e0
     obtain ⟨bo, hbo⟩ : ∃ bo, opOK ⟨kind, oa, ob, okey, ⟨vk, vn, vs⟩⟩ = bo := ⟨_, rfl⟩
     have HBO := Lib.hid hbo
     have HOP := Lib.hid (fop_call kind oa ob okey vk vn vs HFO.out)
     rw [hbo] at HOP
     clear hbo
     cases bo with
     | true =>
       go_wp2_with (go_at_call 84; refine (HOP.out _).mono ?_; (rintro e w1 ⟨rfl, hm1⟩); have HM1 := Lib.hid (((Mod.refl (fun _ => False) wr).alloc _).trans hm1); clear hm1)
       go_roundw
       case rel => exact ⟨j + 1, by go_num, by omega, by rw [HTK.out, List.all_append, HALL.out]; simp [HBO.out], HM.out.trans HM1.out⟩
       case measure => simp [intOf]; omega
     | false =>
       have HR : Hid (ops.all opOK = false) := Lib.hid (by
         rw [List.all_eq_false]
         exact ⟨_, HMEM.out, by rw [HBO.out]; simp⟩)
       go_wp2_with (go_at_call 84; refine (HOP.out _).mono ?_; (rintro e w1 ⟨rfl, hm1⟩); have HM1 := Lib.hid (((Mod.refl (fun _ => False) wr).alloc _).trans hm1); clear hm1)
       go_ret
       exact ⟨ret_bool HR.out.symm, HM.out.trans HM1.out⟩
   · have HALT : Hid (ops.all opOK = true) := Lib.hid (by
       have h := HALL.out
       rwa [List.take_of_length_le (by have := HN.out; omega)] at h)
     go_wp2
     go_ret
     exact ⟨ret_bool HALT.out.symm, HM.out⟩
theorem all_b (ops : List Opr) (vo : Value) (w : World) (ho : ORd w vo ops) (b : Bool) (h : ops.all opOK = b) (w0 : World) (m : Mod (fun _ => False) w w0) : Calls Tryz.prog 69 #[vo] w0 fun e w' => e = .returned (.bool b) ∧ Mod (fun _ => False) w w' := by
 have h1 := all_any ops vo w0 (ho.keep m)
 rw [h] at h1
 exact h1.mono fun e w' ⟨he, hm⟩ => ⟨he, m.trans hm⟩
set_option maxRecDepth 100000 in
set_option maxHeartbeats 4000000 in
theorem gcheck_1 (ops : List Opr) (n v : Nat) (k d : Int) (a : Option Addr) (c : Nat) (w : World) (hn : n = ops.length) (ho : ORd w (.slice a n c) ops) :
   Calls Tryz.prog 60 #[.agg #[.int .u8 1, .slice a n c, .int .u32 (v : Int), .int .i64 k, .int .i64 d]] w fun e w' => e = .returned (.int .i64 ((checkT n (ops.all opOK) v k d : Nat))) ∧ Mod (fun _ => False) w w' := by
 obtain ⟨z, hz⟩ : ∃ z, z = checkT n (ops.all opOK) v k d := ⟨_, rfl⟩
 rw [← hz]
 have HZ := Lib.hid hz
 have HO := Lib.hid ho
 have HM : Hid (∀ o : Obj, Mod (fun _ => False) w (w.alloc o)) := Lib.hid (fun o => (Mod.refl _ _).alloc o)
 clear hz hn ho
 by_cases h0 : n = 0
 · subst h0
   have HQ : Hid (z = 2) := Lib.hid (by rw [HZ.out]; simp [checkT])
   go_enter Tryz.func60, Tryz.ntmps60
   go_wp2
   go_ret
   exact ⟨by rw [HQ.out]; rfl, HM.out _⟩
 have h0' : ((n : Int) == 0) = false := by simp; omega
 by_cases h6 : 6 < n
 · have h6' : (6 : Int) < (n : Int) := by omega
   have HQ : Hid (z = 2) := Lib.hid (by rw [HZ.out]; simp [checkT, h6])
   clear h0 h6
   go_enter Tryz.func60, Tryz.ntmps60
   go_wp2
   go_ret
   exact ⟨by rw [HQ.out]; rfl, HM.out _⟩
 have h6' : ¬ (6 : Int) < (n : Int) := by omega
 have HNL : Hid (¬ (n < 1 ∨ 6 < n)) := Lib.hid (by omega)
 clear h0 h6
 cases hall : ops.all opOK with
 | false =>
   have HQ : Hid (z = 3) := Lib.hid (by rw [HZ.out]; unfold checkT; rw [if_neg HNL.out, if_pos hall])
   have HA := Lib.hid (all_b ops _ w HO.out false hall)
   clear hall
   by_cases hv : v = 0
   · subst hv
     by_cases hk : k = 0
     · subst hk
       by_cases hd : d = 0
       · subst hd
         go_enter Tryz.func60, Tryz.ntmps60
         go_wp2_with (go_at_call 69; refine (HA.out _ (HM.out _)).mono ?_; (rintro e w1 ⟨rfl, hm1⟩); have HM1 := Lib.hid hm1; clear hm1)
         go_ret
         exact ⟨by rw [HQ.out]; rfl, HM1.out⟩
       · have hd' : (d != 0) = true := by simp [hd]
         clear hd
         go_enter Tryz.func60, Tryz.ntmps60
         go_wp2
         go_ret
         exact ⟨by rw [HQ.out]; rfl, HM.out _⟩
     · have hk' : (k != 0) = true := by simp [hk]
       clear hk
       go_enter Tryz.func60, Tryz.ntmps60
       go_wp2
       go_ret
       exact ⟨by rw [HQ.out]; rfl, HM.out _⟩
   · have hv' : ((v : Int) != 0) = true := by simp; omega
     clear hv
     go_enter Tryz.func60, Tryz.ntmps60
     go_wp2
     go_ret
     exact ⟨by rw [HQ.out]; rfl, HM.out _⟩
 | true =>
   have HA := Lib.hid (all_b ops _ w HO.out true hall)
   have HZ2 : Hid (z = if v ≠ 0 ∨ k ≠ 0 ∨ d ≠ 0 then 3 else 0) := Lib.hid (by rw [HZ.out]; unfold checkT; rw [if_neg HNL.out, hall]; simp)
   clear hall
   by_cases hv : v = 0
   · subst hv
     by_cases hk : k = 0
     · subst hk
       by_cases hd : d = 0
       · subst hd
         have HQ : Hid (z = 0) := Lib.hid (by rw [HZ2.out]; simp)
         go_enter Tryz.func60, Tryz.ntmps60
         go_wp2_with (go_at_call 69; refine (HA.out _ (HM.out _)).mono ?_; (rintro e w1 ⟨rfl, hm1⟩); have HM1 := Lib.hid hm1; clear hm1)
         go_ret
         exact ⟨by rw [HQ.out]; rfl, HM1.out⟩
       · have HQ : Hid (z = 3) := Lib.hid (by rw [HZ2.out]; simp [hd])
         have hd' : (d != 0) = true := by simp [hd]
         clear hd
         go_enter Tryz.func60, Tryz.ntmps60
         go_wp2
         go_ret
         exact ⟨by rw [HQ.out]; rfl, HM.out _⟩
     · have HQ : Hid (z = 3) := Lib.hid (by rw [HZ2.out]; simp [hk])
       have hk' : (k != 0) = true := by simp [hk]
       clear hk
       go_enter Tryz.func60, Tryz.ntmps60
       go_wp2
       go_ret
       exact ⟨by rw [HQ.out]; rfl, HM.out _⟩
   · have HQ : Hid (z = 3) := Lib.hid (by rw [HZ2.out]; simp [hv])
     have hv' : ((v : Int) != 0) = true := by simp; omega
     clear hv
     go_enter Tryz.func60, Tryz.ntmps60
     go_wp2
     go_ret
     exact ⟨by rw [HQ.out]; rfl, HM.out _⟩
set_option maxRecDepth 100000 in
set_option maxHeartbeats 4000000 in
theorem gcheck_2 (n v : Nat) (k d : Int) (a : Option Addr) (c : Nat) (w : World) :
   Calls Tryz.prog 60 #[.agg #[.int .u8 2, .slice a n c, .int .u32 (v : Int), .int .i64 k, .int .i64 d]] w fun e w' => e = .returned (.int .i64 ((checkO n v k d 8 : Nat))) ∧ Mod (fun _ => False) w w' := by
 obtain ⟨z, hz⟩ : ∃ z, z = checkO n v k d 8 := ⟨_, rfl⟩
 rw [← hz]
 have HZ := Lib.hid hz
 have HM : Hid (∀ o : Obj, Mod (fun _ => False) w (w.alloc o)) := Lib.hid (fun o => (Mod.refl _ _).alloc o)
 clear hz
 by_cases h0 : k < 0
 · have HQ : Hid (z = 1) := Lib.hid (by rw [HZ.out]; unfold checkO; rw [if_pos (.inl h0)])
   go_enter Tryz.func60, Tryz.ntmps60
   go_wp2
   go_ret
   exact ⟨by rw [HQ.out]; rfl, HM.out _⟩
 by_cases h1 : 8 < k
 · have HQ : Hid (z = 1) := Lib.hid (by rw [HZ.out]; unfold checkO; rw [if_pos (.inr h1)])
   have h2 : 8 < k := by omega
   go_enter Tryz.func60, Tryz.ntmps60
   go_wp2
   go_ret
   exact ⟨by rw [HQ.out]; rfl, HM.out _⟩
 have h2 : ¬ 8 < k := by omega
 have HZ2 : Hid (z = if 0 < n ∨ numB v = false ∨ d ≠ 0 then 3 else 0) := Lib.hid (by rw [HZ.out]; unfold checkO; rw [if_neg (by omega)])
 by_cases hy : d = 0
 · subst hy
   by_cases hn : 0 < n
   · have HQ : Hid (z = 3) := Lib.hid (by rw [HZ2.out]; simp [hn])
     have hn' : (0 : Int) < (n : Int) := by omega
     clear hn
     go_enter Tryz.func60, Tryz.ntmps60
     go_wp2
     go_ret
     exact ⟨by rw [HQ.out]; rfl, HM.out _⟩
   · obtain rfl : n = 0 := by omega
     clear hn
     cases hb : numB v with
     | true =>
       have HQ : Hid (z = 0) := Lib.hid (by rw [HZ2.out]; simp [hb])
       have HN := Lib.hid (number_b v true hb)
       clear hb
       go_enter Tryz.func60, Tryz.ntmps60
       go_wp2_with (go_at_call 70; refine (HN.out _).mono ?_; (rintro e w1 ⟨rfl, rfl⟩))
       go_ret
       exact ⟨by rw [HQ.out]; rfl, HM.out _⟩
     | false =>
       have HQ : Hid (z = 3) := Lib.hid (by rw [HZ2.out]; simp [hb])
       have HN := Lib.hid (number_b v false hb)
       clear hb
       go_enter Tryz.func60, Tryz.ntmps60
       go_wp2_with (go_at_call 70; refine (HN.out _).mono ?_; (rintro e w1 ⟨rfl, rfl⟩))
       go_ret
       exact ⟨by rw [HQ.out]; rfl, HM.out _⟩
 · have HQ : Hid (z = 3) := Lib.hid (by rw [HZ2.out]; simp [hy])
   have hy' : (d != 0) = true := by simp [hy]
   clear hy
   go_enter Tryz.func60, Tryz.ntmps60
   go_wp2
   go_ret
   exact ⟨by rw [HQ.out]; rfl, HM.out _⟩
set_option maxRecDepth 100000 in
set_option maxHeartbeats 4000000 in
theorem gcheck_3 (n v : Nat) (k d : Int) (a : Option Addr) (c : Nat) (w : World) :
   Calls Tryz.prog 60 #[.agg #[.int .u8 3, .slice a n c, .int .u32 (v : Int), .int .i64 k, .int .i64 d]] w fun e w' => e = .returned (.int .i64 ((checkO n v d k 3 : Nat))) ∧ Mod (fun _ => False) w w' := by
 obtain ⟨z, hz⟩ : ∃ z, z = checkO n v d k 3 := ⟨_, rfl⟩
 rw [← hz]
 have HZ := Lib.hid hz
 have HM : Hid (∀ o : Obj, Mod (fun _ => False) w (w.alloc o)) := Lib.hid (fun o => (Mod.refl _ _).alloc o)
 clear hz
 by_cases h0 : d < 0
 · have HQ : Hid (z = 1) := Lib.hid (by rw [HZ.out]; unfold checkO; rw [if_pos (.inl h0)])
   go_enter Tryz.func60, Tryz.ntmps60
   go_wp2
   go_ret
   exact ⟨by rw [HQ.out]; rfl, HM.out _⟩
 by_cases h1 : 3 < d
 · have HQ : Hid (z = 1) := Lib.hid (by rw [HZ.out]; unfold checkO; rw [if_pos (.inr h1)])
   have h2 : 4 ≤ d := by omega
   go_enter Tryz.func60, Tryz.ntmps60
   go_wp2
   go_ret
   exact ⟨by rw [HQ.out]; rfl, HM.out _⟩
 have h2 : ¬ 4 ≤ d := by omega
 have HZ2 : Hid (z = if 0 < n ∨ numB v = false ∨ k ≠ 0 then 3 else 0) := Lib.hid (by rw [HZ.out]; unfold checkO; rw [if_neg (by omega)])
 by_cases hy : k = 0
 · subst hy
   by_cases hn : 0 < n
   · have HQ : Hid (z = 3) := Lib.hid (by rw [HZ2.out]; simp [hn])
     have hn' : (0 : Int) < (n : Int) := by omega
     clear hn
     go_enter Tryz.func60, Tryz.ntmps60
     go_wp2
     go_ret
     exact ⟨by rw [HQ.out]; rfl, HM.out _⟩
   · obtain rfl : n = 0 := by omega
     clear hn
     cases hb : numB v with
     | true =>
       have HQ : Hid (z = 0) := Lib.hid (by rw [HZ2.out]; simp [hb])
       have HN := Lib.hid (number_b v true hb)
       clear hb
       go_enter Tryz.func60, Tryz.ntmps60
       go_wp2_with (go_at_call 70; refine (HN.out _).mono ?_; (rintro e w1 ⟨rfl, rfl⟩))
       go_ret
       exact ⟨by rw [HQ.out]; rfl, HM.out _⟩
     | false =>
       have HQ : Hid (z = 3) := Lib.hid (by rw [HZ2.out]; simp [hb])
       have HN := Lib.hid (number_b v false hb)
       clear hb
       go_enter Tryz.func60, Tryz.ntmps60
       go_wp2_with (go_at_call 70; refine (HN.out _).mono ?_; (rintro e w1 ⟨rfl, rfl⟩))
       go_ret
       exact ⟨by rw [HQ.out]; rfl, HM.out _⟩
 · have HQ : Hid (z = 3) := Lib.hid (by rw [HZ2.out]; simp [hy])
   have hy' : (k != 0) = true := by simp [hy]
   clear hy
   go_enter Tryz.func60, Tryz.ntmps60
   go_wp2
   go_ret
   exact ⟨by rw [HQ.out]; rfl, HM.out _⟩
set_option maxRecDepth 100000 in
set_option maxHeartbeats 4000000 in
theorem gcheck_0 (kind n v : Nat) (k d : Int) (a : Option Addr) (c : Nat) (w : World) (hk : kind < 1 ∨ 3 < kind) :
   Calls Tryz.prog 60 #[.agg #[.int .u8 (kind : Int), .slice a n c, .int .u32 (v : Int), .int .i64 k, .int .i64 d]] w fun e w' => e = .returned (.int .i64 (1)) ∧ Mod (fun _ => False) w w' := by
 have k1 : ((kind : Int) == 1) = false := by simp; omega
 have k2 : ((kind : Int) == 2) = false := by simp; omega
 have k3 : ((kind : Int) == 3) = false := by simp; omega
 clear hk
 go_enter Tryz.func60, Tryz.ntmps60
 go_wp2
 go_ret
 exact ⟨rfl, (Mod.refl _ _).alloc _⟩
theorem gcheck_any (r : Rqt) (vo : Value) (w : World) (ho : ORd w vo r.ops) : Calls Tryz.prog 60 #[rqV r vo] w fun e w' => e = .returned (.int .i64 (checkR r : Nat)) ∧ Mod (fun _ => False) w w' := by
 obtain ⟨kind, ops, v, k, d⟩ := r
 obtain ⟨a, c, rfl, -⟩ := ho.row.shape
 simp only at ho ⊢
 by_cases h0 : kind < 1 ∨ 3 < kind
 · have e : checkR ⟨kind, ops, v, k, d⟩ = 1 := by unfold checkR; rw [if_pos (by rcases h0 with h | h; exact .inl h; exact .inr (.inl h))]
   rw [e]
   exact gcheck_0 kind _ v k d a c w h0
 · by_cases h1 : kind = 1
   · subst h1; rw [checkR_1]; exact gcheck_1 ops _ v k d a c w rfl ho
   · by_cases h2 : kind = 2
     · subst h2; rw [checkR_2]; exact gcheck_2 _ v k d a c w
     · obtain rfl : kind = 3 := by omega
       rw [checkR_3]; exact gcheck_3 _ v k d a c w
open Go.RowKit Go.Maps
def DoA (g bm : Nat) (ns : List Node) (r : Rqt) (w : World) (e : Ending) (w' : World) : Prop :=
 ∃ vv vl ns', e = .returned (.agg #[.int .i64 ((doG (ns.map Node.x) r).2.e : Nat), .int .i64 ((doG (ns.map Node.x) r).2.at_ : Nat), vv, vl]) ∧ Turned g bm ns (doG (ns.map Node.x) r).1 (fun _ => False) w w' ns' ∧
   Seg w' 77 3 vv (doG (ns.map Node.x) r).2.vals.length (vvcells (doG (ns.map Node.x) r).2.vals) ∧ Seg w' 32 1 vl (doG (ns.map Node.x) r).2.list.length ((doG (ns.map Node.x) r).2.list.map (keyV .u32)) ∧ (∀ b, vv.ownBlock = some b → w.heap.size ≤ b) ∧ (∀ b, vl.ownBlock = some b → w.heap.size ≤ b) ∧ PatB valP w' vv
theorem DoA.stay {g bm : Nat} {vl : Value} {ns : List Node} {r : Rqt} {w w' : World} {z i : Nat} {li : List Nat} (hp : PG w g bm ns) (m : Mod (fun _ => False) w w') (he : doG (ns.map Node.x) r = (ns.map Node.x, ⟨z, i, [], li⟩)) (hl : Seg w' 32 1 vl li.length (li.map (keyV .u32))) (hn : ∀ b, vl.ownBlock = some b → w.heap.size ≤ b) :
   DoA g bm ns r w (.returned (.agg #[.int .i64 (z : Int), .int .i64 (i : Int), .slice none 0 0, vl])) w' := by
 refine ⟨.slice none 0 0, vl, ns, by rw [he], by rw [he]; exact Turned.idle hp m _, by rw [he]; exact Seg.nil _ _ _, by rw [he]; exact hl, fun b hb => by simp [Value.ownBlock] at hb, hn, PatB.nil _ _⟩
set_option maxRecDepth 100000 in
set_option maxHeartbeats 4000000 in
theorem gdo_bad (gv : Value) (r : Rqt) (vo : Value) (w : World) (ho : ORd w vo r.ops) (hc : checkR r ≠ 0) :
   Calls Tryz.prog 41 #[gv, rqV r vo] w fun e w' => e = .returned (.agg #[.int .i64 (checkR r : Nat), .int .i64 0, .slice none 0 0, .slice none 0 0]) ∧ Mod (fun _ => False) w w' := by
 obtain ⟨kind, ops, v, k, d⟩ := r
 obtain ⟨cr, hcr⟩ : ∃ cr, cr = checkR ⟨kind, ops, v, k, d⟩ := ⟨_, rfl⟩
 rw [← hcr] at hc ⊢
 have HO := Lib.hid ho
 obtain ⟨a, c, rfl, -⟩ := ho.row.shape
 obtain ⟨n, hn⟩ : ∃ n, n = ops.length := ⟨_, rfl⟩
 simp only [rqV, ← hn] at HO ⊢
 have HS := Lib.hid (DoAt.start w (.int .u8 (kind : Int)) (.slice a n c) (.int .u32 (v : Int)) (.int .i64 k) (.int .i64 d))
 have HCK := Lib.hid (gcheck_any ⟨kind, ops, v, k, d⟩ (.slice a n c) _ (HO.out.keep HS.out.mod))
 simp only [rqV] at HCK
 rw [← hcr] at HCK
 have hcr' : ((cr : Int) != 0) = true := by simp [hc]
 clear hn hcr ho hc
 go_enter Tryz.func41, Tryz.ntmps41
 go_wp2_with (go_at_call 60; refine HCK.out.mono ?_; (rintro e w1 ⟨rfl, hm1⟩); have HD1 := Lib.hid (HS.out.next hm1 (fun _ f => f.elim)); obtain ⟨r0, r1, r2, r3, f0, f1, f2, f3, zr⟩ := HD1.out.retf; obtain ⟨b0, b1, b2, b3, b4, zb⟩ := HD1.out.boxf; clear hm1)
 refine bodyPost_ret (v := .agg #[.int .i64 (cr : Int), .int .i64 0, .slice none 0 0, .slice none 0 0]) (by simp [results, Tryz.results41, go_sem, r0, r1, r2, r3]) rfl ?_
 exact ⟨rfl, (HD1.out.finish _ _ _ _).1⟩
set_option maxRecDepth 100000 in
set_option maxHeartbeats 4000000 in
theorem gdo_none (g bm : Nat) (ns : List Node) (r : Rqt) (vo : Value) (w : World) (hp : PG w g bm ns) (ho : ORd w vo r.ops) (hc : checkR r = 0) (hk : r.kind ≠ 1) (hvb : r.v < 4294967296) (hf : findN ns r.v = none) :
   Calls Tryz.prog 41 #[.pointer (some ⟨g, 0, none⟩), rqV r vo] w (DoA g bm ns r w) := by
 obtain ⟨kind, ops, v, k, d⟩ := r
 simp only at hk hf hvb
 have HE : Hid (doG (ns.map Node.x) ⟨kind, ops, v, k, d⟩ = (ns.map Node.x, ⟨6, 0, [], []⟩)) := Lib.hid (by unfold doG; rw [if_neg (by simpa using hc), if_neg hk, findN_map, hf]; rfl)
 have HP := Lib.hid hp
 have HVB := Lib.hid hvb
 have HF := Lib.hid hf
 have g0 := cell_of_row hp.cell 0
 have zg := lt_of_block hp.cell
 simp at g0
 have HO := Lib.hid ho
 obtain ⟨a, c, rfl, -⟩ := ho.row.shape
 obtain ⟨n, hn⟩ : ∃ n, n = ops.length := ⟨_, rfl⟩
 simp only [rqV, ← hn] at HO ⊢
 have HS := Lib.hid (DoAt.start w (.int .u8 (kind : Int)) (.slice a n c) (.int .u32 (v : Int)) (.int .i64 k) (.int .i64 d))
 have HCK := Lib.hid (gcheck_any ⟨kind, ops, v, k, d⟩ (.slice a n c) _ (HO.out.keep HS.out.mod))
 simp only [rqV] at HCK
 rw [hc] at HCK
 have hk1 : ((kind : Int) == 1) = false := by simp; omega
 clear hn ho hc hp hf hk hvb
 go_enter Tryz.func41, Tryz.ntmps41
 go_wp2_with (go_at_call 60; refine HCK.out.mono ?_; (rintro e w1 ⟨rfl, hm1⟩); have HD1 := Lib.hid (HS.out.next hm1 (fun _ f => f.elim)); obtain ⟨r0, r1, r2, r3, f0, f1, f2, f3, zr⟩ := HD1.out.retf; obtain ⟨b0, b1, b2, b3, b4, zb⟩ := HD1.out.boxf; clear hm1; have g0 := HD1.out.mod.cell g0; have zg : g < w1.heap.size := Nat.lt_of_lt_of_le zg HD1.out.mod.size; have la := HP.out.nm.look HD1.out.mod.drew HVB.out; rw [HF.out] at la; simp only [ptrN] at la)
 go_region
 all_goals
   go_wp2
   refine bodyPost_ret (v := .agg #[.int .i64 6, .int .i64 0, .slice none 0 0, .slice none 0 0]) (by simp [results, Tryz.results41, go_sem, r0, r1, r2, r3]) rfl ?_
   exact DoA.stay HP.out ((HD1.out.next ((Mod.refl (fun _ => False) _).drew) (fun _ f => f.elim)).finish _ _ _ _).1 HE.out (Seg.nil _ _ _) (fun b hb => by simp [Value.ownBlock] at hb)
set_option maxRecDepth 100000 in
set_option maxHeartbeats 4000000 in
theorem gdo_3 (g bm : Nat) (ns : List Node) (r : Rqt) (vo : Value) (w : World) (hp : PG w g bm ns) (ho : ORd w vo r.ops) (hc : checkR r = 0) (hk : r.kind = 3) (hvb : r.v < 4294967296) (x : Node) (hf : findN ns r.v = some x) :
   Calls Tryz.prog 41 #[.pointer (some ⟨g, 0, none⟩), rqV r vo] w (DoA g bm ns r w) := by
 obtain ⟨kind, ops, v, k, d⟩ := r
 simp only at hk hf hvb
 subst hk
 have HE : Hid (doG (ns.map Node.x) ⟨3, ops, v, k, d⟩ = (ns.map Node.x, ⟨0, 0, [], []⟩)) := Lib.hid (by unfold doG; rw [if_neg (by simpa using hc), findN_map, hf]; simp)
 have HP := Lib.hid hp
 have HVB := Lib.hid hvb
 have HF := Lib.hid hf
 have g0 := cell_of_row hp.cell 0
 have zg := lt_of_block hp.cell
 simp at g0
 have HO := Lib.hid ho
 obtain ⟨a, c, rfl, -⟩ := ho.row.shape
 obtain ⟨n, hn⟩ : ∃ n, n = ops.length := ⟨_, rfl⟩
 simp only [rqV, ← hn] at HO ⊢
 have HS := Lib.hid (DoAt.start w (.int .u8 3) (.slice a n c) (.int .u32 (v : Int)) (.int .i64 k) (.int .i64 d))
 have HCK := Lib.hid (gcheck_any ⟨3, ops, v, k, d⟩ (.slice a n c) _ (HO.out.keep HS.out.mod))
 simp only [rqV] at HCK
 rw [hc] at HCK
 clear hn ho hc hp hf hvb
 go_enter Tryz.func41, Tryz.ntmps41
 go_wp2_with (go_at_call 60; refine HCK.out.mono ?_; (rintro e w1 ⟨rfl, hm1⟩); have HD1 := Lib.hid (HS.out.next hm1 (fun _ f => f.elim)); obtain ⟨r0, r1, r2, r3, f0, f1, f2, f3, zr⟩ := HD1.out.retf; obtain ⟨b0, b1, b2, b3, b4, zb⟩ := HD1.out.boxf; clear hm1; have g0 := HD1.out.mod.cell g0; have zg : g < w1.heap.size := Nat.lt_of_lt_of_le zg HD1.out.mod.size; have la := HP.out.nm.look HD1.out.mod.drew HVB.out; rw [HF.out] at la; simp only [ptrN] at la)
 go_region
 all_goals
   go_wp2
   refine bodyPost_ret (v := .agg #[.int .i64 0, .int .i64 0, .slice none 0 0, .slice none 0 0]) (by simp [results, Tryz.results41, go_sem, r0, r1, r2, r3]) rfl ?_
   exact DoA.stay HP.out ((HD1.out.next ((Mod.refl (fun _ => False) _).drew) (fun _ f => f.elim)).finish _ _ _ _).1 HE.out (Seg.nil _ _ _) (fun b hb => by simp [Value.ownBlock] at hb)
set_option maxRecDepth 100000 in
set_option maxHeartbeats 4000000 in
theorem gdo_2 (g bm : Nat) (ns : List Node) (r : Rqt) (vo : Value) (w : World) (hp : PG w g bm ns) (hL : Good (ns.map Node.x)) (ho : ORd w vo r.ops) (hc : checkR r = 0) (hk : r.kind = 2) (hvb : r.v < 4294967296) (x : Node) (hf : findN ns r.v = some x) :
   Calls Tryz.prog 41 #[.pointer (some ⟨g, 0, none⟩), rqV r vo] w (DoA g bm ns r w) := by
 obtain ⟨kind, ops, v, k, d⟩ := r
 simp only at hk hf hvb
 subst hk
 obtain ⟨K, rfl, hK⟩ : ∃ K : Nat, k = (K : Int) ∧ K ≤ 8 := by
   have h := hc
   rw [checkR_2] at h
   unfold checkO at h
   split at h
   · cases h
   · exact ⟨k.toNat, by omega, by omega⟩
 have HE : Hid (doG (ns.map Node.x) ⟨2, ops, v, (K : Int), d⟩ = (ns.map Node.x, ⟨0, 0, [], withinG (ns.map Node.x) v K⟩)) := Lib.hid (by unfold doG; rw [if_neg (by simpa using hc), findN_map, hf]; simp)
 have HP := Lib.hid hp
 have HVB := Lib.hid hvb
 have HF := Lib.hid hf
 have HHO : Hid (∀ w', Mod (fun _ => False) w w' → Calls Tryz.prog 62 #[.pointer (some ⟨g, 0, none⟩), .int .u32 (v : Int), .int .i64 (K : Int)] w' fun e w'' => ∃ vo, e = .returned vo ∧ SegN w' w'' vo (withinG (ns.map Node.x) v K)) := Lib.hid (fun w' m => hops_any g bm ns v K w' (hp.keep m) hL (by
   obtain ⟨h1, h2⟩ := findN_mem hf
   exact ⟨x.x, List.mem_map_of_mem h1, h2⟩) hK)
 have g0 := cell_of_row hp.cell 0
 have zg := lt_of_block hp.cell
 simp at g0
 have HO := Lib.hid ho
 obtain ⟨a, c, rfl, -⟩ := ho.row.shape
 obtain ⟨n, hn⟩ : ∃ n, n = ops.length := ⟨_, rfl⟩
 simp only [rqV, ← hn] at HO ⊢
 have HS := Lib.hid (DoAt.start w (.int .u8 2) (.slice a n c) (.int .u32 (v : Int)) (.int .i64 (K : Int)) (.int .i64 d))
 have HCK := Lib.hid (gcheck_any ⟨2, ops, v, (K : Int), d⟩ (.slice a n c) _ (HO.out.keep HS.out.mod))
 simp only [rqV] at HCK
 rw [hc] at HCK
 clear hn ho hc hp hf hvb hL hK
 go_enter Tryz.func41, Tryz.ntmps41
 go_wp2_with (go_at_call 60; refine HCK.out.mono ?_; (rintro e w1 ⟨rfl, hm1⟩); have HD1 := Lib.hid (HS.out.next hm1 (fun _ f => f.elim)); obtain ⟨r0, r1, r2, r3, f0, f1, f2, f3, zr⟩ := HD1.out.retf; obtain ⟨b0, b1, b2, b3, b4, zb⟩ := HD1.out.boxf; clear hm1; have g0 := HD1.out.mod.cell g0; have zg : g < w1.heap.size := Nat.lt_of_lt_of_le zg HD1.out.mod.size; have la := HP.out.nm.look HD1.out.mod.drew HVB.out; rw [HF.out] at la; simp only [ptrN] at la)
 go_region
 all_goals
   have HD2 := Lib.hid (HD1.out.next ((Mod.refl (fun _ => False) w1).drew) (fun _ f => f.elim))
   go_wp2_with (go_at_call 62; refine (HHO.out _ HD2.out.mod).mono ?_; (rintro e w3 ⟨vo, rfl, hs3⟩); have HS3 := Lib.hid hs3; have HD3 := Lib.hid (HD2.out.next hs3.mod (fun _ f => f.elim)); clear r0 r1 r2 r3 f0 f1 f2 f3 zr; obtain ⟨r0, r1, r2, r3, f0, f1, f2, f3, zr⟩ := HD3.out.retf; (obtain ⟨a3, c3, n3, rfl⟩ : ∃ a c n, vo = .slice a n c := (by obtain ⟨a, c, e, _⟩ := hs3.seg.shape; exact ⟨_, _, _, e⟩)); clear hs3)
   refine bodyPost_ret (v := .agg #[.int .i64 0, .int .i64 0, .slice none 0 0, .slice a3 n3 c3]) (by simp [results, Tryz.results41, go_sem, r0, r1, r2, r3]) rfl ?_
   exact DoA.stay HP.out (HD3.out.finish _ _ _ _).1 HE.out (HD3.out.list _ _ _ _ HS3.out.seg (by decide)) (fun b hb => Nat.le_trans HD2.out.mod.size (HS3.out.own b hb))
set_option maxRecDepth 100000 in
set_option maxHeartbeats 4000000 in
theorem gdo_1 (g bm : Nat) (ns : List Node) (r : Rqt) (vo : Value) (w : World) (hp : PG w g bm ns) (hL : Good (ns.map Node.x)) (ho : ORd w vo r.ops) (hc : checkR r = 0) (hk : r.kind = 1) (hg : ErrT w) :
   Calls Tryz.prog 41 #[.pointer (some ⟨g, 0, none⟩), rqV r vo] w (DoA g bm ns r w) := by
 obtain ⟨kind, ops, v, k, d⟩ := r
 simp only at hk
 subst hk
 have HOK := Lib.hid (checkR_tx hc rfl)
 have HDF : Hid (okRun (ns.map Node.x) ops = none → doG (ns.map Node.x) ⟨1, ops, v, k, d⟩ = (ns.map Node.x, ⟨(failG (ns.map Node.x) 0 ops).1, (failG (ns.map Node.x) 0 ops).2, [], []⟩)) := Lib.hid (fun h => by unfold doG; rw [if_neg (by simpa using hc)]; simp only [if_true]; rw [h])
 have HDR : Hid (∀ p, okRun (ns.map Node.x) ops = some p → doG (ns.map Node.x) ⟨1, ops, v, k, d⟩ = (p.1, ⟨0, 0, p.2, []⟩)) := Lib.hid (fun p h => by unfold doG; rw [if_neg (by simpa using hc)]; simp only [if_true]; rw [h])
 have HP := Lib.hid hp
 have g0 := cell_of_row hp.cell 0
 have zg := lt_of_block hp.cell
 simp at g0
 have HO := Lib.hid ho
 obtain ⟨a, c, rfl, -⟩ := ho.row.shape
 obtain ⟨n, hn⟩ : ∃ n, n = ops.length := ⟨_, rfl⟩
 simp only [rqV, ← hn] at HO ⊢
 have HS := Lib.hid (DoAt.start w (.int .u8 1) (.slice a n c) (.int .u32 (v : Int)) (.int .i64 k) (.int .i64 d))
 have HCK := Lib.hid (gcheck_any ⟨1, ops, v, k, d⟩ (.slice a n c) _ (HO.out.keep HS.out.mod))
 simp only [rqV] at HCK
 rw [hc] at HCK
 have HTR : Hid (∀ w', Mod (fun _ => False) w w' → Calls Tryz.prog 61 #[.pointer (some ⟨g, 0, none⟩), .slice a n c] w' (TransP g bm ns ops w')) := Lib.hid (fun w' m => transact_any ops _ g bm ns w' (hp.keep m) hL (HO.out.keep m) HOK.out.1 HOK.out.2.2 (hg.keep m (fun f => f)))
 clear hn ho hc hp hL hg
 go_enter Tryz.func41, Tryz.ntmps41
 go_wp2_with (first
   | (go_at_call 61; refine (HTR.out _ HD1.out.mod).mono ?_; (rintro e w3 ⟨L3, ns3, ez, pos3, vals3, vv3, rfl, ht3, hs3, ho3, hpt3, hq3⟩); have HT3 := Lib.hid ht3; have HS3 := Lib.hid hs3; have HQ3 := Lib.hid hq3; have HN3 := Lib.hid ho3; have HPT3 := Lib.hid hpt3; have hrb := (HP.out.keep HD1.out.mod).nm.box ht3.mod HD1.out.ret; have HRB := Lib.hid hrb; clear r0 r1 r2 r3 f0 f1 f2 f3 zr; have r0 := cell_of_row hrb 0; have r1 := cell_of_row hrb 1; have r2 := cell_of_row hrb 2; have r3 := cell_of_row hrb 3; have f0 := free_of_row hrb 0; have f1 := free_of_row hrb 1; have f2 := free_of_row hrb 2; have f3 := free_of_row hrb 3; have zr := lt_of_block hrb; simp at r0 r1 r2 r3; (obtain ⟨a3, c3, n3, rfl⟩ : ∃ a c n, vv3 = .slice a n c := (by obtain ⟨a, c, e, _⟩ := hs3.shape; exact ⟨_, _, _, e⟩)); clear ht3 hs3 ho3 hpt3 hq3 hrb)
   | (go_at_call 60; refine HCK.out.mono ?_; (rintro e w1 ⟨rfl, hm1⟩); have HD1 := Lib.hid (HS.out.next hm1 (fun _ f => f.elim)); obtain ⟨r0, r1, r2, r3, f0, f1, f2, f3, zr⟩ := HD1.out.retf; obtain ⟨b0, b1, b2, b3, b4, zb⟩ := HD1.out.boxf; clear hm1))
 refine bodyPost_ret (v := .agg #[.int .i64 (ez : Int), .int .i64 (pos3 : Int), .slice a3 n3 c3, .slice none 0 0]) (by simp [results, Tryz.results41, go_sem, r0, r1, r2, r3]) rfl ?_
 obtain ⟨ht, m⟩ := ret_turned (HT3.out.keep HD1.out.mod (Mod.refl _ _)) HRB.out (Nat.le_succ _) (.int .i64 (ez : Int)) (.int .i64 (pos3 : Int)) (.slice a3 n3 c3) (.slice none 0 0)
 have hs := HS3.out.mod m (HS3.out.off_box HRB.out (by decide))
 rcases HQ3.out with ⟨h1, h2, h3⟩ | ⟨h1, h2, h3, h4⟩
 · subst h2 h3
   have he := HDR.out _ h1
   refine ⟨.slice a3 n3 c3, .slice none 0 0, ns3, by rw [he], by rw [he]; exact ht, by rw [he]; exact hs, by rw [he]; exact Seg.nil _ _ _, fun b hb => Nat.le_trans HD1.out.mod.size (HN3.out b hb), fun b hb => by simp [Value.ownBlock] at hb, HPT3.out.mod m (HS3.out.off_box HRB.out (by decide))⟩
 · subst h2 h3
   have he := HDF.out h1
   rw [h4] at he
   refine ⟨.slice a3 n3 c3, .slice none 0 0, ns3, by rw [he], by rw [he]; exact ht, by rw [he]; exact hs, by rw [he]; exact Seg.nil _ _ _, fun b hb => Nat.le_trans HD1.out.mod.size (HN3.out b hb), fun b hb => by simp [Value.ownBlock] at hb, HPT3.out.mod m (HS3.out.off_box HRB.out (by decide))⟩
theorem gdo_any (g bm : Nat) (ns : List Node) (r : Rqt) (vo : Value) (w : World) (hp : PG w g bm ns) (hL : Good (ns.map Node.x)) (ho : ORd w vo r.ops) (hvb : r.v < 4294967296) (hg : ErrT w) :
   Calls Tryz.prog 41 #[.pointer (some ⟨g, 0, none⟩), rqV r vo] w (DoA g bm ns r w) := by
 by_cases hc : checkR r = 0
 · by_cases h1 : r.kind = 1
   · exact gdo_1 g bm ns r vo w hp hL ho hc h1 hg
   · cases hf : findN ns r.v with
     | none => exact gdo_none g bm ns r vo w hp ho hc h1 hvb hf
     | some x =>
       by_cases h2 : r.kind = 2
       · exact gdo_2 g bm ns r vo w hp hL ho hc h2 hvb x hf
       · have h3 : r.kind = 3 := by
           apply Classical.byContradiction
           intro h3
           apply absurd hc
           unfold checkR
           rw [if_pos (by omega)]
           omega
         exact gdo_3 g bm ns r vo w hp ho hc h3 hvb x hf
 · refine (gdo_bad _ r vo w ho hc).mono ?_
   rintro e w' ⟨rfl, m⟩
   exact DoA.stay hp m (by unfold doG; rw [if_pos hc]) (Seg.nil _ _ _) (fun b hb => by simp [Value.ownBlock] at hb)
open Go.RowKit
theorem infoOp : (Tryz.prog.info? 79).map (fun i => (i.zero, i.size, i.bytes)) = some (some (.agg #[.int .u8 0, .int .u32 0, .int .u32 0, .int .u8 0, .int .u8 0, .int .i64 0, zval]), 7, 48) := by kernel_rfl
theorem fresh_segG {w w2 : World} {t : TypeId} {size : Nat} {v : Value} {n n0 : Nat} {xs : List Value} (hn : w.heap.size = n0)
   (hs : Seg w2 t size v (0 + n) ([] ++ xs)) (hg : (w.alloc (.cells #[] t)).grownBy w2 (Value.ownBlock (.slice (some ⟨n0, 0, none⟩) 0 0)))
   (ho : v.ownBlock = Value.ownBlock (.slice (some ⟨n0, 0, none⟩) 0 0) ∨ v.ownBlock = some (w.alloc (.cells #[] t)).heap.size) : Seg w2 t size v n xs ∧ Mod (fun _ => False) w w2 ∧ ∀ b, v.ownBlock = some b → n0 ≤ b := by
 subst hn
 refine ⟨by simpa using hs, ((Mod.refl _ w).alloc _).grown hg (fun b hb hlt => ?_), fun b hb => ?_⟩
 · simp [Value.ownBlock] at hb; omega
 · rcases ho with e | e
   · rw [e] at hb; simp [Value.ownBlock] at hb; omega
   · rw [e] at hb; simp at hb; omega
theorem empty7 (w : World) (t : TypeId) {n0 : Nat} (hn : w.heap.size = n0) : Seg (w.alloc (.cells #[] t)) t 7 (.slice (some ⟨n0, 0, none⟩) 0 0) 0 [] := by
 subst hn
 have := Seg.lit (e := t) (size := 7) w #[] 0 rfl (by decide) (by simp)
 exact this
theorem ocells_ones (l : List Opr) : ∀ u ∈ ocells l, u.oneCell' = true := by
 intro u hu
 unfold ocells at hu
 obtain ⟨x, _, hx⟩ := List.mem_flatMap.1 hu
 simp [Opr.cells, Val.cells] at hx
 rcases hx with rfl | rfl | rfl | rfl | rfl | rfl | rfl <;> rfl
set_option maxRecDepth 100000 in
set_option maxHeartbeats 2000000 in
theorem twinreq_new (r : Rqt) (vo : Value) (w : World) (ho : ORd w vo r.ops) (hn : r.ops.length * 48 ≤ 140737488355328) :
   Calls Tryz.prog 38 #[rqV r vo] w fun e w' => ∃ vo', e = .returned (rqV r vo') ∧ Mod (fun _ => False) w w' ∧ Seg w' 79 7 vo' r.ops.length (ocells r.ops) ∧ ∀ b, vo'.ownBlock = some b → w.heap.size ≤ b := by
 obtain ⟨kind, ops, v, k, d⟩ := r
 have HF := Lib.hid ho.fits
 have HR := Lib.hid ho.row
 obtain ⟨a, c, rfl, -⟩ := ho.row.shape
 obtain ⟨n, hnn⟩ : ∃ n, n = ops.length := ⟨_, rfl⟩
 have HN := Lib.hid hnn
 simp only [rqV, ← hnn] at HR hn ⊢
 have HB := Lib.hid hn
 obtain ⟨i0, hi, hz0, hz1, hz2⟩ := info_parts infoOp
 have HI : Hid (Tryz.prog.info? 79 = some i0 ∧ i0.zero = some (.agg #[.int .u8 0, .int .u32 0, .int .u32 0, .int .u8 0, .int .u8 0, .int .i64 0, zval]) ∧ i0.size = 7 ∧ i0.bytes = 48) := ⟨hi, hz0, hz1, hz2⟩
 clear hi hz0 hz1 hz2 ho hnn hn
 go_enter Tryz.func38, Tryz.ntmps38
 go_upto_region 1 with fail
 obtain ⟨W1, hW1⟩ : ∃ W1, W1 = (w.alloc (.cells #[.int .u8 (kind : Int), .slice a n c, .int .u32 (v : Int), .int .i64 k, .int .i64 d] 34)).alloc (.cells #[.int .u8 0, .slice none 0 0, .int .u32 0, .int .i64 0, .int .i64 0] 34) := ⟨_, rfl⟩
 have hm1 : Mod (fun _ => False) w W1 := by rw [hW1]; exact ((Mod.refl _ _).alloc _).alloc _
 have hb1 : W1.heap[w.heap.size]? = some (.cells #[.int .u8 (kind : Int), .slice a n c, .int .u32 (v : Int), .int .i64 k, .int .i64 d] 34 (0, 0)) := by rw [hW1]; exact heap_alloc_old (heap_alloc_new' w _)
 have hr1 : W1.heap[w.heap.size + 1]? = some (.cells #[.int .u8 0, .slice none 0 0, .int .u32 0, .int .i64 0, .int .i64 0] 34 (0, 0)) := by
   rw [hW1]
   have h := heap_alloc_new' (w.alloc (.cells #[.int .u8 (kind : Int), .slice a n c, .int .u32 (v : Int), .int .i64 k, .int .i64 d] 34)) (.cells #[.int .u8 0, .slice none 0 0, .int .u32 0, .int .i64 0, .int .i64 0] 34)
   simpa using h
 have hz1 : W1.heap.size = w.heap.size + 1 + 1 := by rw [hW1]; simp
 rw [← hW1]
 have HM1 := Lib.hid hm1
 have HB1 := Lib.hid hb1
 have HT1 := Lib.hid hr1
 have HE := Lib.hid (empty7 W1 79 rfl)
 have HR0 := Lib.hid ((HR.out.keep hm1).keep ((Mod.refl _ _).alloc (.cells #[] 79)))
 have HZ := Lib.hid hz1
 have b1 := cell_of_row hb1 1
 have zb := lt_of_block hb1
 simp at b1
 clear hW1 hm1 hb1 hr1 hz1
 go_wp2_with (at_builtin; refine wpList_append_seg rfl (.tmp 3) (.tmp 5) 31 rfl i0 _ 7 48 Tryz.underlying31 HI.out.1 HI.out.2.1 HI.out.2.2.1 HI.out.2.2.2 rfl (by decide) rfl HE.out _ n _ rfl (HR0.out.src (ocells_ones _)) (by have := HB.out; unfold maxLen; omega) (by have := HB.out; omega) ?_; intro v3 w3 hs3 hg3 ho3; (obtain ⟨hsg, hmd, hown⟩ := fresh_segG rfl hs3 hg3 ho3); (obtain ⟨a3, c3, rfl, -⟩ := hsg.shape); have HS3 := Lib.hid (And.intro hsg (And.intro hmd hown)); have hb3 := hmd.heap HB1.out (fun f => f); have hr3 := hmd.heap HT1.out (fun f => f); have y0 := cell_of_row hb3 0; have y1 := cell_of_row hb3 1; have y2 := cell_of_row hb3 2; have y3 := cell_of_row hb3 3; have y4 := cell_of_row hb3 4; have y1f := free_of_row hb3 1; have q0 := cell_of_row hr3 0; have q1 := cell_of_row hr3 1; have q2 := cell_of_row hr3 2; have q3 := cell_of_row hr3 3; have q4 := cell_of_row hr3 4; have q0f := free_of_row hr3 0; have q1f := free_of_row hr3 1; have q2f := free_of_row hr3 2; have q3f := free_of_row hr3 3; have q4f := free_of_row hr3 4; have z1 := lt_of_block hb3; have z2 := lt_of_block hr3; simp at y0 y1 y2 y3 y4 q0 q1 q2 q3 q4; clear hs3 hg3 ho3 hsg hmd hown hb3 hr3)
 refine bodyPost_ret (v := .agg #[.int .u8 (kind : Int), .slice a3 n c3, .int .u32 (v : Int), .int .i64 k, .int .i64 d]) (by simp [results, Tryz.results38, go_sem, q0, q1, q2, q3, q4]) rfl ?_
 have m : Mod (fun k => k = w.heap.size ∨ k = w.heap.size + 1) w3 _ := ((((((Mod.refl (fun k => k = w.heap.size ∨ k = w.heap.size + 1) w3).setCell (p := ⟨w.heap.size, 1, none⟩) (fun _ => .inl rfl) (.slice a3 n c3)).setCell (p := ⟨w.heap.size + 1, 0, none⟩) (fun _ => .inr rfl) (.int .u8 (kind : Int))).setCell (p := ⟨w.heap.size + 1, 1, none⟩) (fun _ => .inr rfl) (.slice a3 n c3)).setCell (p := ⟨w.heap.size + 1, 2, none⟩) (fun _ => .inr rfl) (.int .u32 (v : Int))).setCell (p := ⟨w.heap.size + 1, 3, none⟩) (fun _ => .inr rfl) (.int .i64 k)).setCell (p := ⟨w.heap.size + 1, 4, none⟩) (fun _ => .inr rfl) (.int .i64 d)
 have hs := HS3.out.1.mod m (fun b hb e => by have := HS3.out.2.2 b hb; have := HZ.out; omega)
 refine ⟨.slice a3 n c3, rfl, (HM1.out.trans HS3.out.2.1).trans' m (fun i hi e => by omega), ?_, fun b hb => Nat.le_trans HM1.out.size (HS3.out.2.2 b hb)⟩
 rw [HN.out] at hs ⊢
 exact hs
end Go.Proofs.YtpigipgoopeeoaaGreatDoor
