import Derived.Test.YtlpdifinkcjckaaGreatDoorMEn19
set_option linter.unusedVariables false
set_option linter.unusedSimpArgs false
namespace Go.Proofs.YtlpdifinkcjckaaGreatDoor
open Go.RowKit
set_option maxRecDepth 100000 in
set_option maxHeartbeats 4000000 in
theorem formed_0 (kind a b key vk : Nat) (vn : Int) (vs : ByteArray) (w : World) (hk : kind < 1 ∨ 9 < kind) :
   Calls Tryz.prog 80 #[.agg #[.int .u8 (kind : Int), .int .u32 (a : Int), .int .u32 (b : Int), .int .u8 (key : Int), .int .u8 (vk : Int), .int .i64 vn, .string vs]] w fun e w' => e = .returned (.bool (opOK ⟨kind, a, b, key, ⟨vk, vn, vs⟩⟩)) ∧ Mod (fun _ => False) w w' := by
 have HF : Hid (opOK ⟨kind, a, b, key, ⟨vk, vn, vs⟩⟩ = false) := Lib.hid (by
   unfold opOK
   rcases hk with h | h
   · have : ¬ 1 ≤ kind := by omega
     simp [this]
   · have : ¬ kind ≤ 9 := by omega
     simp [this])
 have HU := Lib.hid (uses_K kind kind rfl false false false false (by
   unfold twoK keyK valK kindK
   refine ⟨?_, ?_, ?_, ?_⟩ <;> simp <;> omega))
 clear hk
 go_enter Tryz.func80, Tryz.ntmps80
 go_wp2_with (go_at_call 97; refine (HU.out _).mono ?_; (rintro e w1 ⟨rfl, rfl⟩))
 go_ret
 exact ⟨ret_bool HF.out.symm, (Mod.refl _ _).alloc _⟩
theorem formed_any (o : Opr) (ho : o.Fits) (w : World) : Calls Tryz.prog 80 #[o.v] w fun e w' => e = .returned (.bool (opOK o)) ∧ Mod (fun _ => False) w w' := by
 obtain ⟨kind, a, b, key, ⟨vk, vn, vs⟩⟩ := o
 by_cases h0 : kind < 1 ∨ 9 < kind
 · exact formed_0 kind a b key vk vn vs w h0
 · have hk : kind = 1 ∨ kind = 2 ∨ kind = 3 ∨ kind = 4 ∨ kind = 5 ∨ kind = 6 ∨ kind = 7 ∨ kind = 8 ∨ kind = 9 := by omega
   rcases hk with rfl | rfl | rfl | rfl | rfl | rfl | rfl | rfl | rfl
   · exact formed_1 a b key vk vn vs w ho.val
   · exact formed_2 a b key vk vn vs w ho.val
   · exact formed_3 a b key vk vn vs w ho.val
   · exact formed_4 a b key vk vn vs w ho.val
   · exact formed_5 a b key vk vn vs w ho.val
   · exact formed_6 a b key vk vn vs w ho.val
   · exact formed_7 a b key vk vn vs w ho.val
   · exact formed_8 a b key vk vn vs w ho.val
   · exact formed_9 a b key vk vn vs w ho.val
theorem fop_call (kind a b key vk : Nat) (vn : Int) (vs : ByteArray) (ho : Opr.Fits ⟨kind, a, b, key, ⟨vk, vn, vs⟩⟩) (w : World) : Calls Tryz.prog 80 #[.agg #[.int .u8 (kind : Int), .int .u32 (a : Int), .int .u32 (b : Int), .int .u8 (key : Int), .int .u8 (vk : Int), .int .i64 vn, .string vs]] w fun e w' => e = .returned (.bool (opOK ⟨kind, a, b, key, ⟨vk, vn, vs⟩⟩)) ∧ Mod (fun _ => False) w w' := formed_any ⟨kind, a, b, key, ⟨vk, vn, vs⟩⟩ ho w
set_option maxRecDepth 100000 in
set_option maxHeartbeats 4000000 in
theorem all_any (ops : List Opr) (vo : Value) (w : World) (ho : ORd w vo ops) :
   Calls Tryz.prog 53 #[vo] w fun e w' => e = .returned (.bool (ops.all opOK)) ∧ Mod (fun _ => False) w w' := by
 have HV := Lib.hid ho
 obtain ⟨a, c, rfl, hc1, hc2, -⟩ := ho.row.shape
 obtain ⟨n, hn⟩ : ∃ n, n = ops.length := ⟨_, rfl⟩
 have HN := Lib.hid hn
 rw [← hn] at HV hc1 ⊢
 clear hn ho
 go_enter Tryz.func53, Tryz.ntmps53
 go_wp2
 go_loopw [7] (fun i wr => ∃ j : Nat, i = .int .i64 j ∧ j ≤ n ∧ (ops.take j).all opOK = true ∧ Mod (fun _ => False) w wr) (fun i _ => n - (intOf i).toNat)
 case atStart => exact ⟨0, rfl, Nat.zero_le _, by simp, Mod.refl _ _⟩
 case round =>
   obtain ⟨j, rfl, hj, hall, hm⟩ := hrel
   have HALL := Lib.hid hall
   have HM := Lib.hid hm
   clear hall hm
   by_cases hjn : j < n
   · obtain ⟨x, hx⟩ : ∃ x, ops[j]? = some x := ⟨_, List.getElem?_eq_getElem (by rw [← HN.out]; exact hjn)⟩
     obtain ⟨bl, offl, e0, hbl, r0, r1, r2, r3, r4, r5, r6⟩ := HV.out.ent hx rfl
     have r0 := HM.out.cell r0
     have r1 := HM.out.cell r1
     have r2 := HM.out.cell r2
     have r3 := HM.out.cell r3
     have r4 := HM.out.cell r4
     have r5 := HM.out.cell r5
     have r6 := HM.out.cell r6
     have zbl : bl < wr.heap.size := Nat.lt_of_lt_of_le hbl HM.out.size
     have HTK := Lib.hid (take_snoc hx)
     have HFO := Lib.hid (HV.out.fits x (List.mem_of_getElem? hx))
     have HMEM := Lib.hid (List.mem_of_getElem? hx)
     clear hx hbl
     obtain ⟨kind, oa, ob, okey, ⟨vk, vn, vs⟩⟩ := x
     simp only at r0 r1 r2 r3 r4 r5 r6
     subst e0
     obtain ⟨bo, hbo⟩ : ∃ bo, opOK ⟨kind, oa, ob, okey, ⟨vk, vn, vs⟩⟩ = bo := ⟨_, rfl⟩
     have HBO := Lib.hid hbo
     have HOP := Lib.hid (fop_call kind oa ob okey vk vn vs HFO.out)
     rw [hbo] at HOP
     clear hbo
     cases bo with
     | true =>
       go_wp2_with (go_at_call 80; refine (HOP.out _).mono ?_; (rintro e w1 ⟨rfl, hm1⟩); have HM1 := Lib.hid (((Mod.refl (fun _ => False) wr).alloc _).trans hm1); clear hm1)
       go_roundw
       case rel => exact ⟨j + 1, by go_num, by omega, by rw [HTK.out, List.all_append, HALL.out]; simp [HBO.out], HM.out.trans HM1.out⟩
       case measure => simp [intOf]; omega
     | false =>
       have HR : Hid (ops.all opOK = false) := Lib.hid (by
         rw [List.all_eq_false]
         exact ⟨_, HMEM.out, by rw [HBO.out]; simp⟩)
       go_wp2_with (go_at_call 80; refine (HOP.out _).mono ?_; (rintro e w1 ⟨rfl, hm1⟩); have HM1 := Lib.hid (((Mod.refl (fun _ => False) wr).alloc _).trans hm1); clear hm1)
       go_ret
       exact ⟨ret_bool HR.out.symm, HM.out.trans HM1.out⟩
   · have HALT : Hid (ops.all opOK = true) := Lib.hid (by
       have h := HALL.out
       rwa [List.take_of_length_le (by have := HN.out; omega)] at h)
     go_wp2
     go_ret
     exact ⟨ret_bool HALT.out.symm, HM.out⟩
theorem all_b (ops : List Opr) (vo : Value) (w : World) (ho : ORd w vo ops) (b : Bool) (h : ops.all opOK = b) (w0 : World) (m : Mod (fun _ => False) w w0) : Calls Tryz.prog 53 #[vo] w0 fun e w' => e = .returned (.bool b) ∧ Mod (fun _ => False) w w' := by
 have h1 := all_any ops vo w0 (ho.keep m)
 rw [h] at h1
 exact h1.mono fun e w' ⟨he, hm⟩ => ⟨he, m.trans hm⟩
set_option maxRecDepth 100000 in
set_option maxHeartbeats 4000000 in
theorem gcheck_1 (ops : List Opr) (n v : Nat) (k d : Int) (a : Option Addr) (c : Nat) (w : World) (hn : n = ops.length) (ho : ORd w (.slice a n c) ops) :
   Calls Tryz.prog 32 #[.agg #[.int .u8 1, .slice a n c, .int .u32 (v : Int), .int .i64 k, .int .i64 d]] w fun e w' => e = .returned (.int .i64 ((checkT n (ops.all opOK) v k d : Nat))) ∧ Mod (fun _ => False) w w' := by
 obtain ⟨z, hz⟩ : ∃ z, z = checkT n (ops.all opOK) v k d := ⟨_, rfl⟩
 rw [← hz]
 have HZ := Lib.hid hz
 have HO := Lib.hid ho
 have HM : Hid (∀ o : Obj, Mod (fun _ => False) w (w.alloc o)) := Lib.hid (fun o => (Mod.refl _ _).alloc o)
 clear hz hn ho
 by_cases h0 : n = 0
 · subst h0
   have HQ : Hid (z = 2) := Lib.hid (by rw [HZ.out]; simp [checkT])
   go_enter Tryz.func32, Tryz.ntmps32
   go_wp2
   go_ret
   exact ⟨by rw [HQ.out]; rfl, HM.out _⟩
 have h0' : ((n : Int) == 0) = false := by simp; omega
 by_cases h6 : 6 < n
 · have h6' : (6 : Int) < (n : Int) := by omega
   have HQ : Hid (z = 2) := Lib.hid (by rw [HZ.out]; simp [checkT, h6])
   clear h0 h6
   go_enter Tryz.func32, Tryz.ntmps32
   go_wp2
   go_ret
   exact ⟨by rw [HQ.out]; rfl, HM.out _⟩
 have h6' : ¬ (6 : Int) < (n : Int) := by omega
 have HNL : Hid (¬ (n < 1 ∨ 6 < n)) := Lib.hid (by omega)
 clear h0 h6
 cases hall : ops.all opOK with
 | false =>
   have HQ : Hid (z = 3) := Lib.hid (by rw [HZ.out]; unfold checkT; rw [if_neg HNL.out, if_pos hall])
   have HA := Lib.hid (all_b ops _ w HO.out false hall)
   clear hall
   by_cases hv : v = 0
   · subst hv
     by_cases hk : k = 0
     · subst hk
       by_cases hd : d = 0
       · subst hd
         go_enter Tryz.func32, Tryz.ntmps32
         go_wp2_with (go_at_call 53; refine (HA.out _ (HM.out _)).mono ?_; (rintro e w1 ⟨rfl, hm1⟩); have HM1 := Lib.hid hm1; clear hm1)
         go_ret
         exact ⟨by rw [HQ.out]; rfl, HM1.out⟩
       · have hd' : (d != 0) = true := by simp [hd]
         clear hd
         go_enter Tryz.func32, Tryz.ntmps32
         go_wp2
         go_ret
         exact ⟨by rw [HQ.out]; rfl, HM.out _⟩
     · have hk' : (k != 0) = true := by simp [hk]
       clear hk
       go_enter Tryz.func32, Tryz.ntmps32
       go_wp2
       go_ret
       exact ⟨by rw [HQ.out]; rfl, HM.out _⟩
   · have hv' : ((v : Int) != 0) = true := by simp; omega
     clear hv
     go_enter Tryz.func32, Tryz.ntmps32
     go_wp2
     go_ret
     exact ⟨by rw [HQ.out]; rfl, HM.out _⟩
 | true =>
   have HA := Lib.hid (all_b ops _ w HO.out true hall)
   have HZ2 : Hid (z = if v ≠ 0 ∨ k ≠ 0 ∨ d ≠ 0 then 3 else 0) := Lib.hid (by rw [HZ.out]; unfold checkT; rw [if_neg HNL.out, hall]; simp)
   clear hall
   by_cases hv : v = 0
   · subst hv
     by_cases hk : k = 0
     · subst hk
       by_cases hd : d = 0
       · subst hd
         have HQ : Hid (z = 0) := Lib.hid (by rw [HZ2.out]; simp)
         go_enter Tryz.func32, Tryz.ntmps32
         go_wp2_with (go_at_call 53; refine (HA.out _ (HM.out _)).mono ?_; (rintro e w1 ⟨rfl, hm1⟩); have HM1 := Lib.hid hm1; clear hm1)
         go_ret
         exact ⟨by rw [HQ.out]; rfl, HM1.out⟩
       · have HQ : Hid (z = 3) := Lib.hid (by rw [HZ2.out]; simp [hd])
         have hd' : (d != 0) = true := by simp [hd]
         clear hd
         go_enter Tryz.func32, Tryz.ntmps32
         go_wp2
         go_ret
         exact ⟨by rw [HQ.out]; rfl, HM.out _⟩
     · have HQ : Hid (z = 3) := Lib.hid (by rw [HZ2.out]; simp [hk])
       have hk' : (k != 0) = true := by simp [hk]
       clear hk
       go_enter Tryz.func32, Tryz.ntmps32
       go_wp2
       go_ret
       exact ⟨by rw [HQ.out]; rfl, HM.out _⟩
   · have HQ : Hid (z = 3) := Lib.hid (by rw [HZ2.out]; simp [hv])
     have hv' : ((v : Int) != 0) = true := by simp; omega
     clear hv
     go_enter Tryz.func32, Tryz.ntmps32
     go_wp2
     go_ret
     exact ⟨by rw [HQ.out]; rfl, HM.out _⟩
set_option maxRecDepth 100000 in
set_option maxHeartbeats 4000000 in
theorem gcheck_2 (n v : Nat) (k d : Int) (a : Option Addr) (c : Nat) (w : World) :
   Calls Tryz.prog 32 #[.agg #[.int .u8 2, .slice a n c, .int .u32 (v : Int), .int .i64 k, .int .i64 d]] w fun e w' => e = .returned (.int .i64 ((checkO n v k d 8 : Nat))) ∧ Mod (fun _ => False) w w' := by
 obtain ⟨z, hz⟩ : ∃ z, z = checkO n v k d 8 := ⟨_, rfl⟩
 rw [← hz]
 have HZ := Lib.hid hz
 have HM : Hid (∀ o : Obj, Mod (fun _ => False) w (w.alloc o)) := Lib.hid (fun o => (Mod.refl _ _).alloc o)
 clear hz
 by_cases h0 : k < 0
 · have HQ : Hid (z = 1) := Lib.hid (by rw [HZ.out]; unfold checkO; rw [if_pos (.inl h0)])
   go_enter Tryz.func32, Tryz.ntmps32
   go_wp2
   go_ret
   exact ⟨by rw [HQ.out]; rfl, HM.out _⟩
 by_cases h1 : 8 < k
 · have HQ : Hid (z = 1) := Lib.hid (by rw [HZ.out]; unfold checkO; rw [if_pos (.inr h1)])
   have h2 : 8 < k := by omega
   go_enter Tryz.func32, Tryz.ntmps32
   go_wp2
   go_ret
   exact ⟨by rw [HQ.out]; rfl, HM.out _⟩
 have h2 : ¬ 8 < k := by omega
 have HZ2 : Hid (z = if 0 < n ∨ numB v = false ∨ d ≠ 0 then 3 else 0) := Lib.hid (by rw [HZ.out]; unfold checkO; rw [if_neg (by omega)])
 by_cases hy : d = 0
 · subst hy
   by_cases hn : 0 < n
   · have HQ : Hid (z = 3) := Lib.hid (by rw [HZ2.out]; simp [hn])
     have hn' : (0 : Int) < (n : Int) := by omega
     clear hn
     go_enter Tryz.func32, Tryz.ntmps32
     go_wp2
     go_ret
     exact ⟨by rw [HQ.out]; rfl, HM.out _⟩
   · obtain rfl : n = 0 := by omega
     clear hn
     cases hb : numB v with
     | true =>
       have HQ : Hid (z = 0) := Lib.hid (by rw [HZ2.out]; simp [hb])
       have HN := Lib.hid (number_b v true hb)
       clear hb
       go_enter Tryz.func32, Tryz.ntmps32
       go_wp2_with (go_at_call 54; refine (HN.out _).mono ?_; (rintro e w1 ⟨rfl, rfl⟩))
       go_ret
       exact ⟨by rw [HQ.out]; rfl, HM.out _⟩
     | false =>
       have HQ : Hid (z = 3) := Lib.hid (by rw [HZ2.out]; simp [hb])
       have HN := Lib.hid (number_b v false hb)
       clear hb
       go_enter Tryz.func32, Tryz.ntmps32
       go_wp2_with (go_at_call 54; refine (HN.out _).mono ?_; (rintro e w1 ⟨rfl, rfl⟩))
       go_ret
       exact ⟨by rw [HQ.out]; rfl, HM.out _⟩
 · have HQ : Hid (z = 3) := Lib.hid (by rw [HZ2.out]; simp [hy])
   have hy' : (d != 0) = true := by simp [hy]
   clear hy
   go_enter Tryz.func32, Tryz.ntmps32
   go_wp2
   go_ret
   exact ⟨by rw [HQ.out]; rfl, HM.out _⟩
set_option maxRecDepth 100000 in
set_option maxHeartbeats 4000000 in
theorem gcheck_3 (n v : Nat) (k d : Int) (a : Option Addr) (c : Nat) (w : World) :
   Calls Tryz.prog 32 #[.agg #[.int .u8 3, .slice a n c, .int .u32 (v : Int), .int .i64 k, .int .i64 d]] w fun e w' => e = .returned (.int .i64 ((checkO n v d k 3 : Nat))) ∧ Mod (fun _ => False) w w' := by
 obtain ⟨z, hz⟩ : ∃ z, z = checkO n v d k 3 := ⟨_, rfl⟩
 rw [← hz]
 have HZ := Lib.hid hz
 have HM : Hid (∀ o : Obj, Mod (fun _ => False) w (w.alloc o)) := Lib.hid (fun o => (Mod.refl _ _).alloc o)
 clear hz
 by_cases h0 : d < 0
 · have HQ : Hid (z = 1) := Lib.hid (by rw [HZ.out]; unfold checkO; rw [if_pos (.inl h0)])
   go_enter Tryz.func32, Tryz.ntmps32
   go_wp2
   go_ret
   exact ⟨by rw [HQ.out]; rfl, HM.out _⟩
 by_cases h1 : 3 < d
 · have HQ : Hid (z = 1) := Lib.hid (by rw [HZ.out]; unfold checkO; rw [if_pos (.inr h1)])
   have h2 : 4 ≤ d := by omega
   go_enter Tryz.func32, Tryz.ntmps32
   go_wp2
   go_ret
   exact ⟨by rw [HQ.out]; rfl, HM.out _⟩
 have h2 : ¬ 4 ≤ d := by omega
 have HZ2 : Hid (z = if 0 < n ∨ numB v = false ∨ k ≠ 0 then 3 else 0) := Lib.hid (by rw [HZ.out]; unfold checkO; rw [if_neg (by omega)])
 by_cases hy : k = 0
 · subst hy
   by_cases hn : 0 < n
   · have HQ : Hid (z = 3) := Lib.hid (by rw [HZ2.out]; simp [hn])
     have hn' : (0 : Int) < (n : Int) := by omega
     clear hn
     go_enter Tryz.func32, Tryz.ntmps32
     go_wp2
     go_ret
     exact ⟨by rw [HQ.out]; rfl, HM.out _⟩
   · obtain rfl : n = 0 := by omega
     clear hn
     cases hb : numB v with
     | true =>
       have HQ : Hid (z = 0) := Lib.hid (by rw [HZ2.out]; simp [hb])
       have HN := Lib.hid (number_b v true hb)
       clear hb
       go_enter Tryz.func32, Tryz.ntmps32
       go_wp2_with (go_at_call 54; refine (HN.out _).mono ?_; (rintro e w1 ⟨rfl, rfl⟩))
       go_ret
       exact ⟨by rw [HQ.out]; rfl, HM.out _⟩
     | false =>
       have HQ : Hid (z = 3) := Lib.hid (by rw [HZ2.out]; simp [hb])
       have HN := Lib.hid (number_b v false hb)
       clear hb
       go_enter Tryz.func32, Tryz.ntmps32
       go_wp2_with (go_at_call 54; refine (HN.out _).mono ?_; (rintro e w1 ⟨rfl, rfl⟩))
       go_ret
       exact ⟨by rw [HQ.out]; rfl, HM.out _⟩
 · have HQ : Hid (z = 3) := Lib.hid (by rw [HZ2.out]; simp [hy])
   have hy' : (k != 0) = true := by simp [hy]
   clear hy
   go_enter Tryz.func32, Tryz.ntmps32
   go_wp2
   go_ret
   exact ⟨by rw [HQ.out]; rfl, HM.out _⟩
set_option maxRecDepth 100000 in
set_option maxHeartbeats 4000000 in
theorem gcheck_0 (kind n v : Nat) (k d : Int) (a : Option Addr) (c : Nat) (w : World) (hk : kind < 1 ∨ 3 < kind) :
   Calls Tryz.prog 32 #[.agg #[.int .u8 (kind : Int), .slice a n c, .int .u32 (v : Int), .int .i64 k, .int .i64 d]] w fun e w' => e = .returned (.int .i64 (1)) ∧ Mod (fun _ => False) w w' := by
 have k1 : ((kind : Int) == 1) = false := by simp; omega
 have k2 : ((kind : Int) == 2) = false := by simp; omega
 have k3 : ((kind : Int) == 3) = false := by simp; omega
 clear hk
 go_enter Tryz.func32, Tryz.ntmps32
 go_wp2
 go_ret
 exact ⟨rfl, (Mod.refl _ _).alloc _⟩
theorem gcheck_any (r : Rqt) (vo : Value) (w : World) (ho : ORd w vo r.ops) : Calls Tryz.prog 32 #[rqV r vo] w fun e w' => e = .returned (.int .i64 (checkR r : Nat)) ∧ Mod (fun _ => False) w w' := by
 obtain ⟨kind, ops, v, k, d⟩ := r
 obtain ⟨a, c, rfl, -⟩ := ho.row.shape
 simp only at ho ⊢
 by_cases h0 : kind < 1 ∨ 3 < kind
 · have e : checkR ⟨kind, ops, v, k, d⟩ = 1 := by unfold checkR; rw [if_pos (by rcases h0 with h | h; exact .inl h; exact .inr (.inl h))]
   rw [e]
   exact gcheck_0 kind _ v k d a c w h0
 · by_cases h1 : kind = 1
   · subst h1; rw [checkR_1]; exact gcheck_1 ops _ v k d a c w rfl ho
   · by_cases h2 : kind = 2
     · subst h2; rw [checkR_2]; exact gcheck_2 _ v k d a c w
     · obtain rfl : kind = 3 := by omega
       rw [checkR_3]; exact gcheck_3 _ v k d a c w
end Go.Proofs.YtlpdifinkcjckaaGreatDoor
