/- The contracts of DocReadInt and DocReadText. -/
import Derived.Test.YtggbohdgcalblaaDoorR19
namespace Go.Proofs.YtggbohdgcalblaaDoor
set_option linter.unusedVariables false
open Go.RowKit

theorem mid_rd {w : World} {k : Nat} {r : List Nat} {n d : Nat} {x : Option Addr} (h : Hid (Rd w (.slice x n d) (r.take k))) (hn : (r.take k).length = n) : ∀ j, j < n → ∃ p o, x = some ⟨p, o, none⟩ ∧ p < w.heap.size ∧ (j < k → w.cell? ⟨p, o + j, none⟩ = some (.int .u8 ((r.getD j 0 : Nat) : Int))) := by
  intro j hj
  obtain ⟨p, o, e, hp, hc⟩ := h.out.cell _ _ (by rw [hn]) j (by omega)
  refine ⟨p, o, e, hp, fun hjk => ?_⟩
  rw [hc]
  simp [List.getD_eq_getElem?_getD, hjk]
theorem resI_none (xs : List Nat) (h : readI xs = none) : Ending.returned (.tuple #[.int .i64 0, .int .i64 0, .int .i64 3]) = resI (readI xs) := by rw [h]; rfl
theorem signI_wf (t : Bool) {N : Nat} (h : N < 9223372036854775808) : -9223372036854775808 ≤ signI t N ∧ signI t N < 9223372036854775808 := by
  unfold signI; split <;> omega

set_option maxRecDepth 100000 in
set_option maxHeartbeats 4000000 in
theorem docI_any (v : Value) (xs : List Nat) (w : World) (hv : Rd w v xs) (hx : ∀ b ∈ xs, b < 256) :
    Calls Tryd.prog 26 #[v] w fun e w' => e = resI (readI xs) ∧ Mod (fun _ => False) w w' := by
  obtain ⟨a, c, hva, -⟩ := hv.shape
  have HV := Lib.hid hv
  cases xs with
  | nil =>
    subst hva
    simp only [List.length_nil]
    clear hv
    go_enter Tryd.func26, Tryd.ntmps26
    go_wp2
    go_ret3
    exact ⟨rfl, Mod.refl _ _⟩
  | cons b r =>
    obtain ⟨blk, off, rfl, hblk, q0⟩ := hv.cell a c hva 0 (by simp)
    simp only [Nat.add_zero, List.getD_cons_zero] at q0
    have hbig := hv.big
    simp only [List.length_cons] at hbig
    have hl0 : ((r.length + 1 : Nat) : Int) ≠ 0 := by omega
    have HXR : Hid (∀ b ∈ r, b < 256) := fun b hb => hx b (List.mem_cons_of_mem _ hb)
    have hb256 : b < 256 := hx b (List.mem_cons_self ..)
    have HB256 := Lib.hid hb256
    simp only [List.length_cons] at hva
    subst hva
    clear hv hx
    have hb0 : (0 : Int) ≤ (b : Int) := by omega
    have hb1 : (b : Int) < 256 := by omega
    have hz : ((r.length : Int) + 1 == 0) = false := by simp; omega
    obtain ⟨t, ht⟩ : ∃ t, t = decide (b < 16) := ⟨_, rfl⟩
    have HT := Lib.hid ht
    have HRI : ∀ (k N : Nat), k = kI b → N = digN t r k → readI (b :: r) = if k ≤ 8 ∧ k ≤ r.length ∧ sizeN N = k ∧ N < 9223372036854775808 then some (signI t N, 1 + k) else none := by
      intro k N hk hN
      subst hk hN ht
      rfl
    have hsub : ∀ k, k = kI b → ((t = true → (15 : Int) - (b : Int) = (k : Int)) ∧ (t = false → (b : Int) - 16 = (k : Int))) := by
      intro k hk
      subst hk ht
      unfold kI
      refine ⟨fun h => ?_, fun h => ?_⟩
      · have : b < 16 := by simpa using h
        rw [if_pos this]; omega
      · have : ¬ b < 16 := by simpa using h
        rw [if_neg this]; omega
    have HSUB := Lib.hid hsub
    have HRI2 := Lib.hid HRI
    have HFI : Hid (kI b ≤ 8 → kI b ≤ r.length → digN t r (kI b) < 18446744073709551616 → frontB (b :: r) (codeI (signI t (digN t r (kI b)))) = decide (sizeN (digN t r (kI b)) = kI b)) := Lib.hid (by
      intro h1 h2 h3
      subst ht
      exact frontI HXR.out hb256 h1 h2 h3)
    clear HRI hsub
    obtain ⟨k, hk⟩ : ∃ k, k = kI b := ⟨_, rfl⟩
    have HK := Lib.hid hk
    rw [← hk] at HFI
    clear hk ht
    cases t with
    | true =>
      have h16 : (b : Int) < 16 := by have := HT.out; simp at this; omega
      have hks := (HSUB.out k HK.out).1 rfl
      by_cases hk8 : k ≤ 8
      · have h8 : ¬ (8 : Int) < (k : Int) := by omega
        by_cases hkl : k ≤ r.length
        · have h9 : ¬ ((r.length + 1 : Nat) : Int) < 1 + (k : Int) := by omega
          have h10 : 1 + k ≤ (b :: r).length := by simp; omega
          have H10 := Lib.hid h10
          have HTL : Hid ((r.take k).length = k) := Lib.hid (by simp; omega)
          clear h10
          go_enter Tryd.func26, Tryd.ntmps26
          go_wp2_with (first | (refine wpList_mid_rd rfl (.tmp 37) (.const (.int .i64 1)) (.tmp 39) 23 rfl HV.out 1 (1 + k) .i64 .i64 rfl rfl rfl (by omega) H10.out Tryd.underlying23 sizeU8 ?_; intro v1 hv1 ho1; (obtain ⟨a1, n1, d1, rfl, hn1, HV1⟩ := digs_rd hv1); clear hv1 ho1; rw [HTL.out] at hn1; subst hn1))
          have HC := Lib.hid (mid_rd HV1 HTL.out)
          go_loopw [7, 42] (fun n i wr => ∃ j : Nat, n = .int .u64 (digN true r j : Nat) ∧ i = .int .i64 j ∧ j ≤ k ∧ Mod (fun _ => False) w wr) (fun _ i _ => k - (intOf i).toNat)
          case atStart => exact ⟨0, rfl, rfl, Nat.zero_le _, Mod.refl _ _⟩
          case round =>
            obtain ⟨j, rfl, rfl, hj, hmo⟩ := hrel
            have HMO := Lib.hid hmo
            clear hmo
            by_cases hjk : j < k
            · obtain ⟨p1, o1, rfl, hp1, q1⟩ := HC.out j hjk
              have d1 : wr.cell? ⟨p1, o1 + j, none⟩ = some (.int .u8 ((r.getD j 0 : Nat) : Int)) := (World.cell?_of_block (w := w) (HMO.out.block p1 hp1 (fun f => f))).trans (q1 hjk)
              have hs := digN_succ (t := true) (show j < r.length by omega)
              have hb1 := getD_lt HXR.out j
              have hlt := digN_lt7 (t := true) HXR.out (show j ≤ 7 by omega)
              have hs2 : 256 * ((digN true r j : Nat) : Int) + (255 - ((r.getD j 0 : Nat) : Int)) = ((digN true r (j + 1) : Nat) : Int) := by
                have ht1 : ((turn1 true (r.getD j 0) : Nat) : Int) = (255 - ((r.getD j 0 : Nat) : Int)) := by
                  simp only [turn1, if_true]; omega
                rw [hs]; omega
              have HS2 := Lib.hid hs2
              clear hs hs2 q1
              obtain ⟨N, hN⟩ : ∃ N, N = digN true r j := ⟨_, rfl⟩
              obtain ⟨B, hB⟩ : ∃ B, B = r.getD j 0 := ⟨_, rfl⟩
              rw [← hN] at hlt HS2 ⊢
              rw [← hB] at hb1 d1 HS2
              have hlt2 : (N : Int) < 72057594037927936 := by omega
              clear hN hB hlt
              go_wp2
              go_roundw
              case rel => exact ⟨j + 1, by rw [← HS2.out], by go_num, by omega, HMO.out.trans (by repeat (first | exact Mod.refl _ _ | apply Mod.drewN | apply Mod.drew))⟩
              case measure => simp [intOf]; omega
            · obtain rfl : j = k := by omega
              have hN64 := digN_lt (t := true) HXR.out hk8
              have HFR0 := HFI.out hk8 hkl
              have HFR := Lib.hid (HFR0 hN64)
              have HRU := Lib.hid (HRI2.out j _ HK.out rfl)
              have HSW := Lib.hid (fun h => signI_wf true (N := digN true r j) h)
              clear HFR0 HC HV1 HTL
              obtain ⟨N, hN⟩ : ∃ N, N = digN true r j := ⟨_, rfl⟩
              rw [← hN] at HFR HRU HSW ⊢
              clear hN HFI HRI2 HSUB hN64
              by_cases hbig2 : N < 9223372036854775808
              · have HU : Hid (∀ w' : World, Calls Tryd.prog 18 #[.int .i64 (-1 - (N : Int))] w' (GivesBytes w' (codeI (signI true N)))) := fun w' => refInt_any (signI true N) (HSW.out hbig2) w'
                have hge : ¬ ((9223372036854775807 : Int) < (N : Int)) := by omega
                have hlt : (N : Int) < 9223372036854775808 := by omega
                have HCL : Hid (sizeN N = j → (codeI (signI true N)).length = 1 + j) := Lib.hid (fun h => by rw [codeI_sign]; simp [turned_length, be_length, h]; omega)
                have HRU2 : Hid (readI (b :: r) = if decide (sizeN N = j) = true then some (signI true N, 1 + j) else none) := Lib.hid (by
                  rw [HRU.out]
                  by_cases h : sizeN N = j
                  · rw [if_pos ⟨hk8, hkl, h, hbig2⟩, if_pos (by simp [h])]
                  · rw [if_neg (fun h2 => h h2.2.2.1), if_neg (by simp [h])])
                have HWR : Hid (wrap64 (N : Int) = (N : Int)) := wrap64_id N hbig2
                have HSG : Hid (signI true N = -1 - (N : Int)) := rfl
                have hN0 : (0 : Int) ≤ (N : Int) := by omega
                clear HRU HSW hbig2
                obtain ⟨bb, hbb⟩ : ∃ bb : Bool, bb = decide (sizeN N = j) := ⟨_, rfl⟩
                have HBB := Lib.hid hbb
                rw [← hbb] at HFR HRU2
                clear hbb
                generalize (N : Int) = z at hge hlt HWR HSG hN0 HU ⊢
                have HNE : Hid (codeI (signI true N) ≠ []) := Lib.hid (by rw [codeI_sign]; simp)
                go_wp2_with fail
                refine (HU.out _).mono ?_
                rintro e w4 ⟨v4, rfl, hB⟩
                have R4 := Lib.hid hB.rd
                have M4 := Lib.hid (HMO.out.trans hB.mod)
                clear hB HMO
                go_wp2_with fail
                refine (front_any _ _ _ _ _ (HV.out.keep M4.out) R4.out HNE.out).mono ?_
                rintro e w5 ⟨rfl, hm⟩
                rw [HFR.out]
                have M5 := Lib.hid (M4.out.trans hm)
                clear hm M4 R4
                cases bb with
                | true =>
                  have HL := Lib.hid (HCL.out (by have := HBB.out; simpa using this.symm))
                  go_wp2_with fail
                  refine (HU.out _).mono ?_
                  rintro e w6 ⟨v6, rfl, hB⟩
                  have M6 := Lib.hid (M5.out.trans hB.mod)
                  obtain ⟨a6, c6, rfl, -⟩ := hB.seg.shape
                  clear hB M5
                  rw [HL.out]
                  go_wp2
                  go_ret3
                  exact ⟨by rw [HRU2.out]; simp [resI, HSG.out], M6.out⟩
                | false =>
                  go_wp2
                  go_ret3
                  exact ⟨by rw [HRU2.out]; rfl, M5.out⟩
              · have hge : ((9223372036854775807 : Int) < (N : Int)) := by omega
                have HF := Lib.hid (resI_none (b :: r) (by rw [HRU.out, if_neg (fun h => hbig2 h.2.2.2)]))
                clear hbig2
                go_wp2
                go_ret3
                exact ⟨HF.out, HMO.out⟩
        · have h9 : ((r.length + 1 : Nat) : Int) < 1 + (k : Int) := by omega
          have HF := Lib.hid (resI_none (b :: r) (by rw [HRI2.out k _ HK.out rfl, if_neg (fun h => hkl h.2.1)]))
          clear hkl
          go_enter Tryd.func26, Tryd.ntmps26
          go_wp2
          go_ret3
          exact ⟨HF.out, Mod.refl _ _⟩
      · have h8 : (8 : Int) < (k : Int) := by omega
        have HF := Lib.hid (resI_none (b :: r) (by rw [HRI2.out k _ HK.out rfl, if_neg (fun h => hk8 h.1)]))
        clear hk8
        go_enter Tryd.func26, Tryd.ntmps26
        go_wp2
        go_ret3
        exact ⟨HF.out, Mod.refl _ _⟩
    | false =>
      have h16 : ¬ (b : Int) < 16 := by have := HT.out; simp at this; omega
      have hks := (HSUB.out k HK.out).2 rfl
      by_cases hk8 : k ≤ 8
      · have h8 : ¬ (8 : Int) < (k : Int) := by omega
        by_cases hkl : k ≤ r.length
        · have h9 : ¬ ((r.length + 1 : Nat) : Int) < 1 + (k : Int) := by omega
          have h10 : 1 + k ≤ (b :: r).length := by simp; omega
          have H10 := Lib.hid h10
          have HTL : Hid ((r.take k).length = k) := Lib.hid (by simp; omega)
          clear h10
          go_enter Tryd.func26, Tryd.ntmps26
          go_wp2_with (first | (refine wpList_mid_rd rfl (.tmp 37) (.const (.int .i64 1)) (.tmp 39) 23 rfl HV.out 1 (1 + k) .i64 .i64 rfl rfl rfl (by omega) H10.out Tryd.underlying23 sizeU8 ?_; intro v1 hv1 ho1; (obtain ⟨a1, n1, d1, rfl, hn1, HV1⟩ := digs_rd hv1); clear hv1 ho1; rw [HTL.out] at hn1; subst hn1))
          have HC := Lib.hid (mid_rd HV1 HTL.out)
          go_loopw [7, 42] (fun n i wr => ∃ j : Nat, n = .int .u64 (digN false r j : Nat) ∧ i = .int .i64 j ∧ j ≤ k ∧ Mod (fun _ => False) w wr) (fun _ i _ => k - (intOf i).toNat)
          case atStart => exact ⟨0, rfl, rfl, Nat.zero_le _, Mod.refl _ _⟩
          case round =>
            obtain ⟨j, rfl, rfl, hj, hmo⟩ := hrel
            have HMO := Lib.hid hmo
            clear hmo
            by_cases hjk : j < k
            · obtain ⟨p1, o1, rfl, hp1, q1⟩ := HC.out j hjk
              have d1 : wr.cell? ⟨p1, o1 + j, none⟩ = some (.int .u8 ((r.getD j 0 : Nat) : Int)) := (World.cell?_of_block (w := w) (HMO.out.block p1 hp1 (fun f => f))).trans (q1 hjk)
              have hs := digN_succ (t := false) (show j < r.length by omega)
              have hb1 := getD_lt HXR.out j
              have hlt := digN_lt7 (t := false) HXR.out (show j ≤ 7 by omega)
              have hs2 : 256 * ((digN false r j : Nat) : Int) + ((r.getD j 0 : Nat) : Int) = ((digN false r (j + 1) : Nat) : Int) := by
                have ht1 : ((turn1 false (r.getD j 0) : Nat) : Int) = ((r.getD j 0 : Nat) : Int) := by
                  simp only [turn1, Bool.false_eq_true, if_false]
                rw [hs]; omega
              have HS2 := Lib.hid hs2
              clear hs hs2 q1
              obtain ⟨N, hN⟩ : ∃ N, N = digN false r j := ⟨_, rfl⟩
              obtain ⟨B, hB⟩ : ∃ B, B = r.getD j 0 := ⟨_, rfl⟩
              rw [← hN] at hlt HS2 ⊢
              rw [← hB] at hb1 d1 HS2
              have hlt2 : (N : Int) < 72057594037927936 := by omega
              clear hN hB hlt
              go_wp2
              go_roundw
              case rel => exact ⟨j + 1, by rw [← HS2.out], by go_num, by omega, HMO.out.trans (by repeat (first | exact Mod.refl _ _ | apply Mod.drewN | apply Mod.drew))⟩
              case measure => simp [intOf]; omega
            · obtain rfl : j = k := by omega
              have hN64 := digN_lt (t := false) HXR.out hk8
              have HFR0 := HFI.out hk8 hkl
              have HFR := Lib.hid (HFR0 hN64)
              have HRU := Lib.hid (HRI2.out j _ HK.out rfl)
              have HSW := Lib.hid (fun h => signI_wf false (N := digN false r j) h)
              clear HFR0 HC HV1 HTL
              obtain ⟨N, hN⟩ : ∃ N, N = digN false r j := ⟨_, rfl⟩
              rw [← hN] at HFR HRU HSW ⊢
              clear hN HFI HRI2 HSUB hN64
              by_cases hbig2 : N < 9223372036854775808
              · have HU : Hid (∀ w' : World, Calls Tryd.prog 18 #[.int .i64 ((N : Int))] w' (GivesBytes w' (codeI (signI false N)))) := fun w' => refInt_any (signI false N) (HSW.out hbig2) w'
                have hge : ¬ ((9223372036854775807 : Int) < (N : Int)) := by omega
                have hlt : (N : Int) < 9223372036854775808 := by omega
                have HCL : Hid (sizeN N = j → (codeI (signI false N)).length = 1 + j) := Lib.hid (fun h => by rw [codeI_sign]; simp [turned_length, be_length, h]; omega)
                have HRU2 : Hid (readI (b :: r) = if decide (sizeN N = j) = true then some (signI false N, 1 + j) else none) := Lib.hid (by
                  rw [HRU.out]
                  by_cases h : sizeN N = j
                  · rw [if_pos ⟨hk8, hkl, h, hbig2⟩, if_pos (by simp [h])]
                  · rw [if_neg (fun h2 => h h2.2.2.1), if_neg (by simp [h])])
                have HWR : Hid (wrap64 (N : Int) = (N : Int)) := wrap64_id N hbig2
                have HSG : Hid (signI false N = (N : Int)) := rfl
                have hN0 : (0 : Int) ≤ (N : Int) := by omega
                clear HRU HSW hbig2
                obtain ⟨bb, hbb⟩ : ∃ bb : Bool, bb = decide (sizeN N = j) := ⟨_, rfl⟩
                have HBB := Lib.hid hbb
                rw [← hbb] at HFR HRU2
                clear hbb
                generalize (N : Int) = z at hge hlt HWR HSG hN0 HU ⊢
                have HNE : Hid (codeI (signI false N) ≠ []) := Lib.hid (by rw [codeI_sign]; simp)
                go_wp2_with fail
                refine (HU.out _).mono ?_
                rintro e w4 ⟨v4, rfl, hB⟩
                have R4 := Lib.hid hB.rd
                have M4 := Lib.hid (HMO.out.trans hB.mod)
                clear hB HMO
                go_wp2_with fail
                refine (front_any _ _ _ _ _ (HV.out.keep M4.out) R4.out HNE.out).mono ?_
                rintro e w5 ⟨rfl, hm⟩
                rw [HFR.out]
                have M5 := Lib.hid (M4.out.trans hm)
                clear hm M4 R4
                cases bb with
                | true =>
                  have HL := Lib.hid (HCL.out (by have := HBB.out; simpa using this.symm))
                  go_wp2_with fail
                  refine (HU.out _).mono ?_
                  rintro e w6 ⟨v6, rfl, hB⟩
                  have M6 := Lib.hid (M5.out.trans hB.mod)
                  obtain ⟨a6, c6, rfl, -⟩ := hB.seg.shape
                  clear hB M5
                  rw [HL.out]
                  go_wp2
                  go_ret3
                  exact ⟨by rw [HRU2.out]; simp [resI, HSG.out], M6.out⟩
                | false =>
                  go_wp2
                  go_ret3
                  exact ⟨by rw [HRU2.out]; rfl, M5.out⟩
              · have hge : ((9223372036854775807 : Int) < (N : Int)) := by omega
                have HF := Lib.hid (resI_none (b :: r) (by rw [HRU.out, if_neg (fun h => hbig2 h.2.2.2)]))
                clear hbig2
                go_wp2
                go_ret3
                exact ⟨HF.out, HMO.out⟩
        · have h9 : ((r.length + 1 : Nat) : Int) < 1 + (k : Int) := by omega
          have HF := Lib.hid (resI_none (b :: r) (by rw [HRI2.out k _ HK.out rfl, if_neg (fun h => hkl h.2.1)]))
          clear hkl
          go_enter Tryd.func26, Tryd.ntmps26
          go_wp2
          go_ret3
          exact ⟨HF.out, Mod.refl _ _⟩
      · have h8 : (8 : Int) < (k : Int) := by omega
        have HF := Lib.hid (resI_none (b :: r) (by rw [HRI2.out k _ HK.out rfl, if_neg (fun h => hk8 h.1)]))
        clear hk8
        go_enter Tryd.func26, Tryd.ntmps26
        go_wp2
        go_ret3
        exact ⟨HF.out, Mod.refl _ _⟩
end Go.Proofs.YtggbohdgcalblaaDoor
