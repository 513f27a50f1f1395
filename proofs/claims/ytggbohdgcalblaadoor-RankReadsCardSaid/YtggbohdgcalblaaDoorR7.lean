/- The contract of ReadInt. -/
import Derived.Test.YtggbohdgcalblaaDoorR6
namespace Go.Proofs.YtggbohdgcalblaaDoor
set_option linter.unusedVariables false
open Go.RowKit

theorem wrap64_id (a : Nat) (ha : a < 9223372036854775808) : wrap64 (a : Int) = (a : Int) := by unfold wrap64; omega
theorem not_pos (a : Nat) (ha : a < 9223372036854775808) : bits .xor .i64 (-1) (a : Int) = -1 - (a : Int) := by
  show IntKind.i64.wrap ((BitVec.ofInt 64 (-1) ^^^ BitVec.ofInt 64 (a : Int)).toNat : Int) = _
  have h1 : BitVec.ofInt 64 (-1) = BitVec.allOnes 64 := by decide
  rw [h1, BitVec.allOnes_xor, BitVec.toNat_not, BitVec.toNat_ofInt]
  simp [IntKind.wrap, IntKind.bits, IntKind.signed]
  omega
def kI (b : Nat) : Nat := if b < 16 then 15 - b else b - 16
def signI (t : Bool) (N : Nat) : Int := if t then -1 - (N : Int) else N
def readI : List Nat → Option (Int × Nat)
  | [] => none
  | b :: r => if kI b ≤ 8 ∧ kI b ≤ r.length ∧ sizeN (digN (decide (b < 16)) r (kI b)) = kI b ∧ digN (decide (b < 16)) r (kI b) < 9223372036854775808 then
      some (signI (decide (b < 16)) (digN (decide (b < 16)) r (kI b)), 1 + kI b) else none
def resI : Option (Int × Nat) → Ending
  | none => .returned (.tuple #[.int .i64 0, .int .i64 0, .int .i64 3])
  | some (n, i) => .returned (.tuple #[.int .i64 n, .int .i64 (i : Int), .int .i64 0])
theorem dig_call (t : Bool) (k : Nat) (r : List Nat) (w : World) (hr : ∀ b ∈ r, b < 256) : ∃ N : Nat, ∃ B : Bool,
    (∀ v1, Rd w v1 r → Calls Tryd.prog 30 #[v1, .int .i64 k, .int .u8 (maskOf t)] w fun e w' => e = .returned (.tuple #[.int .u64 N, .bool B]) ∧ Mod (fun _ => False) w w') ∧
    (B = true → k ≤ 8 ∧ k ≤ r.length ∧ sizeN (digN t r k) = k ∧ N = digN t r k ∧ N < 18446744073709551616) ∧ (B = false → ¬ (k ≤ 8 ∧ k ≤ r.length ∧ sizeN (digN t r k) = k)) := by
  by_cases h : k ≤ 8 ∧ k ≤ r.length
  · refine ⟨digN t r k, decide (sizeN (digN t r k) = k), fun v1 h1 => digits_any v1 r k t w h1 hr h.1 h.2, fun hB => ?_, fun hB => ?_⟩
    · exact ⟨h.1, h.2, by simpa using hB, rfl, digN_lt hr h.1⟩
    · have : ¬ sizeN (digN t r k) = k := by simpa using hB
      exact fun h2 => this h2.2.2
  · exact ⟨0, false, fun v1 h1 => (digits_fail v1 r k _ w h1 (by omega)).mono fun e w' h => ⟨h.1, by rw [← h.2]; exact Mod.refl _ _⟩, (fun hB => by cases hB), fun _ h2 => h ⟨h2.1, h2.2.1⟩⟩

theorem readI_of {b N : Nat} {B : Bool} {r : List Nat} (h1 : B = true → kI b ≤ 8 ∧ kI b ≤ r.length ∧ sizeN (digN (decide (b < 16)) r (kI b)) = kI b ∧ N = digN (decide (b < 16)) r (kI b) ∧ N < 18446744073709551616)
    (h2 : B = false → ¬ (kI b ≤ 8 ∧ kI b ≤ r.length ∧ sizeN (digN (decide (b < 16)) r (kI b)) = kI b)) :
    readI (b :: r) = if B = true ∧ N < 9223372036854775808 then some (signI (decide (b < 16)) N, 1 + kI b) else none := by
  cases B with
  | false =>
    have h := h2 rfl
    simp only [readI]
    rw [if_neg (fun h2 => h ⟨h2.1, h2.2.1, h2.2.2.1⟩), if_neg (by simp)]
  | true =>
    obtain ⟨a1, a2, a3, rfl, _⟩ := h1 rfl
    simp only [readI]
    by_cases hN : digN (decide (b < 16)) r (kI b) < 9223372036854775808
    · rw [if_pos ⟨a1, a2, a3, hN⟩, if_pos ⟨trivial, hN⟩]
    · rw [if_neg (fun h => hN h.2.2.2), if_neg (fun h => hN h.2)]

set_option maxRecDepth 100000 in
set_option maxHeartbeats 4000000 in
theorem readI_any (v : Value) (xs : List Nat) (w : World) (hv : Rd w v xs) (hx : ∀ b ∈ xs, b < 256) :
    Calls Tryd.prog 23 #[v] w fun e w' => e = resI (readI xs) ∧ Mod (fun _ => False) w w' := by
  obtain ⟨a, c, hva, -⟩ := hv.shape
  have HV := Lib.hid hv
  cases xs with
  | nil =>
    subst hva
    simp only [List.length_nil]
    clear hv
    go_enter Tryd.func23, Tryd.ntmps23
    go_wp2
    go_ret3
    exact ⟨rfl, Mod.refl _ _⟩
  | cons b r =>
    obtain ⟨blk, off, rfl, hblk, q0⟩ := hv.cell a c hva 0 (by simp)
    simp only [Nat.add_zero, List.getD_cons_zero] at q0
    have hl0 : ((r.length + 1 : Nat) : Int) ≠ 0 := by omega
    have hl1 : 1 ≤ (b :: r).length := by simp
    have HXR : Hid (∀ b ∈ r, b < 256) := fun b hb => hx b (List.mem_cons_of_mem _ hb)
    have hk256 : b < 256 := hx b (List.mem_cons_self ..)
    simp only [List.length_cons] at hva
    subst hva
    clear hv hx
    have hb0 : (0 : Int) ≤ (b : Int) := by omega
    have hb1 : (b : Int) < 256 := by omega
    obtain ⟨N, B, hD1, hD2, hD3⟩ := dig_call (decide (b < 16)) (kI b) r w HXR.out
    have HD1 := Lib.hid hD1
    have HD2 := Lib.hid hD2
    have HD3 := Lib.hid hD3
    clear hD1 hD2 hD3
    by_cases hb16 : b < 16
    · have hlt : (b : Int) - 16 < 0 := by omega
      have hk : (-1 - ((b : Int) - 16)) = ((kI b : Nat) : Int) := by unfold kI; rw [if_pos hb16]; omega
      have hmask : maskOf (decide (b < 16)) = 255 := by simp [maskOf, hb16]
      rw [hmask] at HD1
      have HRI : Hid (readI (b :: r) = if B = true ∧ N < 9223372036854775808 then some (-1 - (N : Int), 1 + kI b) else none) := by
        have h := readI_of HD2.out HD3.out
        simp only [signI, hb16, decide_true, if_true] at h
        exact Lib.hid h
      clear hmask
      obtain ⟨K, hK⟩ : ∃ K, K = kI b := ⟨_, rfl⟩
      have HK := Lib.hid hK
      rw [← hK] at HRI HD1 hk
      clear hK
      go_enter Tryd.func23, Tryd.ntmps23
      go_wp2_with (first | (refine wpList_from_rd rfl (.tmp 22) (.const (.int .i64 1)) 23 rfl HV.out 1 .i64 rfl rfl hl1 Tryd.underlying23 sizeU8 ?_; intro v1 hv1 ho1; have HV1 := Lib.hid hv1; clear hv1 ho1))
      refine (HD1.out _ HV1.out).mono ?_
      rintro e w' ⟨rfl, hm⟩
      have HM := Lib.hid hm
      clear hm
      cases B with
      | false =>
        have HF : Hid (resI (readI (b :: r)) = .returned (.tuple #[.int .i64 0, .int .i64 0, .int .i64 3])) := by
          show _ = _
          rw [HRI.out, if_neg (by simp)]; rfl
        go_wp2
        go_ret3
        exact ⟨HF.out.symm, HM.out⟩
      | true =>
        by_cases hN : N < 9223372036854775808
        · have HF : Hid (resI (readI (b :: r)) = .returned (.tuple #[.int .i64 (-1 - (N : Int)), .int .i64 (1 + (kI b : Int)), .int .i64 0])) := by
            show _ = _
            rw [HRI.out, if_pos ⟨rfl, hN⟩, HK.out]; simp [resI]
          have hge : ¬ ((9223372036854775808 : Int) ≤ (N : Int)) := by omega
          have hge' : (N : Int) < 9223372036854775808 := by omega
          have hw : IntKind.i64.wrap (N : Int) = (N : Int) := IntWalk.i64_in (N : Int) (by omega)
          have HX : Hid (bits .xor .i64 (-1) (wrap64 (N : Int)) = -1 - (N : Int)) := by
            show _ = _
            rw [wrap64_id N hN]
            exact not_pos N hN
          rw [← HK.out] at HF
          clear hN hw
          clear HRI HD2 HD3
          generalize (N : Int) = z at hge hge' HF HX ⊢
          clear hge
          go_wp2_with fail
          go_ret3
          have HF2 := HF.out
          rw [← HX.out] at HF2
          exact ⟨HF2.symm, HM.out⟩
        · have HF : Hid (resI (readI (b :: r)) = .returned (.tuple #[.int .i64 0, .int .i64 0, .int .i64 3])) := by
            show _ = _
            rw [HRI.out, if_neg (fun h => hN h.2)]; rfl
          have hge : ((9223372036854775808 : Int) ≤ (N : Int)) := by omega
          clear hN
          go_wp2
          go_ret3
          exact ⟨HF.out.symm, HM.out⟩
    · have hb17 : ¬ b < 16 := hb16
      have hlt : ¬ ((b : Int) - 16 < 0) := by omega
      have hlt2 : (16 : Int) ≤ (b : Int) := by omega
      have hk : ((b : Int) - 16) = ((kI b : Nat) : Int) := by unfold kI; rw [if_neg hb16]; omega
      have hmask : maskOf (decide (b < 16)) = 0 := by simp [maskOf, hb16]
      rw [hmask] at HD1
      have HRI : Hid (readI (b :: r) = if B = true ∧ N < 9223372036854775808 then some ((N : Int), 1 + kI b) else none) := by
        have h := readI_of HD2.out HD3.out
        simp only [signI, hb16, decide_false, if_false, Bool.false_eq_true] at h
        exact Lib.hid h
      clear hmask
      obtain ⟨K, hK⟩ : ∃ K, K = kI b := ⟨_, rfl⟩
      have HK := Lib.hid hK
      rw [← hK] at HRI HD1 hk
      clear hK
      go_enter Tryd.func23, Tryd.ntmps23
      go_wp2_with (first | (refine wpList_from_rd rfl (.tmp 22) (.const (.int .i64 1)) 23 rfl HV.out 1 .i64 rfl rfl hl1 Tryd.underlying23 sizeU8 ?_; intro v1 hv1 ho1; have HV1 := Lib.hid hv1; clear hv1 ho1))
      refine (HD1.out _ HV1.out).mono ?_
      rintro e w' ⟨rfl, hm⟩
      have HM := Lib.hid hm
      clear hm
      cases B with
      | false =>
        have HF : Hid (resI (readI (b :: r)) = .returned (.tuple #[.int .i64 0, .int .i64 0, .int .i64 3])) := by
          show _ = _
          rw [HRI.out, if_neg (by simp)]; rfl
        go_wp2
        go_ret3
        exact ⟨HF.out.symm, HM.out⟩
      | true =>
        by_cases hN : N < 9223372036854775808
        · have HF : Hid (resI (readI (b :: r)) = .returned (.tuple #[.int .i64 (N : Int), .int .i64 (1 + (kI b : Int)), .int .i64 0])) := by
            show _ = _
            rw [HRI.out, if_pos ⟨rfl, hN⟩, HK.out]; simp [resI]
          have hge : ¬ ((9223372036854775808 : Int) ≤ (N : Int)) := by omega
          have hge' : (N : Int) < 9223372036854775808 := by omega
          have hw : IntKind.i64.wrap (N : Int) = (N : Int) := IntWalk.i64_in (N : Int) (by omega)
          have HX : Hid (wrap64 (N : Int) = (N : Int)) := wrap64_id N hN
          rw [← HK.out] at HF
          clear hN hw
          clear HRI HD2 HD3
          generalize (N : Int) = z at hge hge' HF HX ⊢
          clear hge
          go_wp2_with fail
          go_ret3
          have HF2 := HF.out
          rw [← HX.out] at HF2
          exact ⟨HF2.symm, HM.out⟩
        · have HF : Hid (resI (readI (b :: r)) = .returned (.tuple #[.int .i64 0, .int .i64 0, .int .i64 3])) := by
            show _ = _
            rw [HRI.out, if_neg (fun h => hN h.2)]; rfl
          have hge : ((9223372036854775808 : Int) ≤ (N : Int)) := by omega
          clear hN
          go_wp2
          go_ret3
          exact ⟨HF.out.symm, HM.out⟩
end Go.Proofs.YtggbohdgcalblaaDoor
