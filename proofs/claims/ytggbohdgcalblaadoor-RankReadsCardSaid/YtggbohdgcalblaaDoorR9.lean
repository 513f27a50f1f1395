/- The walk of RankNumbers. -/
import Derived.Test.YtggbohdgcalblaaDoorR8
namespace Go.Proofs.YtggbohdgcalblaaDoor
set_option linter.unusedVariables false
open Go.RowKit

theorem int_any (m : Int) (h : -9223372036854775808 ≤ m ∧ m < 9223372036854775808) (w : World) : Calls Tryd.prog 10 #[.int .i64 m] w (GivesBytes w (codeI m)) := by
  by_cases h0 : 0 ≤ m
  · obtain ⟨n, rfl⟩ := Int.eq_ofNat_of_zero_le h0
    exact int_nonneg n (by omega) (bitLen_le64 (by omega)) w
  · obtain ⟨n, hn⟩ : ∃ n : Nat, m = -1 - (n : Int) := ⟨(-1 - m).toNat, by omega⟩
    subst hn
    exact int_neg n (by omega) (bitLen_le64 (by omega)) w
theorem uint_all (n : Nat) (hn : n < 18446744073709551616) (w : World) : Calls Tryd.prog 9 #[.int .u64 n] w (GivesBytes w (codeU n)) := uint_any n hn (bitLen_le64 hn) w

set_option maxRecDepth 100000 in
set_option maxHeartbeats 4000000 in
theorem numbers_walk (a b : Nat) (c d : Int) (ha : a < 18446744073709551616) (hb : b < 18446744073709551616) (hc : -9223372036854775808 ≤ c ∧ c < 9223372036854775808) (hd : -9223372036854775808 ≤ d ∧ d < 9223372036854775808) (w : World) :
    Calls Tryd.prog 3 #[.int .u64 a, .int .u64 b, .int .i64 c, .int .i64 d] w fun e w' => e = .returned (.bool true) ∧ Mod (fun _ => False) w w' := by
  have HA := Lib.hid (uint_all a ha)
  have HB := Lib.hid (uint_all b hb)
  have HC := Lib.hid (int_any c hc)
  have HD := Lib.hid (int_any d hd)
  have L1 := Lib.hid (ltB_codeU ha hb)
  have L2 := Lib.hid ((sameB_codeU ha hb).trans (natBeq a b).symm)
  have L3 := Lib.hid (ltB_codeI hc hd)
  have L4 : Hid (sameB (codeI c) (codeI d) = (c == d)) := Lib.hid (sameB_codeI hc hd)
  clear ha hb hc hd
  go_enter Tryd.func3, Tryd.ntmps3
  go_wp2_with fail
  refine (HA.out _).mono ?_
  rintro e w1 ⟨v1, rfl, hB⟩
  have B1 := Lib.hid hB
  clear hB
  go_wp2_with fail
  refine (HB.out _).mono ?_
  rintro e w2 ⟨v2, rfl, hB⟩
  have B2 := Lib.hid hB
  clear hB
  go_wp2_with fail
  refine (HC.out _).mono ?_
  rintro e w3 ⟨v3, rfl, hB⟩
  have B3 := Lib.hid hB
  clear hB
  go_wp2_with fail
  refine (HD.out _).mono ?_
  rintro e w4 ⟨v4, rfl, hB⟩
  have B4 := Lib.hid hB
  clear hB
  go_wp2_with fail
  refine (awake_any _).mono ?_
  rintro e w5 ⟨rfl, hm⟩
  have M5 := Lib.hid hm
  clear hm
  have R1 := Lib.hid (((((B1.out.rd.keep B2.out.mod).keep B3.out.mod).keep B4.out.mod).keep M5.out))
  have R2 := Lib.hid ((((B2.out.rd.keep B3.out.mod).keep B4.out.mod).keep M5.out))
  have R3 := Lib.hid (((B3.out.rd.keep B4.out.mod).keep M5.out))
  have R4 := Lib.hid ((B4.out.rd.keep M5.out))
  have M := Lib.hid ((((B1.out.mod.trans B2.out.mod).trans B3.out.mod).trans B4.out.mod).trans M5.out)
  clear B1 B2 B3 B4 M5
  go_wp2_with fail
  refine (less_any _ _ _ _ _ R1.out R2.out).mono ?_
  rintro e w6 ⟨rfl, hm⟩
  rw [L1.out]
  have M6 := Lib.hid hm
  clear hm
  go_wp2_with fail
  refine (same_any _ _ _ _ _ (R1.out.keep M6.out) (R2.out.keep M6.out)).mono ?_
  rintro e w7 ⟨rfl, hm⟩
  rw [L2.out]
  have M7 := Lib.hid (M6.out.trans hm)
  clear hm M6
  go_wp2_with fail
  refine (less_any _ _ _ _ _ (R3.out.keep M7.out) (R4.out.keep M7.out)).mono ?_
  rintro e w8 ⟨rfl, hm⟩
  rw [L3.out]
  have M8 := Lib.hid (M7.out.trans hm)
  clear hm M7
  go_wp2_with fail
  refine (same_any _ _ _ _ _ (R3.out.keep M8.out) (R4.out.keep M8.out)).mono ?_
  rintro e w9 ⟨rfl, hm⟩
  rw [L4.out]
  have M9 := Lib.hid ((M.out.trans M8.out).trans hm)
  clear hm M8
  go_wp2
  go_ret
  exact ⟨rfl, M9.out⟩
theorem numbers_all (a b c d : Int) (ha : (Lit.int .u64 a).wf = true) (hb : (Lit.int .u64 b).wf = true) (hc : (Lit.int .i64 c).wf = true) (hd : (Lit.int .i64 d).wf = true) (w : World) :
    Calls Tryd.prog 3 #[.int .u64 a, .int .u64 b, .int .i64 c, .int .i64 d] w fun e w' => e = .returned (.bool true) ∧ Below w.heap.size w w' := by
  have h1 := bounds_u64 ha
  have h2 := bounds_u64 hb
  have h3 := bounds_i64 hc
  have h4 := bounds_i64 hd
  obtain ⟨x, rfl⟩ := Int.eq_ofNat_of_zero_le h1.1
  obtain ⟨y, rfl⟩ := Int.eq_ofNat_of_zero_le h2.1
  exact (numbers_walk x y c d (by omega) (by omega) (by omega) (by omega) w).mono fun _ _ ⟨h, m⟩ => ⟨h, m.toBelow (Nat.le_refl _) (fun _ _ f => f)⟩
end Go.Proofs.YtggbohdgcalblaaDoor
