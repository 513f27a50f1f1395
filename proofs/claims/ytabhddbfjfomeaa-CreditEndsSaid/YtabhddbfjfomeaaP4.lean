/- CreditDeep: the plain law of one level. -/
namespace Go.Proofs.Ytabhddbfjfomeaa
/-- The least credit of level k. -/
def low (k : Nat) : Int := 1152921504606846976 / 5 ^ k
theorem low_div {C : Int} {k : Nat} {m : Int} (h : low k ≤ C) (hm : 0 ≤ m) (hm4 : m ≤ 4) (hC : 0 ≤ C) : low (k + 1) ≤ C / (m + 1) := by
  have e : low (k + 1) = low k / 5 := by
    unfold low
    rw [Int.pow_succ, Int.ediv_ediv_of_nonneg (by exact Int.pow_nonneg (by decide))]
  rw [e]
  have h1 : low k / 5 ≤ C / 5 := Int.ediv_le_ediv (by decide) h
  have : m = 0 ∨ m = 1 ∨ m = 2 ∨ m = 3 ∨ m = 4 := by omega
  rcases this with rfl | rfl | rfl | rfl | rfl <;> simp <;> omega
theorem low_pos {k : Nat} (hk : k ≤ 12) : 4722366482 ≤ low k := by
  have : k = 0 ∨ k = 1 ∨ k = 2 ∨ k = 3 ∨ k = 4 ∨ k = 5 ∨ k = 6 ∨ k = 7 ∨ k = 8 ∨ k = 9 ∨ k = 10 ∨ k = 11 ∨ k = 12 := by omega
  rcases this with rfl | rfl | rfl | rfl | rfl | rfl | rfl | rfl | rfl | rfl | rfl | rfl | rfl <;> decide
/-- What stays out behind q of N messages. -/
theorem still_out {N C R : Int} {q : Int} (hq : 0 ≤ q) (hqN : q < N) (hR0 : 0 ≤ R) (hRC : R ≤ C) : R ≤ N * C - q * R := by
  have h1 : (q + 1) * R ≤ N * R := Int.mul_le_mul_of_nonneg_right (by omega) hR0
  have h2 : N * R ≤ N * C := Int.mul_le_mul_of_nonneg_left hRC (by omega)
  rw [Int.add_mul] at h1
  omega
theorem level_out {N C S m : Int} : N * C - N * (C - S * m) = N * m * S := by
  rw [Int.mul_sub, Int.mul_assoc N m S, Int.mul_comm m S]
  omega
end Go.Proofs.Ytabhddbfjfomeaa
