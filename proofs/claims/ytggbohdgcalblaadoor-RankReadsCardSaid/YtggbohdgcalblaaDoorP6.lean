/- Plain laws: the order of the codes is that of what they stand for. -/
import Derived.Test.YtggbohdgcalblaaDoorR5
import Derived.Laws.BitsAllLaws
import Derived.Lib.ItoaNum
namespace Go.Proofs.YtggbohdgcalblaaDoor
set_option linter.unusedVariables false
open Go.RowKit

theorem bitLen_le64 {n : Nat} (h : n < 18446744073709551616) : Lib.bitLen n ≤ 64 := Lib.bitLen_le n 64 (Nat.le_refl _) h
theorem bitLen_range {n : Nat} (h : n < 18446744073709551616) (h0 : n ≠ 0) : 1 ≤ Lib.bitLen n ∧ 2 ^ (Lib.bitLen n - 1) ≤ n ∧ n < 2 ^ Lib.bitLen n := Lib.bitLenAux_bounds 64 n (by omega) h0
theorem sizeN_le {n : Nat} (h : n < 18446744073709551616) : sizeN n ≤ 8 := by have := bitLen_le64 h; unfold sizeN; omega
theorem sizeN_zero : sizeN 0 = 0 := rfl
theorem pow256 (k : Nat) : 256 ^ k = 2 ^ (8 * k) := by rw [Nat.pow_mul]
theorem lt_size {n : Nat} (h : n < 18446744073709551616) : n < 256 ^ sizeN n := by
  by_cases h0 : n = 0
  · subst h0; exact Nat.pow_pos (by decide)
  · obtain ⟨h1, h2, h3⟩ := bitLen_range h h0
    rw [pow256]
    exact Nat.lt_of_lt_of_le h3 (Nat.pow_le_pow_right (by decide) (by unfold sizeN; omega))
theorem size_le_of {n k : Nat} (h : n < 18446744073709551616) (hk : n < 256 ^ k) : sizeN n ≤ k := by
  by_cases h0 : n = 0
  · subst h0; rw [sizeN_zero]; exact Nat.zero_le _
  · obtain ⟨h1, h2, h3⟩ := bitLen_range h h0
    refine Nat.le_of_not_lt fun hlt => ?_
    rw [pow256] at hk
    have : 2 ^ (8 * k) ≤ 2 ^ (Lib.bitLen n - 1) := Nat.pow_le_pow_right (by decide) (by unfold sizeN at hlt; omega)
    omega
theorem size_lt {a b : Nat} (ha : a < 18446744073709551616) (hb : b < 18446744073709551616) (h : sizeN a < sizeN b) : a < b := by
  have h1 := lt_size ha
  refine Nat.lt_of_lt_of_le h1 (Nat.le_of_not_lt fun h2 => ?_)
  have := size_le_of hb h2
  omega

theorem low_order {P x y u v : Nat} (hx : x < P) (hy : y < P) (h : u ≠ v) : ¬ (x + P * u = y + P * v) ∧ (decide (x + P * u < y + P * v)) = decide (u < v) := by
  rcases Nat.lt_or_gt_of_ne h with h | h
  · have := Nat.mul_le_mul_left P (show u + 1 ≤ v by omega)
    rw [Nat.mul_succ] at this
    exact ⟨by omega, by simp [h]; omega⟩
  · have := Nat.mul_le_mul_left P (show v + 1 ≤ u by omega)
    rw [Nat.mul_succ] at this
    exact ⟨by omega, by simp; omega⟩
theorem be_order (k a b : Nat) (r s : List Nat) : ltB (be k a ++ r) (be k b ++ s) = if a % 256 ^ k = b % 256 ^ k then ltB r s else decide (a % 256 ^ k < b % 256 ^ k) := by
  induction k with
  | zero => simp [be, Nat.mod_one]
  | succ k ih =>
    have hp : 0 < 256 ^ k := Nat.pow_pos (by decide)
    simp only [be, List.cons_append, ltB]
    rw [Nat.mod_pow_succ, Nat.mod_pow_succ]
    by_cases h : a / 256 ^ k % 256 = b / 256 ^ k % 256
    · rw [if_pos h, ih, h]; simp
    · obtain ⟨h1, h2⟩ := low_order (Nat.mod_lt a hp) (Nat.mod_lt b hp) h
      rw [if_neg h, h2, if_neg h1]
theorem turn_order (k a b : Nat) (r s : List Nat) : ltB ((be k a).map (255 - ·) ++ r) ((be k b).map (255 - ·) ++ s) = if a % 256 ^ k = b % 256 ^ k then ltB r s else decide (b % 256 ^ k < a % 256 ^ k) := by
  induction k with
  | zero => simp [be, Nat.mod_one]
  | succ k ih =>
    have hp : 0 < 256 ^ k := Nat.pow_pos (by decide)
    simp only [be, List.map_cons, List.cons_append, ltB]
    rw [Nat.mod_pow_succ, Nat.mod_pow_succ]
    have hu : a / 256 ^ k % 256 < 256 := Nat.mod_lt _ (by decide)
    have hv : b / 256 ^ k % 256 < 256 := Nat.mod_lt _ (by decide)
    by_cases h : a / 256 ^ k % 256 = b / 256 ^ k % 256
    · rw [if_pos (by rw [h]), ih, h]; simp
    · obtain ⟨h1, -⟩ := low_order (Nat.mod_lt a hp) (Nat.mod_lt b hp) h
      obtain ⟨-, h2⟩ := low_order (Nat.mod_lt b hp) (Nat.mod_lt a hp) (Ne.symm h)
      rw [if_neg (by omega), h2, if_neg h1]
      congr 1
      simp; omega
theorem codeU_order {a b : Nat} (ha : a < 18446744073709551616) (hb : b < 18446744073709551616) (r s : List Nat) : ltB (codeU a ++ r) (codeU b ++ s) = if a = b then ltB r s else decide (a < b) := by
  simp only [codeU, List.cons_append, ltB]
  by_cases h : sizeN a = sizeN b
  · rw [if_pos h, h, be_order, Nat.mod_eq_of_lt (h ▸ lt_size ha), Nat.mod_eq_of_lt (lt_size hb)]
  · rw [if_neg h, if_neg (fun e => h (by rw [e]))]
    rcases Nat.lt_or_gt_of_ne h with h | h
    · have := size_lt ha hb h; simp [h, this]
    · have := size_lt hb ha h; simp; omega
theorem codeI_order {a b : Int} (ha : -9223372036854775808 ≤ a ∧ a < 9223372036854775808) (hb : -9223372036854775808 ≤ b ∧ b < 9223372036854775808) (r s : List Nat) : ltB (codeI a ++ r) (codeI b ++ s) = if a = b then ltB r s else decide (a < b) := by
  unfold codeI
  by_cases h1 : 0 ≤ a
  · by_cases h2 : 0 ≤ b
    · rw [if_pos h1, if_pos h2]
      obtain ⟨x, rfl⟩ := Int.eq_ofNat_of_zero_le h1
      obtain ⟨y, rfl⟩ := Int.eq_ofNat_of_zero_le h2
      have := codeU_order (a := x) (b := y) (by omega) (by omega) r s
      simp only [codeU, List.cons_append, ltB, Int.toNat_natCast] at this ⊢
      simp only [Nat.add_left_cancel_iff, Nat.add_lt_add_iff_left, this, Int.ofNat_inj, Int.ofNat_lt]
    · rw [if_pos h1, if_neg h2]
      simp only [List.cons_append, ltB]
      rw [if_neg (by omega), if_neg (by omega)]
      simp; omega
  · by_cases h2 : 0 ≤ b
    · rw [if_neg h1, if_pos h2]
      simp only [List.cons_append, ltB]
      rw [if_neg (by omega), if_neg (by omega)]
      simp; omega
    · rw [if_neg h1, if_neg h2]
      obtain ⟨x, hx⟩ : ∃ x : Nat, x = (-1 - a).toNat := ⟨_, rfl⟩
      obtain ⟨y, hy⟩ : ∃ y : Nat, y = (-1 - b).toNat := ⟨_, rfl⟩
      rw [← hx, ← hy]
      have hx1 : x < 18446744073709551616 := by omega
      have hy1 : y < 18446744073709551616 := by omega
      have e1 : (a = b) = (x = y) := by simp; omega
      have e2 : decide (a < b) = decide (y < x) := by simp; omega
      simp only [e1, e2, List.cons_append, ltB]
      have hsx := sizeN_le hx1
      have hsy := sizeN_le hy1
      by_cases h : sizeN x = sizeN y
      · rw [if_pos (by rw [h]), h, turn_order, Nat.mod_eq_of_lt (h ▸ lt_size hx1), Nat.mod_eq_of_lt (lt_size hy1)]
      · rw [if_neg (by omega), if_neg (fun e => h (by rw [e]))]
        rcases Nat.lt_or_gt_of_ne h with h | h
        · have := size_lt hx1 hy1 h; simp; omega
        · have := size_lt hy1 hx1 h; simp; omega
theorem esc_nil : esc [] = [] := rfl
theorem esc_zero (l : List Nat) : esc (0 :: l) = 0 :: 255 :: esc l := by simp [esc, esc1]
theorem esc_cons {x : Nat} (hx : x ≠ 0) (l : List Nat) : esc (x :: l) = x :: esc l := by simp [esc, esc1, hx]
theorem codeT_order (a b r s : List Nat) : ltB (codeT a ++ r) (codeT b ++ s) = if a = b then ltB r s else ltB a b := by
  induction a generalizing b with
  | nil =>
    cases b with
    | nil => simp [codeT, esc_nil, ltB]
    | cons y ys =>
      by_cases hy : y = 0
      · subst hy; simp [codeT, esc_nil, esc_zero, ltB]
      · have : ¬ (0 = y) := fun e => hy e.symm
        simp [codeT, esc_nil, esc_cons hy, ltB, this]; omega
  | cons x xs ih =>
    cases b with
    | nil =>
      by_cases hx : x = 0
      · subst hx; simp [codeT, esc_nil, esc_zero, ltB]
      · simp [codeT, esc_nil, esc_cons hx, ltB, hx]
    | cons y ys =>
      have h := ih ys
      simp only [codeT, List.append_assoc] at h
      by_cases hx : x = 0
      · subst hx
        by_cases hy : y = 0
        · subst hy; simp only [codeT, esc_zero, ltB, List.cons_append, List.append_assoc, if_true, List.cons.injEq, true_and]; exact h
        · have : ¬ (0 = y) := fun e => hy e.symm
          simp [codeT, esc_zero, esc_cons hy, ltB, this]
      · by_cases hy : y = 0
        · subst hy; simp [codeT, esc_zero, esc_cons hx, ltB, hx]
        · by_cases hxy : x = y
          · subst hxy; simp only [codeT, esc_cons hx, ltB, List.cons_append, List.append_assoc, if_true, List.cons.injEq, true_and]; exact h
          · simp [codeT, esc_cons hx, esc_cons hy, ltB, hxy]

theorem ltB_irrefl (l : List Nat) : ltB l l = false := by
  induction l with
  | nil => rfl
  | cons x xs ih => simp [ltB, ih]
theorem ltB_total : ∀ (a b : List Nat), ltB a b = false → ltB b a = false → a = b
  | [], [], _, _ => rfl
  | [], y :: ys, h, _ => by simp [ltB] at h
  | x :: xs, [], _, h => by simp [ltB] at h
  | x :: xs, y :: ys, h1, h2 => by
    simp only [ltB] at h1 h2
    by_cases h : x = y
    · subst h; simp at h1 h2; rw [ltB_total xs ys h1 h2]
    · rw [if_neg h] at h1; rw [if_neg (fun e => h e.symm)] at h2
      simp at h1 h2; omega
theorem codeU_parse {a b : Nat} (ha : a < 18446744073709551616) (hb : b < 18446744073709551616) {r s : List Nat} (h : codeU a ++ r = codeU b ++ s) : a = b ∧ r = s := by
  have h1 := codeU_order ha hb r s
  have h2 := codeU_order hb ha s r
  rw [h, ltB_irrefl] at h1
  rw [← h, ltB_irrefl] at h2
  have e : a = b := by
    refine Classical.byContradiction fun hne => ?_
    rw [if_neg hne] at h1
    rw [if_neg (fun e => hne e.symm)] at h2
    simp at h1 h2; omega
  subst e
  exact ⟨rfl, List.append_cancel_left h⟩
theorem codeI_parse {a b : Int} (ha : -9223372036854775808 ≤ a ∧ a < 9223372036854775808) (hb : -9223372036854775808 ≤ b ∧ b < 9223372036854775808) {r s : List Nat} (h : codeI a ++ r = codeI b ++ s) : a = b ∧ r = s := by
  have h1 := codeI_order ha hb r s
  have h2 := codeI_order hb ha s r
  rw [h, ltB_irrefl] at h1
  rw [← h, ltB_irrefl] at h2
  have e : a = b := by
    refine Classical.byContradiction fun hne => ?_
    rw [if_neg hne] at h1
    rw [if_neg (fun e => hne e.symm)] at h2
    simp at h1 h2; omega
  subst e
  exact ⟨rfl, List.append_cancel_left h⟩
theorem codeT_parse {a b r s : List Nat} (h : codeT a ++ r = codeT b ++ s) : a = b ∧ r = s := by
  have h1 := codeT_order a b r s
  have h2 := codeT_order b a s r
  rw [h, ltB_irrefl] at h1
  rw [← h, ltB_irrefl] at h2
  have e : a = b := by
    refine Classical.byContradiction fun hne => ?_
    rw [if_neg hne] at h1
    rw [if_neg (fun e => hne e.symm)] at h2
    exact hne (ltB_total a b h1.symm h2.symm)
  subst e
  exact ⟨rfl, List.append_cancel_left h⟩
theorem ltB_codeU {a b : Nat} (ha : a < 18446744073709551616) (hb : b < 18446744073709551616) : ltB (codeU a) (codeU b) = decide (a < b) := by
  have := codeU_order ha hb [] []
  simp only [List.append_nil, ltB] at this
  rw [this]; split
  · subst_vars; simp
  · rfl
theorem ltB_codeI {a b : Int} (ha : -9223372036854775808 ≤ a ∧ a < 9223372036854775808) (hb : -9223372036854775808 ≤ b ∧ b < 9223372036854775808) : ltB (codeI a) (codeI b) = decide (a < b) := by
  have := codeI_order ha hb [] []
  simp only [List.append_nil, ltB] at this
  rw [this]; split
  · subst_vars; simp
  · rfl
theorem ltB_codeT (a b : List Nat) : ltB (codeT a) (codeT b) = ltB a b := by
  have := codeT_order a b [] []
  simp only [List.append_nil, ltB] at this
  rw [this]; split
  · subst_vars; rw [ltB_irrefl]
  · rfl
theorem sameB_codeU {a b : Nat} (ha : a < 18446744073709551616) (hb : b < 18446744073709551616) : sameB (codeU a) (codeU b) = decide (a = b) := by
  unfold sameB
  congr 1
  refine propext ⟨fun h => ?_, fun h => by rw [h]⟩
  exact (codeU_parse (r := []) (s := []) ha hb (by simpa using h)).1
theorem sameB_codeI {a b : Int} (ha : -9223372036854775808 ≤ a ∧ a < 9223372036854775808) (hb : -9223372036854775808 ≤ b ∧ b < 9223372036854775808) : sameB (codeI a) (codeI b) = decide (a = b) := by
  unfold sameB
  congr 1
  refine propext ⟨fun h => ?_, fun h => by rw [h]⟩
  exact (codeI_parse (r := []) (s := []) ha hb (by simpa using h)).1
theorem sameB_codeT (a b : List Nat) : sameB (codeT a) (codeT b) = sameB a b := by
  unfold sameB
  congr 1
  refine propext ⟨fun h => ?_, fun h => by rw [h]⟩
  exact (codeT_parse (r := []) (s := []) (by simpa using h)).1
end Go.Proofs.YtggbohdgcalblaaDoor
