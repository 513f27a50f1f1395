/- Plain laws: what is written is read again, whatever stands behind; no code begins another one. -/
import Derived.Test.YtggbohdgcalblaaDoorR7
namespace Go.Proofs.YtggbohdgcalblaaDoor
set_option linter.unusedVariables false
open Go.RowKit

/-- What ReadText says. -/
def scanT (most : Nat) : List Nat → List Nat → Nat → Option (List Nat × Nat)
  | [], _, _ => none
  | [b], out, i => none
  | a :: b :: r, out, i => if a = 0 then (if b = 0 then some (out, i + 2) else if b = 255 then (if most < out.length + 1 then none else scanT most r (out ++ [0]) (i + 2)) else none)
      else if most < out.length + 1 then none else scanT most (b :: r) (out ++ [a]) (i + 1)
def readT (most : Nat) (xs : List Nat) : Option (List Nat × Nat) := scanT most xs [] 0

theorem scanT_zero (most : Nat) (b : Nat) (r out : List Nat) (i : Nat) : scanT most (0 :: b :: r) out i = if b = 0 then some (out, i + 2) else if b = 255 then (if most < out.length + 1 then none else scanT most r (out ++ [0]) (i + 2)) else none := by
  rw [scanT, if_pos rfl]
theorem scanT_cons (most : Nat) {a : Nat} (ha : a ≠ 0) (r out : List Nat) (i : Nat) : scanT most (a :: r) out i = if most < out.length + 1 then none else scanT most r (out ++ [a]) (i + 1) := by
  cases r with
  | nil => simp [scanT]
  | cons b r => rw [scanT, if_neg ha]
theorem esc_cons_length (a : Nat) (l : List Nat) : (esc (a :: l)).length = (esc1 a).length + (esc l).length := by
  show (esc1 a ++ esc l).length = _
  rw [List.length_append]
theorem scanT_code (most : Nat) (zs more : List Nat) : ∀ (out : List Nat) (i : Nat), out.length + zs.length ≤ most → scanT most (codeT zs ++ more) out i = some (out ++ zs, i + (codeT zs).length) := by
  induction zs with
  | nil => intro out i h; simp [codeT, esc_nil, scanT_zero]
  | cons a zs ih =>
    intro out i h
    simp only [List.length_cons] at h
    by_cases ha : a = 0
    · subst ha
      have e : codeT (0 :: zs) ++ more = 0 :: 255 :: (codeT zs ++ more) := by simp [codeT, esc_zero]
      rw [e, scanT_zero, if_neg (by decide), if_pos rfl, if_neg (by omega), ih _ _ (by simp; omega)]
      have hl : (codeT (0 :: zs)).length = (codeT zs).length + 2 := by simp [codeT, esc_zero]
      rw [hl]
      simp; omega
    · have e : codeT (a :: zs) ++ more = a :: (codeT zs ++ more) := by simp [codeT, esc_cons ha]
      rw [e, scanT_cons _ ha, if_neg (by omega), ih _ _ (by simp; omega)]
      have hl : (codeT (a :: zs)).length = (codeT zs).length + 1 := by simp [codeT, esc_cons ha]
      rw [hl]
      simp; omega
theorem readT_code {most : Nat} {zs : List Nat} (h : zs.length ≤ most) (more : List Nat) : readT most (codeT zs ++ more) = some (zs, (codeT zs).length) := by
  unfold readT; rw [scanT_code _ _ _ _ _ (by simpa using h)]; simp
theorem scanT_some {most : Nat} : ∀ (n : Nat) (xs out : List Nat) (i : Nat), xs.length ≤ n → ∀ {l : List Nat} {k : Nat}, out.length ≤ most → scanT most xs out i = some (l, k) → ∃ zs rest, xs = codeT zs ++ rest ∧ l = out ++ zs ∧ k = i + (codeT zs).length ∧ l.length ≤ most := by
  intro n
  induction n with
  | zero => intro xs out i hn l k ho h; obtain rfl : xs = [] := by simpa using hn
            simp [scanT] at h
  | succ n ih =>
    intro xs out i hn l k ho h
    match xs, h, hn with
    | [], h, _ => simp [scanT] at h
    | [b], h, _ => simp [scanT] at h
    | a :: b :: r, h, hn =>
      simp only [List.length_cons] at hn
      by_cases ha : a = 0
      · subst ha
        rw [scanT_zero] at h
        by_cases hb : b = 0
        · subst hb
          rw [if_pos rfl] at h
          obtain ⟨rfl, rfl⟩ : out = l ∧ i + 2 = k := by simpa using h
          exact ⟨[], r, by simp [codeT, esc_nil], by simp, by simp [codeT, esc_nil], ho⟩
        · rw [if_neg hb] at h
          by_cases hb2 : b = 255
          · subst hb2
            rw [if_pos rfl] at h
            by_cases hm : most < out.length + 1
            · rw [if_pos hm] at h; cases h
            · rw [if_neg hm] at h
              obtain ⟨zs, rest, rfl, rfl, rfl, h4⟩ := ih r _ _ (by omega) (by simp; omega) h
              exact ⟨0 :: zs, rest, by simp [codeT, esc_zero], by simp, by simp [codeT, esc_zero]; omega, h4⟩
          · rw [if_neg hb2] at h; cases h
      · rw [scanT_cons _ ha] at h
        by_cases hm : most < out.length + 1
        · rw [if_pos hm] at h; cases h
        · rw [if_neg hm] at h
          obtain ⟨zs, rest, h1, rfl, rfl, h4⟩ := ih (b :: r) _ _ (by simp; omega) (by simp; omega) h
          exact ⟨a :: zs, rest, by rw [h1]; simp [codeT, esc_cons ha], by simp, by simp [codeT, esc_cons ha]; omega, h4⟩
theorem readT_some {most : Nat} {xs l : List Nat} {k : Nat} (h : readT most xs = some (l, k)) : ∃ rest, xs = codeT l ++ rest ∧ k = (codeT l).length ∧ l.length ≤ most := by
  obtain ⟨zs, rest, h1, h2, h3, h4⟩ := scanT_some _ _ _ _ (Nat.le_refl _) (Nat.zero_le _) h
  simp only [List.nil_append] at h2
  subst h2
  exact ⟨rest, h1, by simpa using h3, h4⟩

theorem val_be : ∀ (k n : Nat), n < 256 ^ k → val (be k n) = n := by
  suffices h : ∀ (k n m : Nat), (be k n).foldl (fun n b => n * 256 + b) m = m * 256 ^ k + n % 256 ^ k by
    intro k n hn
    unfold val; rw [h, Nat.mod_eq_of_lt hn]; omega
  intro k
  induction k with
  | zero => intro n m; simp [be, Nat.mod_one]
  | succ k ih =>
    intro n m
    simp only [be, List.foldl_cons]
    rw [ih, Nat.mod_pow_succ, Nat.pow_succ, Nat.add_mul]
    have e1 : m * 256 * 256 ^ k = m * (256 ^ k * 256) := by rw [Nat.mul_assoc, Nat.mul_comm 256]
    have e2 : n / 256 ^ k % 256 * 256 ^ k = 256 ^ k * (n / 256 ^ k % 256) := Nat.mul_comm _ _
    rw [e1, e2]; omega
theorem be_val : ∀ (l : List Nat), (∀ b ∈ l, b < 256) → be l.length (val l) = l := by
  suffices h : ∀ (l : List Nat) (m : Nat), (∀ b ∈ l, b < 256) → be l.length (l.foldl (fun n b => n * 256 + b) m) = l from fun l hl => h l 0 hl
  suffices h0 : ∀ (l : List Nat) (m : Nat), (∀ b ∈ l, b < 256) → l.foldl (fun n b => n * 256 + b) m = m * 256 ^ l.length + val l by
    intro l
    induction l with
    | nil => intro m _; rfl
    | cons b l ih =>
      intro m hl
      simp only [List.length_cons, be]
      have hl2 : ∀ b ∈ l, b < 256 := fun c hc => hl c (by simp [hc])
      have hv := val_lt l hl2
      have hp : 0 < 256 ^ l.length := Nat.pow_pos (by decide)
      have hb := hl b (by simp)
      have e : (b :: l).foldl (fun n b => n * 256 + b) m = (m * 256 + b) * 256 ^ l.length + val l := by
        rw [List.foldl_cons, h0 l _ hl2]
      rw [e]
      have e2 : ((m * 256 + b) * 256 ^ l.length + val l) / 256 ^ l.length = m * 256 + b := by
        rw [Nat.mul_comm, Nat.mul_add_div hp, Nat.div_eq_of_lt hv, Nat.add_zero]
      rw [e2]
      have e3 : (m * 256 + b) % 256 = b := by omega
      rw [e3]
      have e4 : be l.length ((m * 256 + b) * 256 ^ l.length + val l) = l := by
        rw [← h0 l _ hl2]; exact ih _ hl2
      rw [e4]
  intro l
  induction l with
  | nil => intro m _; simp [val]
  | cons b l ih =>
    intro m hl
    have hl2 : ∀ b ∈ l, b < 256 := fun c hc => hl c (by simp [hc])
    rw [List.foldl_cons, ih _ hl2]
    have e : val (b :: l) = b * 256 ^ l.length + val l := by
      show (b :: l).foldl _ 0 = _
      rw [List.foldl_cons, ih _ hl2]; simp
    rw [e, List.length_cons, Nat.pow_succ, Nat.add_mul, Nat.mul_assoc, Nat.mul_comm 256]; omega

theorem digN_be {k n : Nat} (h : n < 256 ^ k) (more : List Nat) : digN false (be k n ++ more) k = n := by
  unfold digN turned
  rw [List.take_append_of_le_length (by rw [be_length]; exact Nat.le_refl _), List.take_of_length_le (by rw [be_length]; exact Nat.le_refl _)]
  simpa using val_be k n h
theorem turn_turn {l : List Nat} (h : ∀ b ∈ l, b < 256) : (l.map (255 - ·)).map (255 - ·) = l := by
  rw [List.map_map]
  refine (List.map_congr_left fun b hb => ?_).trans (List.map_id l)
  have := h b hb
  simp only [Function.comp, id]; omega
theorem be_bytes (k n : Nat) : ∀ b ∈ be k n, b < 256 := by
  induction k with
  | zero => intro b hb; simp [be] at hb
  | succ k ih =>
    intro b hb
    simp only [be, List.mem_cons] at hb
    rcases hb with rfl | hb
    · exact Nat.mod_lt _ (by decide)
    · exact ih b hb
theorem digN_turn {k n : Nat} (h : n < 256 ^ k) (more : List Nat) : digN true ((be k n).map (255 - ·) ++ more) k = n := by
  unfold digN turned
  rw [List.take_append_of_le_length (by simp [be_length]), List.take_of_length_le (by simp [be_length])]
  simp only [if_true]
  rw [turn_turn (be_bytes k n)]
  exact val_be k n h
theorem codeU_length (n : Nat) : (codeU n).length = 1 + sizeN n := by simp [codeU, be_length]; omega
theorem readU_code {n : Nat} (hn : n < 18446744073709551616) (more : List Nat) : readU (codeU n ++ more) = some (n, (codeU n).length) := by
  have h1 := sizeN_le hn
  have h2 := lt_size hn
  simp only [codeU, List.cons_append, readU]
  rw [digN_be h2, if_pos ⟨h1, by simp [be_length], rfl⟩]
  simp [be_length]; omega
theorem codeI_length (m : Int) : (codeI m).length = 1 + sizeN (if 0 ≤ m then m.toNat else (-1 - m).toNat) := by
  unfold codeI; split <;> simp [be_length] <;> omega
theorem readI_code {m : Int} (hm : -9223372036854775808 ≤ m ∧ m < 9223372036854775808) (more : List Nat) : readI (codeI m ++ more) = some (m, (codeI m).length) := by
  rw [codeI_length]
  unfold codeI
  by_cases h0 : 0 ≤ m
  · obtain ⟨n, rfl⟩ := Int.eq_ofNat_of_zero_le h0
    have hn : n < 18446744073709551616 := by omega
    have h1 := sizeN_le hn
    have h2 := lt_size hn
    simp only [if_pos h0, Int.toNat_natCast, List.cons_append, readI]
    have hb : ¬ (16 + sizeN n < 16) := by omega
    have hk : kI (16 + sizeN n) = sizeN n := by unfold kI; rw [if_neg hb]; omega
    have hd : decide (16 + sizeN n < 16) = false := by simp
    rw [hk, hd, digN_be h2, if_pos ⟨h1, by simp [be_length], rfl, by omega⟩]
    rfl
  · obtain ⟨n, hn⟩ : ∃ n : Nat, n = (-1 - m).toNat := ⟨_, rfl⟩
    have hn1 : n < 18446744073709551616 := by omega
    have h1 := sizeN_le hn1
    have h2 := lt_size hn1
    simp only [if_neg h0, ← hn, List.cons_append, readI]
    have hb : 15 - sizeN n < 16 := by omega
    have hk : kI (15 - sizeN n) = sizeN n := by unfold kI; rw [if_pos hb]; omega
    have hd : decide (15 - sizeN n < 16) = true := by simpa using hb
    rw [hk, hd, digN_turn h2, if_pos ⟨h1, by simp [be_length], rfl, by omega⟩]
    simp [signI]; omega
end Go.Proofs.YtggbohdgcalblaaDoor
