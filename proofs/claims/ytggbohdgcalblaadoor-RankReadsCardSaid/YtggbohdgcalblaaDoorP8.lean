/- Plain laws: what the document reads is what is read. -/
import Derived.Test.YtggbohdgcalblaaDoorR17
namespace Go.Proofs.YtggbohdgcalblaaDoor
set_option linter.unusedVariables false
open Go.RowKit

/-- Does xs begin with ys? -/
def frontB (xs ys : List Nat) : Bool := decide (ys.length ≤ xs.length ∧ xs.take ys.length = ys)
theorem frontB_iff {xs ys : List Nat} : frontB xs ys = true ↔ ∃ rest, xs = ys ++ rest := by
  unfold frontB
  rw [decide_eq_true_iff]
  constructor
  · rintro ⟨_, h⟩
    exact ⟨xs.drop ys.length, by conv => lhs; rw [← List.take_append_drop ys.length xs, h]⟩
  · rintro ⟨rest, rfl⟩
    simp
theorem val_take {r : List Nat} {k : Nat} (hr : ∀ b ∈ r, b < 256) (hk : k ≤ r.length) : be k (digN false r k) = r.take k := by
  have h := be_val (r.take k) (fun b hb => hr b (List.mem_of_mem_take hb))
  have hl : (r.take k).length = k := by simp; omega
  rw [hl] at h
  exact h
theorem turned_turned {t : Bool} {l : List Nat} (h : ∀ b ∈ l, b < 256) : turned t (turned t l) = l := by
  cases t
  · rfl
  · simp only [turned, if_true]; exact turn_turn h
theorem val_turn {t : Bool} {r : List Nat} {k : Nat} (hr : ∀ b ∈ r, b < 256) (hk : k ≤ r.length) : turned t (be k (digN t r k)) = r.take k := by
  have hb : ∀ b ∈ r.take k, b < 256 := fun b hb => hr b (List.mem_of_mem_take hb)
  have h := be_val (turned t (r.take k)) (turned_lt hb)
  have hl : (turned t (r.take k)).length = k := by rw [turned_length]; simp; omega
  rw [hl] at h
  show turned t (be k (val (turned t (r.take k)))) = _
  rw [h, turned_turned hb]
theorem frontU {k : Nat} {r : List Nat} (hr : ∀ b ∈ r, b < 256) (hk : k ≤ r.length) : frontB (k :: r) (codeU (digN false r k)) = decide (sizeN (digN false r k) = k) := by
  rw [Bool.eq_iff_iff, frontB_iff, decide_eq_true_iff]
  constructor
  · rintro ⟨rest, h⟩
    simp only [codeU, List.cons_append, List.cons.injEq] at h
    exact h.1.symm
  · intro h
    refine ⟨r.drop k, ?_⟩
    simp only [codeU, List.cons_append, List.cons.injEq]
    rw [h, val_take hr hk, List.take_append_drop]
    exact ⟨rfl, rfl⟩
theorem codeI_sign (t : Bool) (N : Nat) : codeI (signI t N) = (if t then 15 - sizeN N else 16 + sizeN N) :: turned t (be (sizeN N) N) := by
  cases t
  · have e : signI false N = (N : Int) := rfl
    rw [e]
    unfold codeI turned
    rw [if_pos (by omega), Int.toNat_natCast]
    rfl
  · simp only [signI, codeI, turned, if_true]
    rw [if_neg (by omega), show (-1 - (-1 - (N : Int))).toNat = N by omega]
theorem frontI {b : Nat} {r : List Nat} (hr : ∀ b ∈ r, b < 256) (hb : b < 256) (h8 : kI b ≤ 8) (hk : kI b ≤ r.length) (hN : digN (decide (b < 16)) r (kI b) < 18446744073709551616) :
    frontB (b :: r) (codeI (signI (decide (b < 16)) (digN (decide (b < 16)) r (kI b)))) = decide (sizeN (digN (decide (b < 16)) r (kI b)) = kI b) := by
  rw [Bool.eq_iff_iff, frontB_iff, decide_eq_true_iff]
  have hs := sizeN_le hN
  rw [codeI_sign]
  by_cases h16 : b < 16
  · have hd : decide (b < 16) = true := by simp [h16]
    have hkb : kI b = 15 - b := by unfold kI; rw [if_pos h16]
    rw [hd] at hs ⊢
    simp only [if_true]
    constructor
    · rintro ⟨rest, h⟩
      simp only [List.cons_append, List.cons.injEq] at h
      omega
    · intro h
      refine ⟨r.drop (kI b), ?_⟩
      rw [h, val_turn hr hk, List.cons_append, List.take_append_drop]
      congr 1; omega
  · have hd : decide (b < 16) = false := by simp [h16]
    have hkb : kI b = b - 16 := by unfold kI; rw [if_neg h16]
    rw [hd] at hs ⊢
    simp only [Bool.false_eq_true, if_false]
    constructor
    · rintro ⟨rest, h⟩
      simp only [List.cons_append, List.cons.injEq] at h
      omega
    · intro h
      refine ⟨r.drop (kI b), ?_⟩
      rw [h, val_turn hr hk, List.cons_append, List.take_append_drop]
      congr 1; omega

/-- The document's way through a text. -/
def scanD : List Nat → List Nat → Nat → Option (List Nat × Nat)
  | [], _, _ => none
  | [_], _, _ => none
  | a :: b :: r, out, i => if a = 0 then (if b = 0 then some (out, i + 2) else scanD r (out ++ [0]) (i + 2)) else scanD (b :: r) (out ++ [a]) (i + 1)
def docT (most : Nat) (xs : List Nat) : Option (List Nat × Nat) :=
  match scanD xs [] 0 with
  | none => none
  | some (l, k) => if l.length ≤ most ∧ frontB xs (codeT l) = true then some (l, k) else none
theorem scanD_zero (b : Nat) (r out : List Nat) (i : Nat) : scanD (0 :: b :: r) out i = if b = 0 then some (out, i + 2) else scanD r (out ++ [0]) (i + 2) := by
  rw [scanD, if_pos rfl]
theorem scanD_cons {a : Nat} (ha : a ≠ 0) (b : Nat) (r out : List Nat) (i : Nat) : scanD (a :: b :: r) out i = scanD (b :: r) (out ++ [a]) (i + 1) := by
  rw [scanD, if_neg ha]
theorem codeT_cons (zs : List Nat) : ∃ a r, codeT zs = a :: r := by
  cases h : codeT zs with
  | nil => simp [codeT] at h
  | cons a r => exact ⟨a, r, rfl⟩
theorem scanD_code (zs more : List Nat) : ∀ (out : List Nat) (i : Nat), scanD (codeT zs ++ more) out i = some (out ++ zs, i + (codeT zs).length) := by
  induction zs with
  | nil => intro out i; simp [codeT, esc_nil, scanD_zero]
  | cons a zs ih =>
    intro out i
    by_cases ha : a = 0
    · subst ha
      have e : codeT (0 :: zs) ++ more = 0 :: 255 :: (codeT zs ++ more) := by simp [codeT, esc_zero]
      rw [e, scanD_zero, if_neg (by decide), ih]
      have hl : (codeT (0 :: zs)).length = (codeT zs).length + 2 := by simp [codeT, esc_zero]
      rw [hl]
      simp; omega
    · have e : codeT (a :: zs) ++ more = a :: (codeT zs ++ more) := by simp [codeT, esc_cons ha]
      obtain ⟨c, r, hc⟩ := codeT_cons zs
      have e2 : a :: (codeT zs ++ more) = a :: c :: (r ++ more) := by rw [hc]; rfl
      have e3 : c :: (r ++ more) = codeT zs ++ more := by rw [hc]; rfl
      rw [e, e2, scanD_cons ha, e3, ih]
      have hl : (codeT (a :: zs)).length = (codeT zs).length + 1 := by simp [codeT, esc_cons ha]
      rw [hl]
      simp; omega
theorem docT_eq (most : Nat) (xs : List Nat) : docT most xs = readT most xs := by
  unfold docT
  cases hr : readT most xs with
  | some lk =>
    obtain ⟨l, k⟩ := lk
    obtain ⟨rest, hx, hk, hl⟩ := readT_some hr
    have hs : scanD xs [] 0 = some (l, k) := by
      rw [hx, scanD_code]; simp [hk]
    rw [hs]
    simp only
    rw [if_pos ⟨hl, frontB_iff.2 ⟨rest, hx⟩⟩]
  | none =>
    cases hs : scanD xs [] 0 with
    | none => rfl
    | some lk =>
      obtain ⟨l, k⟩ := lk
      simp only
      refine if_neg fun h => ?_
      obtain ⟨rest, hx⟩ := frontB_iff.1 h.2
      have := readT_code h.1 rest
      rw [← hx, hr] at this
      cases this
end Go.Proofs.YtggbohdgcalblaaDoor
