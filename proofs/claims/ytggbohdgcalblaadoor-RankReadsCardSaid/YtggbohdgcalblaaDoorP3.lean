/- Zeros doubled: the plain law of what ReplaceAll writes. -/
import Derived.Lib.Bytes
import Derived.Lib.Bytealg
import Derived.Lib.IndexLaws
import Derived.Laws.CopyOwn
namespace Go.Proofs.YtggbohdgcalblaaDoor
open Go
def esc1 (b : Nat) : List Nat := if b = 0 then [0, 255] else [b]
def esc (l : List Nat) : List Nat := l.flatMap esc1
def ints (l : List Nat) : List Int := l.map fun (b : Nat) => (b : Int)
theorem ints_length (l : List Nat) : (ints l).length = l.length := by simp [ints]
theorem ints_drop (l : List Nat) (k : Nat) : ints (l.drop k) = (ints l).drop k := by simp [ints, List.map_drop]
theorem ints_getD (l : List Nat) (i : Nat) : (ints l).getD i 0 = ((l.getD i 0 : Nat) : Int) := by
  simp only [ints, List.getD_eq_getElem?_getD, List.getElem?_map]
  cases l[i]? <;> simp
theorem esc_append (a b : List Nat) : esc (a ++ b) = esc a ++ esc b := by simp [esc]
theorem esc_length (l : List Nat) : (esc l).length = l.length + l.count 0 := by
  induction l with
  | nil => rfl
  | cons b r ih =>
    have e : esc (b :: r) = esc1 b ++ esc r := rfl
    rw [e, List.length_append, ih]
    by_cases h : b = 0
    · subst h; simp [esc1]; omega
    · simp [esc1, h]; omega
theorem esc_plain (l : List Nat) (h : ∀ b ∈ l, b ≠ 0) : esc l = l := by
  induction l with
  | nil => rfl
  | cons b r ih =>
    have e : esc (b :: r) = esc1 b ++ esc r := rfl
    rw [e, ih (fun x hx => h x (by simp [hx]))]
    simp [esc1, h b (by simp)]
theorem count_zero_plain (l : List Nat) (h : l.count 0 = 0) : ∀ b ∈ l, b ≠ 0 := by
  intro b hb e
  subst e
  exact absurd h (Nat.ne_of_gt (List.count_pos_iff.2 hb))

theorem byte_zero (b : Nat) (hb : b < 256) : (UInt8.ofNat ((b : Int).toNat) == (0 : Int).toNat.toUInt8) = (b == 0) := by
  rw [Int.toNat_natCast]
  have h : ∀ b, b < 256 → ((UInt8.ofNat b == (0 : Int).toNat.toUInt8) = (b == 0)) := by decide +kernel
  exact h b hb
theorem count_bytes (l : List Nat) (h : ∀ b ∈ l, b < 256) : Lib.countByte (Lib.bytesOf (ints l)) (0 : Int).toNat.toUInt8 = l.count 0 := by
  unfold Lib.countByte
  induction l with
  | nil => rfl
  | cons b r ih =>
    have e : Lib.bytesOf (ints (b :: r)) = UInt8.ofNat ((b : Int).toNat) :: Lib.bytesOf (ints r) := rfl
    rw [e, List.count_cons, List.count_cons, ih (fun x hx => h x (by simp [hx])), byte_zero b (h b (by simp))]
theorem index_bytes (l : List Nat) (h : ∀ b ∈ l, b < 256) (hc : 0 < l.count 0) : ∃ k : Nat, Lib.indexByte (Lib.bytesOf (ints l)) (0 : Int).toNat.toUInt8 = (k : Int) ∧ k < l.length ∧ l[k]? = some 0 ∧ ∀ b ∈ l.take k, b ≠ 0 := by
  induction l with
  | nil => simp at hc
  | cons b r ih =>
    have e : Lib.bytesOf (ints (b :: r)) = UInt8.ofNat ((b : Int).toNat) :: Lib.bytesOf (ints r) := rfl
    rw [e]
    unfold Lib.indexByte
    rw [byte_zero b (h b (by simp))]
    by_cases hb : b = 0
    · subst hb
      exact ⟨0, by simp, by simp, by simp, by simp⟩
    · have hc2 : 0 < r.count 0 := by rw [List.count_cons] at hc; simp [hb] at hc; exact List.count_pos_iff.2 hc
      obtain ⟨k, h1, h2, h3, h4⟩ := ih (fun x hx => h x (by simp [hx])) hc2
      refine ⟨k + 1, ?_, by simpa using h2, by simpa using h3, ?_⟩
      · have hb2 : (b == 0) = false := by simpa using hb
        rw [hb2, h1]
        have : ((k : Int) == -1) = false := by simp
        simp [this]
      · intro x hx
        rw [List.take_succ_cons] at hx
        rcases List.mem_cons.1 hx with rfl | hx
        · exact hb
        · exact h4 x hx

/-- One round: from st to the place behind the next zero. -/
theorem esc_round (l : List Nat) (st k : Nat) (hk : (l.drop st)[k]? = some 0) (hp : ∀ b ∈ (l.drop st).take k, b ≠ 0) : esc (l.take (st + k + 1)) = esc (l.take st) ++ (l.drop st).take k ++ [0, 255] := by
  have h1 : l.take (st + k + 1) = l.take st ++ (l.drop st).take (k + 1) := by
    rw [show st + k + 1 = st + (k + 1) by omega, List.take_add]
  obtain ⟨hlt, hg⟩ := List.getElem?_eq_some_iff.1 hk
  rw [h1, List.take_succ_eq_append_getElem hlt, hg, esc_append, esc_append, esc_plain _ hp]
  simp [esc, esc1]
theorem count_round (l : List Nat) (st k : Nat) (hk : (l.drop st)[k]? = some 0) (hp : ∀ b ∈ (l.drop st).take k, b ≠ 0) : (l.take (st + k + 1)).count 0 = (l.take st).count 0 + 1 := by
  have h1 : l.take (st + k + 1) = l.take st ++ (l.drop st).take (k + 1) := by
    rw [show st + k + 1 = st + (k + 1) by omega, List.take_add]
  obtain ⟨hlt, hg⟩ := List.getElem?_eq_some_iff.1 hk
  rw [h1, List.take_succ_eq_append_getElem hlt, hg, List.count_append, List.count_append]
  have : ((l.drop st).take k).count 0 = 0 := List.count_eq_zero.2 (fun hm => hp 0 hm rfl)
  rw [this]; simp
theorem esc_last (l : List Nat) (st : Nat) (h : (l.take st).count 0 = l.count 0) : esc l = esc (l.take st) ++ l.drop st := by
  have h1 : (l.drop st).count 0 = 0 := by
    have e := congrArg (List.count 0) (List.take_append_drop st l)
    rw [List.count_append] at e; omega
  have h2 := esc_plain _ (count_zero_plain _ h1)
  have e := congrArg esc (List.take_append_drop st l)
  rw [esc_append, h2] at e
  exact e.symm
theorem count_left (l : List Nat) (st : Nat) : (l.drop st).count 0 = l.count 0 - (l.take st).count 0 := by
  have e := congrArg (List.count 0) (List.take_append_drop st l)
  rw [List.count_append] at e; omega

/-- What stands ahead is kept, and the new cells stand behind it. -/
theorem splice_ahead {α : Type} {L a c : List α} (h : L.take a.length = a) : (splice L a.length c).take (a ++ c).length = a ++ c := by
  unfold splice
  rw [h, ← List.append_assoc, List.take_append_of_le_length (by simp), List.take_of_length_le (by simp)]
end Go.Proofs.YtggbohdgcalblaaDoor
