/- Values: letter, text, Check. -/
import Derived.Test.YtdblilhkojafgaaRows
import Derived.Test.YtdblilhkojafgaaS
import Derived.WalkSpells
import Derived.OpenShut
import Derived.LoopTactic
import Derived.Deep.DeepCutAuto
namespace Go.Proofs.Ytdblilhkojafgaa
set_option linter.unusedVariables false
open Go.RowKit

theorem ret_bool {a b : Bool} (h : a = b) : Ending.returned (.bool a) = .returned (.bool b) := by rw [h]
theorem ret_int {k : IntKind} {a b : Int} (h : a = b) : Ending.returned (.int k a) = .returned (.int k b) := by rw [h]
def letterB (b : Nat) : Bool := decide ((97 ≤ b ∧ b ≤ 122) ∨ (48 ≤ b ∧ b ≤ 57) ∨ b = 46 ∨ b = 45)
theorem letter_any (b : Nat) (hb : b < 256) (w : World) : Calls Try.prog 102 #[.int .u8 (b : Int)] w fun e w' => e = .returned (.bool (letterB b)) ∧ w = w' := by
  have hb0 : (0 : Int) ≤ (b : Int) := by omega
  have hb1 : (b : Int) < 256 := by omega
  by_cases h1 : 97 ≤ b
  · have t1 : (97 : Int) ≤ (b : Int) := by omega
    by_cases h2 : b ≤ 122
    · have t2 : (b : Int) ≤ 122 := by omega
      have HF : Hid (letterB b = true) := Lib.hid (by simp [letterB]; omega)
      clear h1 h2
      go_enter Try.func102, Try.ntmps102
      go_wp2
      go_ret
      exact ⟨ret_bool HF.out.symm, rfl⟩
    · have t2 : ¬ (b : Int) ≤ 122 := by omega
      have t3 : (48 : Int) ≤ (b : Int) := by omega
      have t4 : ¬ (b : Int) ≤ 57 := by omega
      have t5 : ((b : Int) == 46) = false := by simp; omega
      have t6 : ((b : Int) == 45) = false := by simp; omega
      have HF : Hid (letterB b = false) := Lib.hid (by simp [letterB]; omega)
      clear h1 h2
      go_enter Try.func102, Try.ntmps102
      go_wp2
      go_ret
      exact ⟨ret_bool HF.out.symm, rfl⟩
  · have t1 : ¬ (97 : Int) ≤ (b : Int) := by omega
    by_cases h3 : 48 ≤ b
    · have t3 : (48 : Int) ≤ (b : Int) := by omega
      by_cases h4 : b ≤ 57
      · have t4 : (b : Int) ≤ 57 := by omega
        have HF : Hid (letterB b = true) := Lib.hid (by simp [letterB]; omega)
        clear h1 h3 h4
        go_enter Try.func102, Try.ntmps102
        go_wp2
        go_ret
        exact ⟨ret_bool HF.out.symm, rfl⟩
      · have t4 : ¬ (b : Int) ≤ 57 := by omega
        have t5 : ((b : Int) == 46) = false := by simp; omega
        have t6 : ((b : Int) == 45) = false := by simp; omega
        have HF : Hid (letterB b = false) := Lib.hid (by simp [letterB]; omega)
        clear h1 h3 h4
        go_enter Try.func102, Try.ntmps102
        go_wp2
        go_ret
        exact ⟨ret_bool HF.out.symm, rfl⟩
    · have t3 : ¬ (48 : Int) ≤ (b : Int) := by omega
      by_cases h5 : b = 46
      · have t5 : ((b : Int) == 46) = true := by simp; omega
        have HF : Hid (letterB b = true) := Lib.hid (by simp [letterB]; omega)
        clear h1 h3 h5
        go_enter Try.func102, Try.ntmps102
        go_wp2
        go_ret
        exact ⟨ret_bool HF.out.symm, rfl⟩
      · have t5 : ((b : Int) == 46) = false := by simp; omega
        by_cases h6 : b = 45
        · have t6 : ((b : Int) == 45) = true := by simp; omega
          have HF : Hid (letterB b = true) := Lib.hid (by simp [letterB]; omega)
          clear h1 h3 h5 h6
          go_enter Try.func102, Try.ntmps102
          go_wp2
          go_ret
          exact ⟨ret_bool HF.out.symm, rfl⟩
        · have t6 : ((b : Int) == 45) = false := by simp; omega
          have HF : Hid (letterB b = false) := Lib.hid (by simp [letterB]; omega)
          clear h1 h3 h5 h6
          go_enter Try.func102, Try.ntmps102
          go_wp2
          go_ret
          exact ⟨ret_bool HF.out.symm, rfl⟩

def textB (s : ByteArray) : Bool := s.data.toList.all (fun c => letterB c.toNat) && decide (s.size ≤ 8)
theorem text_any (s : ByteArray) (hs : s.size ≤ maxLen) (w : World) : Calls Try.prog 99 #[.string s] w fun e w' => e = .returned (.bool (textB s)) ∧ w = w' := by
  unfold maxLen at hs
  go_enter Try.func99, Try.ntmps99
  go_wp2
  go_loop [6] (fun i => ∃ k : Nat, k ≤ s.size ∧ i = .int .i64 k ∧ (s.data.toList.take k).all (fun c => letterB c.toNat) = true) (fun i => s.size - (intOf i).toNat)
  case atStart => exact ⟨0, Nat.zero_le _, rfl, rfl⟩
  case round =>
    obtain ⟨k, hk, rfl, hall⟩ := hrel
    have HA := Lib.hid hall
    clear hall
    by_cases hlt : k < s.size
    · have hts : s.data.toList.take (k + 1) = s.data.toList.take k ++ [s[k]] := by
        rw [List.take_succ_eq_append_getElem (by simpa using hlt)]; rfl
      have HC := Lib.hid (letter_any s[k].toNat (UInt8.toNat_lt _) w)
      have HS : Hid (∀ b, letterB s[k].toNat = b → (s.data.toList.take (k + 1)).all (fun c => letterB c.toNat) = b) := Lib.hid (by
        intro b hb
        rw [hts, List.all_append, HA.out]
        simp [hb])
      clear hts
      obtain ⟨b, hb⟩ : ∃ b, b = letterB s[k].toNat := ⟨_, rfl⟩
      have HB := Lib.hid hb
      rw [← hb] at HC
      clear hb
      cases b with
      | true =>
        go_wp2_with (go_at_call 102; refine HC.out.mono ?_; rintro e w' ⟨rfl, rfl⟩)
        go_round
        case rel => exact ⟨k + 1, by omega, by go_num, HS.out true HB.out.symm⟩
        case measure => simp [intOf]; omega
      | false =>
        have HF : Hid (textB s = false) := Lib.hid (by
          unfold textB
          have h1 := HS.out false HB.out.symm
          have h2 : s.data.toList.all (fun c => letterB c.toNat) = false := by
            rw [List.all_eq_false] at h1 ⊢
            obtain ⟨c, hc, hn⟩ := h1
            exact ⟨c, List.mem_of_mem_take hc, hn⟩
          rw [h2]; rfl)
        go_wp2_with (go_at_call 102; refine HC.out.mono ?_; rintro e w' ⟨rfl, rfl⟩)
        go_ret
        exact ⟨ret_bool HF.out.symm, rfl⟩
    · have HF : Hid (textB s = decide ((s.size : Int) ≤ 8)) := Lib.hid (by
        unfold textB
        have h1 := HA.out
        rw [List.take_of_length_le (by simp; omega)] at h1
        rw [h1]
        simp
        omega)
      go_wp2
      go_ret
      exact ⟨ret_bool HF.out.symm, rfl⟩

/-- A value. -/
structure Val where
  k : Nat
  n : Int
  s : ByteArray
def Val.ok (v : Val) : Bool :=
  if v.k = 2 then decide (v.n = 0) && textB v.s else if v.k = 0 then decide (v.n = 0) && v.s.toList.isEmpty else if v.k = 1 then v.s.toList.isEmpty else false
def Val.v (v : Val) : Value := .agg #[.int .u8 (v.k : Int), .int .i64 v.n, .string v.s]
structure Val.Fits (v : Val) : Prop where
  k : v.k < 256
  n : -9223372036854775808 ≤ v.n ∧ v.n < 9223372036854775808
  s : v.s.size ≤ maxLen
def codeB (b : Bool) : Int := if b then 0 else 3
theorem check_any (v : Val) (hv : v.Fits) (w : World) : Calls Try.prog 89 #[v.v] w fun e w' => e = .returned (.int .i64 (codeB v.ok)) ∧ Mod (fun _ => False) w w' := by
  obtain ⟨k, n, s⟩ := v
  have hk := hv.k
  have hs := hv.s
  simp only at hk hs
  have hk0 : (0 : Int) ≤ (k : Int) := by omega
  have hk1 : (k : Int) < 256 := by omega
  have HT := Lib.hid (text_any s hs)
  obtain ⟨tb, htb⟩ : ∃ tb, tb = textB s := ⟨_, rfl⟩
  have HTB := Lib.hid htb
  rw [← htb] at HT
  clear htb hs hv
  show Calls _ _ #[.agg #[.int .u8 (k : Int), .int .i64 n, .string s]] w _
  by_cases h2 : k = 2
  · subst h2
    by_cases hn : n = 0
    · subst hn
      have HF : Hid (codeB (Val.ok ⟨2, 0, s⟩) = codeB tb) := Lib.hid (by simp [Val.ok, HTB.out])
      cases tb
      all_goals
        go_enter Try.func89, Try.ntmps89
        go_wp2_with (go_at_call 99; refine (HT.out _).mono ?_; rintro e w' ⟨rfl, rfl⟩)
        go_ret
        exact ⟨ret_int (by rw [HF.out]; rfl), (Mod.refl _ _).alloc _⟩
    · have n1 : (n == 0) = false := by simp [hn]
      have HF : Hid (codeB (Val.ok ⟨2, n, s⟩) = 3) := Lib.hid (by simp [Val.ok, hn, codeB])
      clear hn
      go_enter Try.func89, Try.ntmps89
      go_wp2
      go_ret
      exact ⟨ret_int HF.out.symm, (Mod.refl _ _).alloc _⟩
  · have k2 : ((k : Int) == 2) = false := by simp; omega
    obtain ⟨eb, heb⟩ : ∃ eb, eb = s.toList.isEmpty := ⟨_, rfl⟩
    by_cases h0 : k = 0
    · subst h0
      by_cases hn : n = 0
      · subst hn
        have HF : Hid (codeB (Val.ok ⟨0, 0, s⟩) = codeB eb) := Lib.hid (by simp [Val.ok, heb])
        cases eb
        all_goals
          have es := heb.symm
          clear heb h2
          go_enter Try.func89, Try.ntmps89
          go_wp2
          go_ret
          exact ⟨ret_int (by rw [HF.out]; rfl), (Mod.refl _ _).alloc _⟩
      · have n1 : (n == 0) = false := by simp [hn]
        have n2 : (n != 0) = true := by simp [hn]
        have HF : Hid (codeB (Val.ok ⟨0, n, s⟩) = 3) := Lib.hid (by simp [Val.ok, hn, codeB])
        clear hn heb h2
        go_enter Try.func89, Try.ntmps89
        go_wp2
        go_ret
        exact ⟨ret_int HF.out.symm, (Mod.refl _ _).alloc _⟩
    · have k0 : ((k : Int) == 0) = false := by simp; omega
      by_cases h1 : k = 1
      · subst h1
        have HF : Hid (codeB (Val.ok ⟨1, n, s⟩) = codeB eb) := Lib.hid (by simp [Val.ok, heb])
        cases eb
        all_goals
          have es := heb.symm
          clear heb h2 h0
          go_enter Try.func89, Try.ntmps89
          go_wp2
          go_ret
          exact ⟨ret_int (by rw [HF.out]; rfl), (Mod.refl _ _).alloc _⟩
      · have k3 : ((k : Int) == 1) = false := by simp; omega
        have HF : Hid (codeB (Val.ok ⟨k, n, s⟩) = 3) := Lib.hid (by simp [Val.ok, h2, h0, h1, codeB])
        clear heb h2 h0 h1
        go_enter Try.func89, Try.ntmps89
        go_wp2
        go_ret
        exact ⟨ret_int HF.out.symm, (Mod.refl _ _).alloc _⟩
end Go.Proofs.Ytdblilhkojafgaa
