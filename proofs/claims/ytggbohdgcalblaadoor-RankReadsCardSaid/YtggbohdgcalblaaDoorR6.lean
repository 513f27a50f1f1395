/- The contract of digits: a number of k bytes. -/
import Derived.Test.YtggbohdgcalblaaDoorP6
namespace Go.Proofs.YtggbohdgcalblaaDoor
set_option linter.unusedVariables false
open Go.RowKit

def val (l : List Nat) : Nat := l.foldl (fun n b => n * 256 + b) 0
theorem val_snoc (l : List Nat) (b : Nat) : val (l ++ [b]) = val l * 256 + b := by simp [val]
theorem val_lt : ∀ (l : List Nat), (∀ b ∈ l, b < 256) → val l < 256 ^ l.length := by
  suffices h : ∀ (l : List Nat), (∀ b ∈ l, b < 256) → val l.reverse < 256 ^ l.reverse.length by
    intro l hl
    have := h l.reverse (by simpa using hl)
    simpa using this
  intro l
  induction l with
  | nil => intro _; decide
  | cons b l ih =>
    intro h
    have h1 := ih (fun b hb => h b (by simp [hb]))
    have h2 := h b (by simp)
    rw [List.reverse_cons, val_snoc, List.length_append, List.length_singleton, Nat.pow_succ]
    omega
theorem or_byte (n b : Nat) (hn : n < 72057594037927936) (hb : b < 256) : bits .or .u64 ((n : Int) * 256) (b : Int) = ((n * 256 + b : Nat) : Int) := by
  have e : ((n : Int) * 256) = ((n * 256 : Nat) : Int) := by omega
  rw [e, u64_or_nat _ _ (by omega) (by omega)]
  rw [show n * 256 = n <<< 8 by rw [Nat.shiftLeft_eq], ← Nat.shiftLeft_add_eq_or_of_lt (by omega : b < 2 ^ 8)]
/-- The bytes, turned over or not. -/
def turned (t : Bool) (l : List Nat) : List Nat := if t then l.map (255 - ·) else l
theorem turned_length (t : Bool) (l : List Nat) : (turned t l).length = l.length := by cases t <;> simp [turned]
def maskOf (t : Bool) : Int := if t then 255 else 0
def turn1 (t : Bool) (b : Nat) : Nat := if t then 255 - b else b
theorem mask_byte (t : Bool) (b : Nat) (hb : b < 256) : bits .xor .u8 (b : Int) (maskOf t) = ((turn1 t b : Nat) : Int) := by
  cases t
  · have := u8_xor_nat b 0 hb (by decide)
    simpa [maskOf, turn1] using this
  · exact turn_byte b hb
theorem turned_succ (t : Bool) (l : List Nat) (k : Nat) (hk : k < l.length) : turned t (l.take (k + 1)) = turned t (l.take k) ++ [turn1 t (l.getD k 0)] := by
  rw [List.take_succ_eq_append_getElem hk]
  cases t
  · simp [turned, turn1, List.getD_eq_getElem?_getD, hk]
  · simp only [turned, if_true, List.map_append, List.map_cons, List.map_nil, turn1, List.getD_eq_getElem?_getD, List.getElem?_eq_getElem hk, Option.getD_some]
theorem turned_lt {t : Bool} {l : List Nat} (h : ∀ b ∈ l, b < 256) : ∀ b ∈ turned t l, b < 256 := by
  cases t
  · exact h
  · intro b hb; simp [turned] at hb; obtain ⟨a, _, rfl⟩ := hb; omega
def digN (t : Bool) (xs : List Nat) (k : Nat) : Nat := val (turned t (xs.take k))
theorem digN_lt {t : Bool} {xs : List Nat} {k : Nat} (h : ∀ b ∈ xs, b < 256) (hk : k ≤ 8) : digN t xs k < 18446744073709551616 := by
  have h1 := val_lt _ (turned_lt (t := t) (l := xs.take k) (fun b hb => h b (List.mem_of_mem_take hb)))
  rw [turned_length] at h1
  have h2 : 256 ^ (xs.take k).length ≤ 256 ^ 8 := Nat.pow_le_pow_right (by decide) (by simp; omega)
  unfold digN
  have e : 256 ^ 8 = 18446744073709551616 := by decide
  omega
theorem digN_lt7 {t : Bool} {xs : List Nat} {k : Nat} (h : ∀ b ∈ xs, b < 256) (hk : k ≤ 7) : digN t xs k < 72057594037927936 := by
  have h1 := val_lt _ (turned_lt (t := t) (l := xs.take k) (fun b hb => h b (List.mem_of_mem_take hb)))
  rw [turned_length] at h1
  have h2 : 256 ^ (xs.take k).length ≤ 256 ^ 7 := Nat.pow_le_pow_right (by decide) (by simp; omega)
  unfold digN
  have e : 256 ^ 7 = 72057594037927936 := by decide
  omega
theorem digN_succ {t : Bool} {xs : List Nat} {k : Nat} (hk : k < xs.length) : digN t xs (k + 1) = digN t xs k * 256 + turn1 t (xs.getD k 0) := by
  unfold digN; rw [turned_succ t xs k hk, val_snoc]
theorem getD_lt {xs : List Nat} (h : ∀ b ∈ xs, b < 256) (k : Nat) : xs.getD k 0 < 256 := by
  rw [List.getD_eq_getElem?_getD]
  by_cases hk : k < xs.length
  · simp only [List.getElem?_eq_getElem hk, Option.getD_some]; exact h _ (List.getElem_mem hk)
  · simp [List.getElem?_eq_none (Nat.le_of_not_lt hk)]
theorem turn1_lt {t : Bool} {b : Nat} (h : b < 256) : turn1 t b < 256 := by unfold turn1; split <;> omega

theorem natBeq (a b : Nat) : ((a : Int) == (b : Int)) = decide (a = b) := by rw [Bool.eq_iff_iff]; simp [Int.ofNat_inj]
theorem ret_dig {a b : Int} {c d : Bool} (h1 : a = b) (h2 : c = d) : Ending.returned (.tuple #[.int .u64 a, .bool c]) = .returned (.tuple #[.int .u64 b, .bool d]) := by rw [h1, h2]

set_option maxRecDepth 100000 in
set_option maxHeartbeats 4000000 in
theorem digits_any (v : Value) (xs : List Nat) (k : Nat) (t : Bool) (w : World) (hv : Rd w v xs) (hx : ∀ b ∈ xs, b < 256) (hk : k ≤ 8) (hl : k ≤ xs.length) :
    Calls Tryd.prog 30 #[v, .int .i64 k, .int .u8 (maskOf t)] w fun e w' => e = .returned (.tuple #[.int .u64 (digN t xs k), .bool (decide (sizeN (digN t xs k) = k))]) ∧ Mod (fun _ => False) w w' := by
  obtain ⟨a, c, hva, hc1, hc2, hc3⟩ := hv.shape
  have HV := Lib.hid hv
  have HX := Lib.hid hx
  obtain ⟨m, hm⟩ : ∃ m, m = maskOf t := ⟨_, rfl⟩
  have HM := Lib.hid hm
  rw [← hm]
  have hkl : ¬ ((xs.length : Int) < (k : Int)) := by omega
  have hk8 : ¬ ((8 : Int) < (k : Int)) := by omega
  subst hva
  clear hv hx hm hc1 hc2 hc3
  go_enter Tryd.func30, Tryd.ntmps30
  have htl : (xs.take k).length = k := by simp; omega
  have HTL := Lib.hid htl
  clear htl
  go_wp2_with (first | (refine wpList_to_rd rfl (.tmp 19) (.tmp 20) 23 rfl HV.out k .i64 rfl rfl hl Tryd.underlying23 sizeU8 ?_; intro v1 hv1 ho1; (obtain ⟨a1, c1, rfl, -⟩ := hv1.shape); have HU := Lib.hid (hv1.cell a1 c1 rfl); clear hv1 ho1; rw [HTL.out] at HU ⊢))
  go_loopw [8, 23] (fun n i wr => ∃ j : Nat, n = .int .u64 (digN t xs j : Nat) ∧ i = .int .i64 j ∧ j ≤ k ∧ Mod (fun _ => False) w wr) (fun _ i _ => k - (intOf i).toNat)
  case atStart => exact ⟨0, by cases t <;> rfl, rfl, Nat.zero_le _, Mod.refl _ _⟩
  case round =>
    obtain ⟨j, rfl, rfl, hj, hmo⟩ := hrel
    have HMO := Lib.hid hmo
    clear hmo
    by_cases hjk : j < k
    · obtain ⟨p1, o1, rfl, hp1, q1⟩ := HU.out j (by omega)
      have hb := getD_lt HX.out j
      have e1 : (xs.take k).getD j 0 = xs.getD j 0 := by simp [List.getD_eq_getElem?_getD, hjk]
      rw [e1] at q1
      have d1 : wr.cell? ⟨p1, o1 + j, none⟩ = some (.int .u8 ((xs.getD j 0 : Nat) : Int)) := (World.cell?_of_block (w := w) (HMO.out.block p1 hp1 (fun f => f))).trans q1
      have hs := digN_succ (t := t) (show j < xs.length by omega)
      have hlt := digN_lt7 (t := t) HX.out (show j ≤ 7 by omega)
      have HB : Hid (bits .or .u64 ((digN t xs j : Nat) * 256 : Int) (IntKind.u64.wrap (bits .xor .u8 ((xs.getD j 0 : Nat) : Int) m)) = ((digN t xs (j + 1) : Nat) : Int)) := by
        show _ = _
        have ht1 := turn1_lt (t := t) hb
        rw [HM.out, mask_byte t _ hb, hs, IntWalk.u64_in _ (by omega), or_byte _ _ hlt ht1]
      clear q1 e1 hs
      obtain ⟨n, hn⟩ : ∃ n, n = digN t xs j := ⟨_, rfl⟩
      obtain ⟨b, hbe⟩ : ∃ b, b = xs.getD j 0 := ⟨_, rfl⟩
      obtain ⟨n2, hn2⟩ : ∃ n2, n2 = digN t xs (j + 1) := ⟨_, rfl⟩
      have HN2 := Lib.hid hn2
      rw [← hn] at hlt
      rw [← hn, ← hn2, ← hbe] at HB
      rw [← hbe] at d1 hb
      rw [← hn]
      have hlt2 : (n : Int) < 72057594037927936 := by omega
      clear hn hbe hn2 hlt
      go_wp2
      go_roundw
      case rel =>
        refine ⟨j + 1, ?_, by go_num, by omega, HMO.out.trans (by repeat (first | exact Mod.refl _ _ | apply Mod.drewN | apply Mod.drew))⟩
        rw [← HN2.out, ← HB.out]
      case measure => simp [intOf]; omega
    · obtain rfl : j = k := by omega
      have HS := Lib.hid (size_any (digN t xs j) (digN_lt HX.out hk) (bitLen_le64 (digN_lt HX.out hk)) wr)
      obtain ⟨n, hn⟩ : ∃ n, n = digN t xs j := ⟨_, rfl⟩
      have HN := Lib.hid hn
      rw [← hn] at HS ⊢
      clear hn
      go_wp2_with fail
      refine HS.out.mono ?_
      rintro e w' ⟨rfl, rfl⟩
      go_wp2
      go_ret2
      exact ⟨ret_dig (by rw [HN.out]) (by rw [HN.out]; exact natBeq _ _), HMO.out⟩
theorem digits_fail (v : Value) (xs : List Nat) (k : Nat) (m : Int) (w : World) (hv : Rd w v xs) (hk : 8 < k ∨ xs.length < k) :
    Calls Tryd.prog 30 #[v, .int .i64 k, .int .u8 m] w fun e w' => e = .returned (.tuple #[.int .u64 0, .bool false]) ∧ w = w' := by
  obtain ⟨a, c, rfl, -⟩ := hv.shape
  clear hv
  by_cases h8 : 8 < k
  · have h9 : (8 : Int) < (k : Int) := by omega
    clear hk h8
    go_enter Tryd.func30, Tryd.ntmps30
    go_wp2
    go_ret2
    exact ⟨rfl, rfl⟩
  · have h9 : ¬ ((8 : Int) < (k : Int)) := by omega
    have h10 : (xs.length : Int) < (k : Int) := by omega
    clear hk h8
    go_enter Tryd.func30, Tryd.ntmps30
    go_wp2
    go_ret2
    exact ⟨rfl, rfl⟩

/-- What ReadUint says. -/
def readU : List Nat → Option (Nat × Nat)
  | [] => none
  | k :: r => if k ≤ 8 ∧ k ≤ r.length ∧ sizeN (digN false r k) = k then some (digN false r k, 1 + k) else none
def resU : Option (Nat × Nat) → Ending
  | none => .returned (.tuple #[.int .u64 0, .int .i64 0, .int .i64 3])
  | some (n, i) => .returned (.tuple #[.int .u64 (n : Int), .int .i64 (i : Int), .int .i64 0])
set_option maxRecDepth 100000 in
set_option maxHeartbeats 4000000 in
theorem readU_any (v : Value) (xs : List Nat) (w : World) (hv : Rd w v xs) (hx : ∀ b ∈ xs, b < 256) :
    Calls Tryd.prog 21 #[v] w fun e w' => e = resU (readU xs) ∧ Mod (fun _ => False) w w' := by
  obtain ⟨a, c, hva, -⟩ := hv.shape
  have HV := Lib.hid hv
  cases xs with
  | nil =>
    subst hva
    simp only [List.length_nil]
    clear hv
    go_enter Tryd.func21, Tryd.ntmps21
    go_wp2
    go_ret3
    exact ⟨rfl, Mod.refl _ _⟩
  | cons k r =>
    obtain ⟨b, off, rfl, hb, q0⟩ := hv.cell a c hva 0 (by simp)
    simp only [Nat.add_zero, List.getD_cons_zero] at q0
    have hl0 : ((r.length + 1 : Nat) : Int) ≠ 0 := by omega
    have hl1 : 1 ≤ (k :: r).length := by simp
    have HXR : Hid (∀ b ∈ r, b < 256) := fun b hb => hx b (List.mem_cons_of_mem _ hb)
    have hk256 : k < 256 := hx k (List.mem_cons_self ..)
    simp only [List.length_cons] at hva
    subst hva
    clear hv hx
    have hk0 : (0 : Int) ≤ (k : Int) := by omega
    have hk1 : (k : Int) < 256 := by omega
    have HD : ∃ N : Nat, ∃ B : Bool, (∀ v1, Rd w v1 r → Calls Tryd.prog 30 #[v1, .int .i64 k, .int .u8 0] w fun e w' => e = .returned (.tuple #[.int .u64 N, .bool B]) ∧ Mod (fun _ => False) w w') ∧ readU (k :: r) = if B then some (N, 1 + k) else none := by
      by_cases h : k ≤ 8 ∧ k ≤ r.length
      · refine ⟨digN false r k, decide (sizeN (digN false r k) = k), fun v1 h1 => digits_any v1 r k false w h1 HXR.out h.1 h.2, ?_⟩
        simp [readU, h.1, h.2]
      · refine ⟨0, false, fun v1 h1 => (digits_fail v1 r k 0 w h1 (by omega)).mono fun e w' h => ⟨h.1, by rw [← h.2]; exact Mod.refl _ _⟩, ?_⟩
        have : ¬ (k ≤ 8 ∧ k ≤ r.length ∧ sizeN (digN false r k) = k) := fun h2 => h ⟨h2.1, h2.2.1⟩
        simp [readU, this]
    obtain ⟨N, B, hD1, hD2⟩ := HD
    have HD1 := Lib.hid hD1
    have HD2 := Lib.hid hD2
    clear hD1 hD2
    go_enter Tryd.func21, Tryd.ntmps21
    go_wp2_with (first | (refine wpList_from_rd rfl (.tmp 16) (.const (.int .i64 1)) 23 rfl HV.out 1 .i64 rfl rfl hl1 Tryd.underlying23 sizeU8 ?_; intro v1 hv1 ho1; have HV1 := Lib.hid hv1; clear hv1 ho1))
    refine (HD1.out _ HV1.out).mono ?_
    rintro e w' ⟨rfl, hm⟩
    have HM := Lib.hid hm
    clear hm
    cases B with
    | false =>
      have HF : Hid (resU (readU (k :: r)) = .returned (.tuple #[.int .u64 0, .int .i64 0, .int .i64 3])) := by
        show _ = _
        rw [HD2.out]; rfl
      go_wp2
      go_ret3
      exact ⟨HF.out.symm, HM.out⟩
    | true =>
      have HF : Hid (resU (readU (k :: r)) = .returned (.tuple #[.int .u64 N, .int .i64 (1 + (k : Int)), .int .i64 0])) := by
        show _ = _
        rw [HD2.out]; simp [resU]
      go_wp2
      go_ret3
      exact ⟨HF.out.symm, HM.out⟩
end Go.Proofs.YtggbohdgcalblaaDoor
