/- s[lo:hi] of slices of structs that are only read. -/
import Derived.Test.YtdblilhkojafgaaG6
namespace Go.Proofs.Ytdblilhkojafgaa
set_option linter.unusedVariables false
open Go.RowKit

theorem RdS.cut {w : World} {size n : Nat} {v : Value} {xs : List Value} {P : Program} {e : TypeId} (h : RdS w size v n xs) (h0 : 0 < size) {lo hi : Nat} (hlo : lo ≤ hi) (hhi : hi ≤ n) {t : TypeId} (ht : P.underlying t = some (.slice e)) (hsz : (P.info? e).map (·.size) = some size) (kk kk' : IntKind)
    (L H : Option Value) (hL : L = some (.int kk lo) ∨ (L = none ∧ lo = 0)) (hH : H = some (.int kk' hi) ∨ (H = none ∧ hi = n)) :
    ∃ v', (∀ wx, (Instr.slice t v L H none).run P wx = .ok v' wx) ∧ RdS w size v' (hi - lo) ((xs.take (hi * size)).drop (lo * size)) ∧ v'.ownBlock = v.ownBlock := by
  obtain ⟨i, hi', hsi⟩ : ∃ i, P.info? e = some i ∧ i.size = size := by
    cases hp : P.info? e with
    | none => simp [hp] at hsz
    | some i => exact ⟨i, rfl, by simpa [hp] using hsz⟩
  obtain ⟨a, c, rfl, h1, h2, h3⟩ := h.shape
  have hx := h.len
  have hm : hi * size ≤ n * size := Nat.mul_le_mul_right _ hhi
  have hlen : ((xs.take (hi * size)).drop (lo * size)).length = (hi - lo) * size := by
    rw [List.length_drop, List.length_take, hx, Nat.sub_mul]; omega
  have hcell := h.cell a c rfl
  cases a with
  | none =>
    obtain rfl := h3 rfl
    obtain rfl : hi = 0 := by omega
    obtain rfl : lo = 0 := by omega
    obtain rfl : n = 0 := by omega
    refine ⟨.slice none 0 0, ?_, ⟨by rw [hlen], ⟨none, 0, rfl, by simp, by omega, fun _ => rfl⟩, fun a' c' e' j u hu => ?_⟩, rfl⟩
    · intro wx; rcases hL with rfl | ⟨rfl, _⟩ <;> rcases hH with rfl | ⟨rfl, _⟩ <;> simp [Instr.slice, run_underlying ht, Instr.sliceBounds, Instr.sliceBound, asIntOf, sizeOf, typeInfo, hi']
    · simp at hu
  | some ad =>
    have hhc : hi ≤ c := by omega
    have hlc : lo ≤ c := by omega
    refine ⟨.slice (some (if c = lo then ad else ad.add (lo * size))) (hi - lo) (c - lo), ?_, ⟨hlen, ⟨_, _, rfl, by omega, by omega, fun h => by cases h⟩, fun a' c' e' j u hu => ?_⟩, ?_⟩
    · intro wx
      by_cases hc : c = lo
      · subst hc
        obtain rfl : hi = c := by omega
        rcases hL with rfl | ⟨rfl, hl0⟩ <;> rcases hH with rfl | ⟨rfl, hhn⟩ <;> simp_all [Instr.slice, run_underlying ht, Instr.sliceBounds, Instr.sliceBound, asIntOf, sizeOf, typeInfo]
      · rcases hL with rfl | ⟨rfl, hl0⟩ <;> rcases hH with rfl | ⟨rfl, hhn⟩ <;> simp_all [Instr.slice, run_underlying ht, Instr.sliceBounds, Instr.sliceBound, asIntOf, sizeOf, typeInfo]
    · injection e' with e1 e2 e3
      have hj : j < (hi - lo) * size := by rw [← hlen]; exact (List.getElem?_eq_some_iff.1 hu).1
      have hc : c ≠ lo := fun e => by
        have : hi - lo = 0 := by omega
        rw [this] at hj; omega
      rw [List.getElem?_drop, List.getElem?_take] at hu
      split at hu
      · obtain ⟨b, off, ea, hb, hcl⟩ := hcell (lo * size + j) u hu
        injection ea with ea
        subst ea
        refine ⟨b, off + lo * size, by rw [← e1, if_neg hc, addr_add], hb, ?_⟩
        rw [Nat.add_assoc, hcl]
      · simp at hu
    · by_cases hc : c = lo
      · simp [hc, Value.ownBlock]
      · obtain ⟨b, off, spot⟩ := ad
        cases spot <;> simp only [hc, if_false, Value.ownBlock, Addr.add] <;> (try split) <;> rfl
theorem vcells_drop (l : List Vs) (k : Nat) : (vcells l).drop (k * 4) = vcells (l.drop k) := by
  induction l generalizing k with
  | nil => simp [vcells]
  | cons s r ih =>
    cases k with
    | zero => simp
    | succ k =>
      have : vcells (s :: r) = s.cells ++ vcells r := by simp [vcells]
      rw [this, show (k + 1) * 4 = 4 + k * 4 by omega, ← List.drop_drop, List.drop_left' (by rfl), List.drop_succ_cons, ih]
theorem vcells_take (l : List Vs) (k : Nat) : (vcells l).take (k * 4) = vcells (l.take k) := by
  induction l generalizing k with
  | nil => simp [vcells]
  | cons s r ih =>
    cases k with
    | zero => simp [vcells]
    | succ k =>
      have : vcells (s :: r) = s.cells ++ vcells r := by simp [vcells]
      have h2 : vcells (s :: r.take k) = s.cells ++ vcells (r.take k) := by simp [vcells]
      rw [this, show (k + 1) * 4 = s.cells.length + k * 4 by rw [show s.cells.length = 4 from rfl]; omega, List.take_length_add_append, List.take_succ_cons, h2, ih]
theorem LRd.from {w : World} {v : Value} {l : List Vs} (h : LRd w v l) {k : Nat} (hk : k ≤ l.length) (kk : IntKind) :
    ∃ v', (Instr.slice 26 v (some (.int kk k)) none none).run Try.prog w = .ok v' w ∧ LRd w v' (l.drop k) := by
  obtain ⟨v', h1, h2, _⟩ := h.row.cut (by omega) (lo := k) (hi := l.length) hk (Nat.le_refl _) Try.underlying26 (e := 31) (by kernel_rfl) kk kk (some (.int kk k)) none (.inl rfl) (.inr ⟨rfl, rfl⟩)
  refine ⟨v', h1 _, ?_, fun s hs => h.each s (List.mem_of_mem_drop hs)⟩
  rw [List.take_of_length_le (by rw [h.row.len]; omega), vcells_drop] at h2
  simpa using h2
theorem LRd.to {w : World} {v : Value} {l : List Vs} (h : LRd w v l) {k : Nat} (hk : k ≤ l.length) (kk : IntKind) :
    ∃ v', (Instr.slice 26 v none (some (.int kk k)) none).run Try.prog w = .ok v' w ∧ LRd w v' (l.take k) := by
  obtain ⟨v', h1, h2, _⟩ := h.row.cut (by omega) (lo := 0) (hi := k) (Nat.zero_le _) hk Try.underlying26 (e := 31) (by kernel_rfl) kk kk none (some (.int kk k)) (.inr ⟨rfl, rfl⟩) (.inl rfl)
  refine ⟨v', h1 _, ?_, fun s hs => h.each s (List.mem_of_mem_take hs)⟩
  rw [vcells_take] at h2
  simpa [List.length_take, Nat.min_eq_left hk] using h2
theorem cellsOf_take (q : IntKind) (l : List Ent) (k : Nat) : (cellsOf q l).take (k * 4) = cellsOf q (l.take k) := by
  induction l generalizing k with
  | nil => simp [cellsOf]
  | cons s r ih =>
    cases k with
    | zero => simp [cellsOf]
    | succ k =>
      have : cellsOf q (s :: r) = s.cells q ++ cellsOf q r := by simp [cellsOf]
      have h2 : cellsOf q (s :: r.take k) = s.cells q ++ cellsOf q (r.take k) := by simp [cellsOf]
      rw [this, show (k + 1) * 4 = (s.cells q).length + k * 4 by rw [show (s.cells q).length = 4 from rfl]; omega, List.take_length_add_append, List.take_succ_cons, h2, ih]
/-- A vertex with fewer halves. -/
theorem VRd.cut {w : World} {vp vh : Value} {x : Vtx} (h : VRd w vp vh x) {k : Nat} (hk : k ≤ x.halves.length) (kk : IntKind) :
    ∃ v', (∀ wx, (Instr.slice 29 vh none (some (.int kk k)) none).run Try.prog wx = .ok v' wx) ∧ VRd w vp v' ⟨x.id, x.there, x.props, x.halves.take k⟩ := by
  obtain ⟨v', h1, h2, _⟩ := h.halves.cut (by omega) (lo := 0) (hi := k) (Nat.zero_le _) hk Try.underlying29 (e := 96) (by kernel_rfl) kk kk none (some (.int kk k)) (.inr ⟨rfl, rfl⟩) (.inl rfl)
  refine ⟨v', h1, ⟨h.fits.id, h.fits.props, fun p hp => h.fits.halves p (List.mem_of_mem_take hp)⟩, h.props, ?_⟩
  rw [cellsOf_take] at h2
  simpa [List.length_take, Nat.min_eq_left hk] using h2
end Go.Proofs.Ytdblilhkojafgaa
