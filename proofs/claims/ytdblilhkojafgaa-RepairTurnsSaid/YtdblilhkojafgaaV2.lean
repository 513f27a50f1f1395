/- Numbers: graph.number, cmp.Compare at byte and at uint32. -/
import Derived.Test.YtdblilhkojafgaaV1
import Derived.Deep.QuietTactic
import Derived.BigQuiet
namespace Go.Proofs.Ytdblilhkojafgaa
set_option linter.unusedVariables false
open Go.RowKit

theorem Mod.drewN {S : Nat → Prop} {a w : World} (h : Mod S a w) (n : Nat) : Mod S a (w.drewN n) := ⟨h.os, h.tape, h.output, h.size, h.block⟩
def numB (v : Nat) : Bool := decide (1 ≤ v ∧ v ≤ 40)
theorem number_any (v : Nat) (w : World) : Calls Try.prog 88 #[.int .u32 (v : Int)] w fun e w' => e = .returned (.bool (numB v)) ∧ w = w' := by
  by_cases h1 : 1 ≤ v
  · have t1 : (1 : Int) ≤ (v : Int) := by omega
    by_cases h2 : v ≤ 40
    · have t2 : (v : Int) ≤ 40 := by omega
      have HF : Hid (numB v = true) := Lib.hid (by simp [numB]; omega)
      clear h1 h2
      go_enter Try.func88, Try.ntmps88
      go_wp2
      go_ret
      exact ⟨ret_bool HF.out.symm, rfl⟩
    · have t2 : ¬ (v : Int) ≤ 40 := by omega
      have HF : Hid (numB v = false) := Lib.hid (by simp [numB]; omega)
      clear h1 h2
      go_enter Try.func88, Try.ntmps88
      go_wp2
      go_ret
      exact ⟨ret_bool HF.out.symm, rfl⟩
  · have t1 : ¬ (1 : Int) ≤ (v : Int) := by omega
    have HF : Hid (numB v = false) := Lib.hid (by simp [numB]; omega)
    clear h1
    go_enter Try.func88, Try.ntmps88
    go_wp2
    go_ret
    exact ⟨ret_bool HF.out.symm, rfl⟩

def cmpN (a b : Nat) : Int := if a < b then -1 else if b < a then 1 else 0
theorem nan8_any (v : Int) (w : World) : Calls Try.prog 100 #[.int .u8 v] w fun e w' => e = .returned (.bool false) ∧ w = w' := by
  have h : (v != v) = false := by simp
  go_enter Try.func100, Try.ntmps100
  go_wp2
  go_ret
  exact ⟨rfl, rfl⟩
theorem nan32_any (v : Int) (w : World) : Calls Try.prog 98 #[.int .u32 v] w fun e w' => e = .returned (.bool false) ∧ w = w' := by
  have h : (v != v) = false := by simp
  go_enter Try.func98, Try.ntmps98
  go_wp2
  go_ret
  exact ⟨rfl, rfl⟩
theorem cmp8_any (a b : Nat) (w : World) : Calls Try.prog 90 #[.int .u8 (a : Int), .int .u8 (b : Int)] w fun e w' => e = .returned (.int .i64 (cmpN a b)) ∧ w = w' := by
  rcases Nat.lt_trichotomy a b with h | h | h
  · have t1 : (a : Int) < (b : Int) := by omega
    have HF : Hid (cmpN a b = -1) := Lib.hid (by simp [cmpN, h])
    clear h
    go_enter Try.func90, Try.ntmps90
    go_wp2_with (go_at_call 100; refine (nan8_any _ _).mono ?_; rintro e w' ⟨rfl, rfl⟩)
    go_ret
    exact ⟨ret_int HF.out.symm, rfl⟩
  · subst h
    have t1 : ¬ (a : Int) < (a : Int) := by omega
    have HF : Hid (cmpN a a = 0) := Lib.hid (by simp [cmpN])
    go_enter Try.func90, Try.ntmps90
    go_wp2_with (go_at_call 100; refine (nan8_any _ _).mono ?_; rintro e w' ⟨rfl, rfl⟩)
    go_ret
    exact ⟨ret_int HF.out.symm, rfl⟩
  · have t1 : ¬ (a : Int) < (b : Int) := by omega
    have t2 : (b : Int) < (a : Int) := by omega
    have HF : Hid (cmpN a b = 1) := Lib.hid (by unfold cmpN; rw [if_neg (by omega), if_pos h])
    clear h
    go_enter Try.func90, Try.ntmps90
    go_wp2_with (go_at_call 100; refine (nan8_any _ _).mono ?_; rintro e w' ⟨rfl, rfl⟩)
    go_ret
    exact ⟨ret_int HF.out.symm, rfl⟩
theorem cmp32_any (a b : Nat) (w : World) : Calls Try.prog 91 #[.int .u32 (a : Int), .int .u32 (b : Int)] w fun e w' => e = .returned (.int .i64 (cmpN a b)) ∧ w = w' := by
  rcases Nat.lt_trichotomy a b with h | h | h
  · have t1 : (a : Int) < (b : Int) := by omega
    have HF : Hid (cmpN a b = -1) := Lib.hid (by simp [cmpN, h])
    clear h
    go_enter Try.func91, Try.ntmps91
    go_wp2_with (go_at_call 98; refine (nan32_any _ _).mono ?_; rintro e w' ⟨rfl, rfl⟩)
    go_ret
    exact ⟨ret_int HF.out.symm, rfl⟩
  · subst h
    have t1 : ¬ (a : Int) < (a : Int) := by omega
    have HF : Hid (cmpN a a = 0) := Lib.hid (by simp [cmpN])
    go_enter Try.func91, Try.ntmps91
    go_wp2_with (go_at_call 98; refine (nan32_any _ _).mono ?_; rintro e w' ⟨rfl, rfl⟩)
    go_ret
    exact ⟨ret_int HF.out.symm, rfl⟩
  · have t1 : ¬ (a : Int) < (b : Int) := by omega
    have t2 : (b : Int) < (a : Int) := by omega
    have HF : Hid (cmpN a b = 1) := Lib.hid (by unfold cmpN; rw [if_neg (by omega), if_pos h])
    clear h
    go_enter Try.func91, Try.ntmps91
    go_wp2_with (go_at_call 98; refine (nan32_any _ _).mono ?_; rintro e w' ⟨rfl, rfl⟩)
    go_ret
    exact ⟨ret_int HF.out.symm, rfl⟩

/-- A slice of structs of 'size' cells each that is only read: its cells are xs. -/
structure RdS (w : World) (size : Nat) (v : Value) (n : Nat) (xs : List Value) : Prop where
  len : xs.length = n * size
  shape : ∃ a c, v = .slice a n c ∧ n ≤ c ∧ c ≤ 9223372036854775807 ∧ (a = none → c = 0)
  cell : ∀ a c, v = .slice a n c → ∀ j u, xs[j]? = some u → ∃ b off, a = some ⟨b, off, none⟩ ∧ b < w.heap.size ∧ w.cell? ⟨b, off + j, none⟩ = some u
theorem RdS.mod {S : Nat → Prop} {w w' : World} {size n : Nat} {v : Value} {xs : List Value} (h : RdS w size v n xs) (m : Mod S w w') (hs : ∀ b, v.ownBlock = some b → ¬ S b) : RdS w' size v n xs := by
  refine ⟨h.len, h.shape, fun a c e j u hu => ?_⟩
  obtain ⟨b, off, ea, hb, hc⟩ := h.cell a c e j u hu
  exact ⟨b, off, ea, Nat.lt_of_lt_of_le hb m.size, (World.cell?_of_block (w := w) (m.block b hb (hs b (by rw [e, ea]; rfl)))).trans hc⟩
theorem RdS.keep {w w' : World} {size n : Nat} {v : Value} {xs : List Value} (h : RdS w size v n xs) (m : Mod (fun _ => False) w w') : RdS w' size v n xs := h.mod m (fun _ _ f => f)
theorem RdS.src {w : World} {size n : Nat} {v : Value} {xs : List Value} (h : RdS w size v n xs) (h1 : ∀ u ∈ xs, u.oneCell' = true) : Src w size v n xs := by
  refine ⟨h.len, h1, ?_⟩
  obtain ⟨a, c, e, hc1, hc2, hc3⟩ := h.shape
  cases a with
  | none =>
    obtain rfl := hc3 rfl
    have : n = 0 := by omega
    exact .inl ⟨by rw [e, this], this⟩
  | some ad =>
    refine .inr ⟨ad, c, e, fun j u hu => ?_⟩
    obtain ⟨b, off, ea, _, hc⟩ := h.cell _ _ e j u hu
    injection ea with ea
    subst ea
    rw [addr_add, hc]
theorem Seg.rdS {w : World} {e : TypeId} {size n : Nat} {v : Value} {xs : List Value} (h : Seg w e size v n xs) : RdS w size v n xs := by
  have h0 := h
  obtain ⟨hl, h1, h2⟩ := h
  refine ⟨hl, ?_, fun a c e j u hu => ?_⟩
  · rcases h2 with ⟨rfl, rfl⟩ | ⟨g, off, cap, cur, rfl, hg, hc, hm, _⟩
    · exact ⟨none, 0, rfl, Nat.le_refl _, by decide, fun _ => rfl⟩
    · exact ⟨_, _, rfl, hc, by unfold maxLen at hm; omega, fun h => by cases h⟩
  · have hj : j < n * size := by rw [← hl]; exact (List.getElem?_eq_some_iff.1 hu).1
    have hn : 0 < n := by
      rcases Nat.eq_zero_or_pos n with rfl | hn
      · omega
      · exact hn
    obtain ⟨g, off, cap, e2, _, _, hg, hc⟩ := h0.open hn
    rw [e2] at e
    injection e with e3 e4 e5
    exact ⟨g, off, e3.symm, hg, by rw [(hc j hj).1]; exact hu⟩

/-- A property or an edge: its number, its value. -/
structure Ent where
  key : Nat
  val : Val
def Ent.cells (kk : IntKind) (x : Ent) : List Value := [.int kk (x.key : Int), .int .u8 (x.val.k : Int), .int .i64 x.val.n, .string x.val.s]
def Ent.v (kk : IntKind) (x : Ent) : Value := .agg (x.cells kk).toArray
def cellsOf (kk : IntKind) (l : List Ent) : List Value := l.flatMap (Ent.cells kk)
theorem cellsOf_length (kk : IntKind) (l : List Ent) : (cellsOf kk l).length = l.length * 4 := by
  induction l with
  | nil => rfl
  | cons x r ih => simp [cellsOf] at ih ⊢; rw [ih]; simp [Ent.cells]; omega
theorem cellsOf_append (kk : IntKind) (a b : List Ent) : cellsOf kk (a ++ b) = cellsOf kk a ++ cellsOf kk b := by simp [cellsOf]
theorem cellsOf_get (kk : IntKind) : ∀ (l : List Ent) (i j : Nat) (x : Ent), l[i]? = some x → j < 4 → (cellsOf kk l)[i * 4 + j]? = (x.cells kk)[j]?
  | [], i, j, x, h, _ => by simp at h
  | y :: r, 0, j, x, h, hj => by
    simp at h
    subst h
    show ((y.cells kk) ++ cellsOf kk r)[0 * 4 + j]? = _
    rw [Nat.zero_mul, Nat.zero_add, List.getElem?_append_left (by simpa [Ent.cells] using hj)]
  | y :: r, i + 1, j, x, h, hj => by
    simp at h
    show ((y.cells kk) ++ cellsOf kk r)[(i + 1) * 4 + j]? = _
    rw [List.getElem?_append_right (by simp [Ent.cells]; omega)]
    have e : (i + 1) * 4 + j - (y.cells kk).length = i * 4 + j := by simp [Ent.cells]; omega
    rw [e]
    exact cellsOf_get kk r i j x h hj
theorem cellsOf_ones (kk : IntKind) (l : List Ent) : ∀ u ∈ cellsOf kk l, u.oneCell' = true := by
  intro u hu
  simp only [cellsOf, List.mem_flatMap, Ent.cells] at hu
  obtain ⟨x, _, hx⟩ := hu
  simp at hx
  rcases hx with rfl | rfl | rfl | rfl <;> rfl
/-- The cells of element i. -/
theorem RdS.ent {w : World} {kk : IntKind} {v : Value} {n : Nat} {l : List Ent} (h : RdS w 4 v n (cellsOf kk l)) {i : Nat} {x : Ent} (hi : l[i]? = some x) {a : Option Addr} {c : Nat} (e : v = .slice a n c) :
    ∃ b off, a = some ⟨b, off, none⟩ ∧ b < w.heap.size ∧ w.cell? ⟨b, off + i * 4, none⟩ = some (.int kk (x.key : Int)) ∧ w.cell? ⟨b, off + i * 4 + 1, none⟩ = some (.int .u8 (x.val.k : Int)) ∧ w.cell? ⟨b, off + i * 4 + 2, none⟩ = some (.int .i64 x.val.n) ∧ w.cell? ⟨b, off + i * 4 + 3, none⟩ = some (.string x.val.s) := by
  have g := fun j hj => cellsOf_get kk l i j x hi hj
  obtain ⟨b, off, ea, hb, h0⟩ := h.cell a c e (i * 4 + 0) (.int kk (x.key : Int)) (by rw [g 0 (by omega)]; rfl)
  obtain ⟨b1, off1, ea1, _, h1⟩ := h.cell a c e (i * 4 + 1) (.int .u8 (x.val.k : Int)) (by rw [g 1 (by omega)]; rfl)
  obtain ⟨b2, off2, ea2, _, h2⟩ := h.cell a c e (i * 4 + 2) (.int .i64 x.val.n) (by rw [g 2 (by omega)]; rfl)
  obtain ⟨b3, off3, ea3, _, h3⟩ := h.cell a c e (i * 4 + 3) (.string x.val.s) (by rw [g 3 (by omega)]; rfl)
  rw [ea] at ea1 ea2 ea3
  injection ea1 with e1; injection e1 with e1 e1'
  injection ea2 with e2; injection e2 with e2 e2'
  injection ea3 with e3; injection e3 with e3 e3'
  subst e1 e1' e2 e2' e3 e3'
  exact ⟨b, off, ea, hb, h0, by rw [Nat.add_assoc]; exact h1, by rw [Nat.add_assoc]; exact h2, by rw [Nat.add_assoc]; exact h3⟩

/-- A vertex as it is told. -/
structure Vtx where
  id : Nat
  there : Bool
  props : List Ent
  halves : List Ent
structure Vtx.Fits (x : Vtx) : Prop where
  id : x.id < 4294967296
  props : ∀ p ∈ x.props, p.key < 256 ∧ p.val.Fits
  halves : ∀ p ∈ x.halves, p.key < 4294967296 ∧ p.val.Fits
/-- The two slices of a vertex, in memory. -/
structure VRd (w : World) (vp vh : Value) (x : Vtx) : Prop where
  fits : x.Fits
  props : RdS w 4 vp x.props.length (cellsOf .u8 x.props)
  halves : RdS w 4 vh x.halves.length (cellsOf .u32 x.halves)
theorem VRd.keep {w w' : World} {vp vh : Value} {x : Vtx} (h : VRd w vp vh x) (m : Mod (fun _ => False) w w') : VRd w' vp vh x := ⟨h.fits, h.props.keep m, h.halves.keep m⟩
def vtxV (x : Vtx) (vp vh : Value) : Value := .agg #[.int .u32 (x.id : Int), .bool x.there, vp, vh]
end Go.Proofs.Ytdblilhkojafgaa
