/- What comes in, read: bytes, numbers, rows. -/
import Derived.Test.YtggbohdgcalblaaDoorR12
import Derived.OpenShut
import Derived.Lib.SmallJoins
import Derived.ChangeSlices
namespace Go.Proofs.YtggbohdgcalblaaDoor
set_option linter.unusedVariables false
open Go.ChangeShapes Go.WideShapes Go.ChangeAt Go.RowKit

section
variable {H : Type} {enc : TypeId × Value → H} {W : World} {base : Nat} {v : Value} {d : DataW H} {p : List MemPlace}

theorem slice_row {n : Nat} {y : DataW H × List MemPlace} {u : Value} (h : DataW.trod enc Tryd.prog W 0 (fun _ => true) true n 23 [u] = some y) : ∃ a len cap zs, u = .slice a len cap ∧ IsRow .u8 W a len cap zs := by
  rcases open_ints Tryd.underlying23 Tryd.underlying5 (by kernel_rfl) h with ⟨hcs, _⟩ | ⟨x, l, c, zs, hcs, _, hl, hm, hz, _, hcell, hwz⟩
  · simp at hcs
    exact ⟨none, 0, 0, [], hcs, .inl ⟨rfl, rfl, rfl, rfl⟩⟩
  · simp at hcs
    exact ⟨some x, l, c, zs, hcs, .inr ⟨_, rfl, hl, hm, by simpa using hz, hcell, hwz⟩⟩

def InBytes (W : World) (v : Value) : Prop := ∃ a len cap xs, v = .slice a len cap ∧ RowIn W a len cap xs ∧ xs.length = len
theorem in_bytes (hv : Value.okWide Tryd.prog W .any base 23 v) (h : DataW.Trod enc Tryd.prog W 0 (fun _ => true) true 23 v d p) : InBytes W v := by
  obtain ⟨a0, len0, cap0, rfl⟩ := okWide_slice Tryd.underlying23 hv
  obtain ⟨fuel, hf⟩ := h
  obtain ⟨a, len, cap, zs, e, hr⟩ := slice_row (u := .slice a0 len0 cap0) (by simpa [Value.cells] using hf)
  obtain ⟨xs, hx, ha, hc, hn⟩ := hr.arg
  exact ⟨a, len, cap, xs, e, ⟨ha, hc, hn⟩, hx⟩

def InRow (W : World) (v : Value) : Prop := ∃ N a l c M xs, v = .agg #[.int .i64 N, .slice a l c, .int .u64 ((M : Nat) : Int)] ∧ (-9223372036854775808 ≤ N ∧ N < 9223372036854775808) ∧ M < 18446744073709551616 ∧ RowIn W a l c xs
theorem in_row (hv : Value.okWide Tryd.prog W .any base 31 v) (h : DataW.Trod enc Tryd.prog W 0 (fun _ => true) true 31 v d p) : InRow W v := by
  obtain ⟨v0, v1, v2, y0, y1, y2, n, rfl, _, _, t0, t1, t2⟩ := Joins.open_agg3 Tryd.underlying31 (by kernel_rfl) (by kernel_rfl) hv h
  obtain ⟨N, e0, _, h0⟩ := DataW.trod_int Tryd.underlying2 t0
  obtain ⟨a, l, c, zs, rfl, hr⟩ := slice_row t1
  obtain ⟨M, e2, _, h2⟩ := DataW.trod_int Tryd.underlying22 t2
  simp only [List.cons.injEq, and_true] at e0 e2
  subst e0 e2
  have b0 := bounds_i64 h0
  have b2 := bounds_u64 h2
  obtain ⟨m, rfl⟩ := Int.eq_ofNat_of_zero_le b2.1
  obtain ⟨xs, hx, ha, hc, hn⟩ := hr.arg
  exact ⟨N, a, l, c, m, xs, rfl, by omega, by omega, ha, hc, hn⟩
end

theorem rows_all (v0 v1 : Value) (w : World) (h0 : InRow w v0) (h1 : InRow w v1) : Calls Tryd.prog 5 #[v0, v1] w fun e w' => e = .returned (.bool true) ∧ Below w.heap.size w w' := by
  obtain ⟨N1, a1, l1, c1, M1, xs, rfl, hN1, hM1, hx⟩ := h0
  obtain ⟨N2, a2, l2, c2, M2, ys, rfl, hN2, hM2, hy⟩ := h1
  exact (rows_core N1 N2 M1 M2 a1 a2 l1 c1 l2 c2 xs ys w hN1 hN2 hM1 hM2 hx hy).mono fun _ _ ⟨h, m⟩ => ⟨h, m.toBelow (Nat.le_refl _) (fun _ _ f => f)⟩
end Go.Proofs.YtggbohdgcalblaaDoor
