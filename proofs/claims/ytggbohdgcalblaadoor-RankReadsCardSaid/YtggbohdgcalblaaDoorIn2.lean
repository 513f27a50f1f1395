/- What comes in, read: numbers, bytes; the walk of RankWrites. -/
import Derived.Test.YtggbohdgcalblaaDoorR17
namespace Go.Proofs.YtggbohdgcalblaaDoor
set_option linter.unusedVariables false
open Go.ChangeShapes Go.WideShapes Go.ChangeAt Go.RowKit

theorem Arg.byte {w : World} {v : Value} {xs : List Nat} (h : Arg w v xs) : ∀ b ∈ xs, b < 256 := by
  rcases h with ⟨_, rfl⟩ | ⟨_, _, _, _, rfl⟩ | ⟨_, _, _, _, _, _, hr⟩
  · intro b hb; simp at hb
  · intro b hb; simp at hb
  · exact hr.byte
section
variable {H : Type} {enc : TypeId × Value → H} {W : World} {base : Nat} {v : Value} {d : DataW H} {p : List MemPlace}
def InU64 (W : World) (v : Value) : Prop := ∃ n : Nat, v = .int .u64 (n : Int) ∧ n < 18446744073709551616
theorem in_u64 (hv : Value.okWide Tryd.prog W .any base 22 v) (h : DataW.Trod enc Tryd.prog W 0 (fun _ => true) true 22 v d p) : InU64 W v := by
  obtain ⟨a, rfl, _, _, hw⟩ := open_int Tryd.underlying22 hv h
  have b := bounds_u64 hw
  obtain ⟨m, rfl⟩ := Int.eq_ofNat_of_zero_le b.1
  exact ⟨m, rfl, by omega⟩
def InI64 (W : World) (v : Value) : Prop := ∃ n : Int, v = .int .i64 n ∧ -9223372036854775808 ≤ n ∧ n < 9223372036854775808
theorem in_i64 (hv : Value.okWide Tryd.prog W .any base 2 v) (h : DataW.Trod enc Tryd.prog W 0 (fun _ => true) true 2 v d p) : InI64 W v := by
  obtain ⟨a, rfl, _, _, hw⟩ := open_int Tryd.underlying2 hv h
  have b := bounds_i64 hw
  exact ⟨a, rfl, by omega⟩
theorem in_int (hv : Value.okWide Tryd.prog W .any base 3 v) (h : DataW.Trod enc Tryd.prog W 0 (fun _ => true) true 3 v d p) : InI64 W v := by
  obtain ⟨a, rfl, _, _, hw⟩ := open_int Tryd.underlying3 hv h
  have b := bounds_i64 hw
  exact ⟨a, rfl, by omega⟩
end
theorem writes_all (v0 v1 v2 v3 : Value) (w : World) (h0 : InU64 w v0) (h1 : InI64 w v1) (h2 : InBytes w v2) (h3 : InBytes w v3) : Calls Tryd.prog 6 #[v0, v1, v2, v3] w fun e w' => e = .returned (.bool true) ∧ Below w.heap.size w w' := by
  obtain ⟨n, rfl, hn⟩ := h0
  obtain ⟨m, rfl, hm⟩ := h1
  obtain ⟨a1, l1, c1, xs, rfl, hx, -⟩ := h2
  obtain ⟨a2, l2, c2, ys, rfl, hy, -⟩ := h3
  exact (writes_core n m a1 a2 l1 c1 l2 c2 xs ys w hn hm hx hy hx.arg.byte hy.arg.byte).mono fun _ _ ⟨h, m⟩ => ⟨h, m.toBelow (Nat.le_refl _) (fun _ _ f => f)⟩
end Go.Proofs.YtggbohdgcalblaaDoor
