/- What comes in, with its size; the walk of RankReads. -/
import Derived.Test.YtggbohdgcalblaaDoorR22
namespace Go.Proofs.YtggbohdgcalblaaDoor
set_option linter.unusedVariables false
open Go.ChangeShapes Go.WideShapes Go.ChangeAt Go.RowKit

theorem weights_at {H : Type} {P : Program} {ts : List TypeId} {ds : List (DataW H)} (h : (DataW.weightsEach P ts ds).all (· ≤ reachBytes) = true) {j : Nat} {t : TypeId} {d : DataW H} (ht : ts[j]? = some t) (hd : ds[j]? = some d) : (DataW.weights P t d).all (· ≤ reachBytes) = true :=
  List.all_eq_true.2 fun x hx => List.all_eq_true.1 h x (DataW.weights_mem_each ht hd x hx)
section
variable {H : Type} {enc : TypeId × Value → H} {W : World} {base : Nat} {v : Value} {d : DataW H} {p : List MemPlace}
def InBytesS (W : World) (v : Value) : Prop := ∃ a len cap xs, v = .slice a len cap ∧ RowIn W a len cap xs ∧ xs.length = len ∧ len ≤ 140737488351232
theorem in_bytes_s (hv : Value.okWide Tryd.prog W .any base 23 v) (h : DataW.Trod enc Tryd.prog W 0 (fun _ => true) true 23 v d p) (hs : (DataW.weights Tryd.prog 23 d).all (· ≤ reachBytes) = true) : InBytesS W v := by
  obtain ⟨a, len, cap, xs, rfl, hr, hx⟩ := in_bytes hv h
  refine ⟨a, len, cap, xs, rfl, hr, hx, ?_⟩
  obtain ⟨fuel, hf⟩ := h
  rcases open_ints Tryd.underlying23 Tryd.underlying5 (by kernel_rfl) hf with ⟨hcs, _⟩ | ⟨y, l, c, zs, hcs, _, hl, hm, hz, hd, _⟩
  · simp [Value.cells] at hcs
    omega
  · simp [Value.cells] at hcs
    obtain ⟨_, rfl, rfl⟩ := hcs
    obtain ⟨rfl, rfl⟩ := Prod.mk.inj hd
    have hbytes : Tryd.prog.bytesOf 5 = 1 := by kernel_rfl
    have hu := Tryd.underlying23
    have := List.all_eq_true.1 hs (((lits IntKind.u8 (zs.take len) : List (DataW H)).length + (lits IntKind.u8 (zs.drop len) : List (DataW H)).length) * Tryd.prog.bytesOf 5) (by simp [DataW.weights, hu])
    simp [lits, hbytes, reachBytes] at this
    simp at hz
    omega
end
theorem reads_all (v0 v1 : Value) (w : World) (h0 : InBytesS w v0) (h1 : InI64 w v1) : Calls Tryd.prog 7 #[v0, v1] w fun e w' => e = .returned (.bool true) ∧ Below w.heap.size w w' := by
  obtain ⟨a, l, c, xs, rfl, hr, hx, hl⟩ := h0
  obtain ⟨m, rfl, _⟩ := h1
  exact (reads_core a l c m xs w hr hx (by omega) hr.arg.byte).mono fun _ _ ⟨h, m⟩ => ⟨h, m.toBelow (Nat.le_refl _) (fun _ _ f => f)⟩
end Go.Proofs.YtggbohdgcalblaaDoor
