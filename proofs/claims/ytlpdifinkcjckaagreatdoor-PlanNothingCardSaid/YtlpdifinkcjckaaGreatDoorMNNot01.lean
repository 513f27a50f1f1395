import Derived.Test.YtlpdifinkcjckaaGreatDoorMNNot00
set_option linter.unusedVariables false
set_option linter.unusedSimpArgs false
namespace Go.Proofs.YtlpdifinkcjckaaGreatDoor
open Go.RowKit Go.ChangeShapes Go.WideShapes Go.ChangeAt
theorem pnothing_all (v0 v1 v2 : Value) (w : World) (hg : ErrT w) (h0 : InVs w v0) (h1 : InOps w v1) (h2 : InBytes w v2) : Calls Tryz.prog 7 #[v0, v1, v2] w fun e w' => e = .returned (.bool true) ∧ Below w.heap.size w w' := by
 obtain ⟨la, a1, a2⟩ := h0
 obtain ⟨lb, b1, b2⟩ := h1
 obtain ⟨lc, c1, c2⟩ := h2
 exact Calls.mono (R := fun e w' => e = .returned (.bool true) ∧ Mod (fun _ => False) w w') (pnothing_main v0 v1 v2 la lb lc w a1 a2 b1 b2 c1 c2 hg) (fun _ _ ⟨h, m⟩ => ⟨h, m.toBelow (Nat.le_refl _) (fun _ _ f => f)⟩)
end Go.Proofs.YtlpdifinkcjckaaGreatDoor
