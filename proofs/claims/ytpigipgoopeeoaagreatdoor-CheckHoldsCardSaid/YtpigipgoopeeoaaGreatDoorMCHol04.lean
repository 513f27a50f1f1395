import Derived.Test.YtpigipgoopeeoaaGreatDoorMCHol03
set_option linter.unusedVariables false
set_option linter.unusedSimpArgs false
namespace Go.Proofs.YtpigipgoopeeoaaGreatDoor
open Go.RowKit Go.ChangeShapes Go.WideShapes Go.ChangeAt
theorem cholds_all (v0 v1 v2 : Value) (w : World) (hg : ErrT w) (h0 : InReqs w v0) (h1 : InBytes w v1) (h2 : InU8 w v2) : Calls Tryz.prog 3 #[v0, v1, v2] w fun e w' => e = .returned (.bool true) ∧ Below w.heap.size w w' := by
 obtain ⟨qs, a1⟩ := h0
 obtain ⟨ws, b1, b2⟩ := h1
 obtain ⟨kb, rfl, hkb⟩ := h2
 exact Calls.mono (R := fun e w' => e = .returned (.bool true) ∧ Mod (fun _ => False) w w') (cholds_main v0 v1 qs ws kb hkb w a1 b1 b2 hg) (fun _ _ ⟨h, m⟩ => ⟨h, m.toBelow (Nat.le_refl _) (fun _ _ f => f)⟩)
end Go.Proofs.YtpigipgoopeeoaaGreatDoor
