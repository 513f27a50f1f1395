/- Lemmas for the claim, in one text: HJ, YLaid. -/
import Derived.Test.YtnkmfgklmfmfeaaGreatDoorHI
import Derived.Test.YtnkmfgklmfmfeaaGreatDoorM32
import Derived.Test.YtnkmfgklmfmfeaaGreatDoorM13
import Derived.Test.YtnkmfgklmfmfeaaGreatDoorM15
import Derived.Test.YtnkmfgklmfmfeaaGreatDoorRows
import Derived.LaidLaws
import Derived.LaidHandle
import Derived.Handed
import Derived.RowKit

/- HJ: what is needed of it (by shake.py). -/

/- HJ, as far as the seat goes. -/
/- RepairFinds for every argument. -/
namespace Go.Proofs.YtnkmfgklmfmfeaaGreatDoor
set_option linter.unusedVariables false
set_option linter.unusedSimpArgs false
open Go.RowKit Go.Maps
/-- A flag that comes in. -/
def InBool (W : World) (v : Value) : Prop := ∃ b : Bool, v = .bool b
section
open Go.ChangeShapes Go.WideShapes Go.ChangeAt
variable {H : Type} {enc : TypeId × Value → H} {W : World} {base : Nat} {v : Value} {d : DataW H} {p : List MemPlace}
set_option maxRecDepth 100000 in
theorem in_bool (hv : Value.okWide Tryz.prog W .any base 4 v) (h : DataW.Trod enc Tryz.prog W 0 (fun _ => true) true 4 v d p) : InBool W v := okWide_bool Tryz.underlying4 hv
end
theorem finds_all (v0 v1 v2 : Value) (w : World) (hg : ErrT w) (h0 : InReqs w v0) (h1 : InU8 w v1) (h2 : InBool w v2) : Calls Tryz.prog 4 #[v0, v1, v2] w fun e w' => e = .returned (.bool true) ∧ Below w.heap.size w w' := by
  obtain ⟨l, h⟩ := h0
  obtain ⟨k, rfl, hk⟩ := h1
  obtain ⟨b, rfl⟩ := h2
  exact Calls.mono (R := fun e w' => e = .returned (.bool true) ∧ Mod (fun _ => False) w w') (finds_main v0 l k hk b w h hg) (fun _ _ ⟨h, m⟩ => ⟨h, m.toBelow (Nat.le_refl _) (fun _ _ f => f)⟩)
end Go.Proofs.YtnkmfgklmfmfeaaGreatDoor

/- YLaid: what is needed of it (by shake.py). -/

/- YLaid, as far as the seat goes. -/
/- What a row that lists errors.errorType gives a walk; a world that meets it. After the kit's worked Toyas row. -/
namespace Go.Proofs.YtnkmfgklmfmfeaaGreatDoor
open Go.RowKit
theorem laid_et : Tryz.prog.globalNamed "errors.errorType" = some 0 := by kernel_rfl
theorem laid_rt : (Tryz.prog.cutTypes.find? (·.1 == "internal/reflectlite.rtype")).map (·.2) = some 183 := by kernel_rfl
theorem laid_row : ((List.range Tryz.prog.types.size).filter fun t => Tryz.prog.rowNamed t [101, 114, 114, 111, 114]) = [103] := by kernel_rfl
theorem errT_of_laid {W : World} (h : laidMetH Tryz.prog [("errors.errorType", Rows.laid_errors_errorType)] W) : ErrT W := by
  have h' : laidMet Tryz.prog [] W ∧ handlesMet Tryz.prog [("errors.errorType", Rows.laid_errors_errorType)] W := h
  obtain ⟨name, u, ty, e1, e2, e3, e4, e5⟩ := h'.2 _ (List.mem_singleton.2 rfl)
  have en : name = [101, 114, 114, 111, 114] := (Option.some.inj e1).symm
  subst en
  obtain rfl := Option.some.inj (laid_rt.symm.trans e2)
  have hm : ty ∈ (List.range Tryz.prog.types.size).filter fun t => Tryz.prog.rowNamed t [101, 114, 114, 111, 114] := List.mem_filter.2 ⟨List.mem_range.2 e3, e4⟩
  rw [laid_row] at hm
  obtain rfl := List.mem_singleton.1 hm
  have hh : typeHandle Tryz.prog 103 = .pointer (some ⟨1, 103, none⟩) := by kernel_rfl
  rw [hh] at e5
  have h0 := World.var?_cell laid_et e5 0
  unfold ErrT
  simpa using h0
/-- A world that meets the condition. -/
noncomputable def laidWorld (os : Os) : World :=
  let w0 := World.holding Tryz.prog os ⟨#[], #[], []⟩
  { w0 with heap := w0.heap.modify 0 fun
      | .cells _ t frozen => .cells #[.iface 183 (.agg #[.pointer (some ⟨1, 103, none⟩)])] t frozen
      | o => o }
end Go.Proofs.YtnkmfgklmfmfeaaGreatDoor
