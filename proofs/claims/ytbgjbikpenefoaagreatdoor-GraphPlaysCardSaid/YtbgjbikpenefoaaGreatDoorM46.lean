/- Lemmas for the claim, in one text: YBF, YBS, YLaid. -/
import Derived.Test.YtbgjbikpenefoaaGreatDoorM40
import Derived.Test.YtbgjbikpenefoaaGreatDoorM43
import Derived.Test.YtbgjbikpenefoaaGreatDoorM37
import Derived.Test.YtbgjbikpenefoaaGreatDoorM16
import Derived.Test.YtbgjbikpenefoaaGreatDoorYBQ
import Derived.Test.YtbgjbikpenefoaaGreatDoorRows
import Derived.LaidLaws
import Derived.LaidHandle
import Derived.Handed
import Derived.RowKit

/- YBF: what is needed of it (by shake.py). -/

/- YBF, as far as the seat goes. -/
/- gussetlaw03.GraphHops, walked. (Printed by gen_ghops.py.) -/
namespace Go.Proofs.YtbgjbikpenefoaaGreatDoor
set_option linter.unusedVariables false
set_option linter.unusedSimpArgs false
open Go.RowKit Go.Maps
/-- A number of 32 bits, of 8 bits, as they come in. -/
def InU32 (W : World) (v : Value) : Prop := ∃ k : Nat, v = .int .u32 (k : Int) ∧ k < 4294967296
section
open Go.ChangeShapes Go.WideShapes Go.ChangeAt
variable {H : Type} {enc : TypeId × Value → H} {W : World} {base : Nat} {v : Value} {d : DataW H} {p : List MemPlace}
set_option maxRecDepth 100000 in
theorem in_u32 (hv : Value.okWide Tryz.prog W .any base 23 v) (h : DataW.Trod enc Tryz.prog W 0 (fun _ => true) true 23 v d p) : InU32 W v := by
  obtain ⟨a, rfl, _, _, hw⟩ := open_int Tryz.underlying23 hv h
  have b := bounds_u32 hw
  obtain ⟨m, rfl⟩ := Int.eq_ofNat_of_zero_le b.1
  exact ⟨m, rfl, by omega⟩
end
end Go.Proofs.YtbgjbikpenefoaaGreatDoor

/- YBS: what is needed of it (by shake.py). -/

/- YBS, as far as the seat goes. -/
/- GraphPlays for every argument. -/
namespace Go.Proofs.YtbgjbikpenefoaaGreatDoor
set_option linter.unusedVariables false
set_option linter.unusedSimpArgs false
open Go.RowKit Go.Maps
theorem gplays_all (v0 v1 : Value) (w : World) (hg : ErrT w) (h0 : InReqs w v0) (h1 : InU32 w v1) : Calls Tryz.prog 4 #[v0, v1] w fun e w' => e = .returned (.bool true) ∧ Below w.heap.size w w' := by
  obtain ⟨l, h⟩ := h0
  obtain ⟨k, rfl, hk⟩ := h1
  exact Calls.mono (R := fun e w' => e = .returned (.bool true) ∧ Mod (fun _ => False) w w') (gplays_main v0 l k hk w h hg) (fun _ _ ⟨h, m⟩ => ⟨h, m.toBelow (Nat.le_refl _) (fun _ _ f => f)⟩)
end Go.Proofs.YtbgjbikpenefoaaGreatDoor

/- YLaid: what is needed of it (by shake.py). -/

/- YLaid, as far as the seat goes. -/
/- What a row that lists errors.errorType gives a walk; a world that meets it. After the kit's worked Toyas row. -/
namespace Go.Proofs.YtbgjbikpenefoaaGreatDoor
open Go.RowKit
theorem laid_et : Tryz.prog.globalNamed "errors.errorType" = some 0 := by kernel_rfl
theorem laid_rt : (Tryz.prog.cutTypes.find? (·.1 == "internal/reflectlite.rtype")).map (·.2) = some 186 := by kernel_rfl
theorem laid_row : ((List.range Tryz.prog.types.size).filter fun t => Tryz.prog.rowNamed t [101, 114, 114, 111, 114]) = [112] := by kernel_rfl
theorem errT_of_laid {W : World} (h : laidMetH Tryz.prog [("errors.errorType", Rows.laid_errors_errorType)] W) : ErrT W := by
  have h' : laidMet Tryz.prog [] W ∧ handlesMet Tryz.prog [("errors.errorType", Rows.laid_errors_errorType)] W := h
  obtain ⟨name, u, ty, e1, e2, e3, e4, e5⟩ := h'.2 _ (List.mem_singleton.2 rfl)
  have en : name = [101, 114, 114, 111, 114] := (Option.some.inj e1).symm
  subst en
  obtain rfl := Option.some.inj (laid_rt.symm.trans e2)
  have hm : ty ∈ (List.range Tryz.prog.types.size).filter fun t => Tryz.prog.rowNamed t [101, 114, 114, 111, 114] := List.mem_filter.2 ⟨List.mem_range.2 e3, e4⟩
  rw [laid_row] at hm
  obtain rfl := List.mem_singleton.1 hm
  have hh : typeHandle Tryz.prog 112 = .pointer (some ⟨1, 112, none⟩) := by kernel_rfl
  rw [hh] at e5
  have h0 := World.var?_cell laid_et e5 0
  unfold ErrT
  simpa using h0
/-- A world that meets the condition. -/
noncomputable def laidWorld (os : Os) : World :=
  let w0 := World.holding Tryz.prog os ⟨#[], #[], []⟩
  { w0 with heap := w0.heap.modify 0 fun
      | .cells _ t frozen => .cells #[.iface 186 (.agg #[.pointer (some ⟨1, 112, none⟩)])] t frozen
      | o => o }
end Go.Proofs.YtbgjbikpenefoaaGreatDoor
