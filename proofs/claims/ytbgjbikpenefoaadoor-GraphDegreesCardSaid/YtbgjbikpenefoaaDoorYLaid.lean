/- YLaid: what is needed of it (by shake.py). -/
import Derived.Test.YtbgjbikpenefoaaDoorY5
import Derived.Test.YtbgjbikpenefoaaDoorRows
import Derived.LaidLaws
import Derived.LaidHandle
import Derived.Handed
import Derived.RowKit

/- YLaid, as far as the seat goes. -/
/- What a row that lists errors.errorType gives a walk; a world that meets it. After the kit's worked Toyas row. -/
namespace Go.Proofs.YtbgjbikpenefoaaDoor
open Go.RowKit
theorem laid_et : Tryd.prog.globalNamed "errors.errorType" = some 0 := by kernel_rfl
theorem laid_rt : (Tryd.prog.cutTypes.find? (·.1 == "internal/reflectlite.rtype")).map (·.2) = some 132 := by kernel_rfl
theorem laid_row : ((List.range Tryd.prog.types.size).filter fun t => Tryd.prog.rowNamed t [101, 114, 114, 111, 114]) = [63] := by kernel_rfl
theorem errT_of_laid {W : World} (h : laidMetH Tryd.prog [("errors.errorType", Rows.laid_errors_errorType)] W) : ErrT W := by
  have h' : laidMet Tryd.prog [] W ∧ handlesMet Tryd.prog [("errors.errorType", Rows.laid_errors_errorType)] W := h
  obtain ⟨name, u, ty, e1, e2, e3, e4, e5⟩ := h'.2 _ (List.mem_singleton.2 rfl)
  have en : name = [101, 114, 114, 111, 114] := (Option.some.inj e1).symm
  subst en
  obtain rfl := Option.some.inj (laid_rt.symm.trans e2)
  have hm : ty ∈ (List.range Tryd.prog.types.size).filter fun t => Tryd.prog.rowNamed t [101, 114, 114, 111, 114] := List.mem_filter.2 ⟨List.mem_range.2 e3, e4⟩
  rw [laid_row] at hm
  obtain rfl := List.mem_singleton.1 hm
  have hh : typeHandle Tryd.prog 63 = .pointer (some ⟨1, 63, none⟩) := by kernel_rfl
  rw [hh] at e5
  have h0 := World.var?_cell laid_et e5 0
  unfold ErrT
  simpa using h0
/-- A world that meets the condition. -/
noncomputable def laidWorld (os : Os) : World :=
  let w0 := World.holding Tryd.prog os ⟨#[], #[], []⟩
  { w0 with heap := w0.heap.modify 0 fun
      | .cells _ t frozen => .cells #[.iface 132 (.agg #[.pointer (some ⟨1, 63, none⟩)])] t frozen
      | o => o }
end Go.Proofs.YtbgjbikpenefoaaDoor
