/- R16: what is needed of it (by shake.py). -/
import Derived.Test.YtbgjbikpenefoaaGreatDoorKA
import Derived.Test.YtbgjbikpenefoaaGreatDoorM20
import Derived.Test.YtbgjbikpenefoaaGreatDoorK6b
import Derived.Test.YtbgjbikpenefoaaGreatDoorKB
import Derived.Test.YtbgjbikpenefoaaGreatDoorRE

/- R16, as far as the seat goes. -/
/- gussetref03.one, of any operation in form. -/
namespace Go.Proofs.YtbgjbikpenefoaaGreatDoor
set_option linter.unusedVariables false
set_option linter.unusedSimpArgs false
open Go.RowKit
theorem one_any (g : Nat) (v : Value) (l : List Vs) (o : Opr) (w : World) (hg : GrAt w g v l) (ht : Tame l) (hf : o.Fits) (ho : opOK o = true) :
    Calls Tryz.prog 42 #[.pointer (some ⟨g, 0, none⟩), o.v] w (OneP g l o w) := by
  obtain ⟨hk, -, hab, -, -⟩ := opOK_parts ho
  obtain ⟨kind, a, b, key, vk, vn, vs⟩ := o
  simp only at hk
  cases ha : findV (l.map Vs.x) a with
  | none =>
    by_cases h1 : kind = 1
    · subst h1; exact one_1 g v l a b key vk vn vs w hg ht hf
    · exact one_none g v l kind a b key vk vn vs w hg ht hf h1 ha
  | some x =>
    have hks : kind = 1 ∨ kind = 2 ∨ kind = 3 ∨ kind = 4 ∨ kind = 5 ∨ kind = 6 ∨ kind = 7 ∨ kind = 8 ∨ kind = 9 := by omega
    rcases hks with rfl | rfl | rfl | rfl | rfl | rfl | rfl | rfl | rfl
    · exact one_1 g v l a b key vk vn vs w hg ht hf
    · exact one_2 g v l a b key vk vn vs w hg ht hf x ha
    · exact one_3 g v l a b key vk vn vs w hg ht hf x ha
    · exact one_4 g v l a b key vk vn vs w hg ht hf x ha
    · cases hb : findV (l.map Vs.x) b with
      | none => exact one_5none g v l a b key vk vn vs w hg ht hf x ha hb
      | some u => exact one_5 g v l a b key vk vn vs w hg ht hf x ha u hb
    · cases hb : findV (l.map Vs.x) b with
      | none => exact one_6a g v l a b key vk vn vs w hg ht hf x ha hb
      | some u => exact one_6b g v l a b key vk vn vs w hg ht hf x ha u hb (Lib.hid (fun e => (hab (by simp [Opr.two])).2 e.symm))
    · exact one_7 g v l a b key vk vn vs w hg ht hf x ha
    · exact one_8 g v l a b key vk vn vs w hg ht hf x ha
    · exact one_9 g v l a b key vk vn vs w hg ht hf x ha
end Go.Proofs.YtbgjbikpenefoaaGreatDoor
