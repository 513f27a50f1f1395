/- A region that draws its order, and whose callees may make memory but turn nothing: one walk, in the order of the text. The class of worlds of Derived/Deep/Quiet: all worlds in which nothing that was there has turned. -/
import Derived.Test.YtdblilhkojafgaaL
import Derived.Deep.QuietTactic
import Derived.BigQuiet
namespace Go.Proofs.Ytdblilhkojafgaa
set_option linter.unusedVariables false
open Go.RowKit

/-- A world in which nothing of W has turned. -/
structure MW (W : World) where
  w : World
  mod : Mod (fun _ => False) W w
instance (W : World) : Nonempty (MW W) := ⟨⟨W, Mod.refl _ W⟩⟩
theorem MW.start (W : World) : ∃ x : MW W, ({ W with drawn := W.drawn + 1 } : World) = x.w := ⟨⟨_, (Mod.refl _ W).drew⟩, rfl⟩
section
variable {P : Program} {W : World}
theorem wp_region_quietM {id : Nat} {Q : Exit → Act → World → Prop} {a : Act} {l : List Oper} (hm : P.follows .mixedOrders = true) (hB : Region.lexB .any l.toArray = true)
    (h : wpQuiet P l.toArray (fun w' => ∃ x : MW W, w' = x.w) (fun a' => ∀ w', (∃ x : MW W, w' = x.w) → Q .normal a' w') l a) : (Code.region id l.toArray true).wp P Q a W :=
  wp_region_quiet (C := fun w' => ∃ x : MW W, w' = x.w) hm hB (MW.start W) (by simpa using h)
theorem MW.mod_of {w' : World} (h : ∃ x : MW W, w' = x.w) : Mod (fun _ => False) W w' := by
  obtain ⟨x, rfl⟩ := h
  exact x.mod
theorem Calls.quietM {f : FuncId} {args : Array Value} {v : Value} {x : MW W} (h : Calls P f args x.w fun e w' => e = .returned v ∧ Mod (fun _ => False) x.w w') : Calls P f args x.w fun e w'' => e = .returned v ∧ ∃ x' : MW W, w'' = x'.w :=
  h.mono fun _ w' ⟨he, hm⟩ => ⟨he, ⟨w', x.mod.trans hm⟩, rfl⟩
theorem Calls.quietS {f : FuncId} {args : Array Value} {v : Value} {x : MW W} (h : Calls P f args x.w fun e w' => e = .returned v ∧ x.w = w') : Calls P f args x.w fun e w'' => e = .returned v ∧ ∃ x' : MW W, w'' = x'.w :=
  h.mono fun _ w' ⟨he, hm⟩ => ⟨he, x, hm.symm⟩
theorem MW.cell (x : MW W) {a : Addr} {v : Value} (h : W.cell? a = some v) : x.w.cell? a = some v :=
  (World.cell?_of_block (w := W) (x.mod.block a.block (World.block_lt_of_cell? _ _ h) (fun f => f))).trans h
end
end Go.Proofs.Ytdblilhkojafgaa
