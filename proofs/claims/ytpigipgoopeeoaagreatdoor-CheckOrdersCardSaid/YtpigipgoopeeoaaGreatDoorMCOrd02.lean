import Derived.Test.YtpigipgoopeeoaaGreatDoorMCOrd01
set_option linter.unusedVariables false
set_option linter.unusedSimpArgs false
namespace Go.Proofs.YtpigipgoopeeoaaGreatDoor
open Go.RowKit Go.ChangeShapes Go.WideShapes Go.ChangeAt
def InReply (W : World) (v : Value) : Prop := ∃ x : Cm, v = .agg x.c13.toArray ∧ x.Rd W ∧ x.Small
section
variable {H : Type} {enc : TypeId × Value → H} {W : World} {base : Nat} {v : Value} {d : DataW H} {p : List MemPlace}
set_option maxRecDepth 100000 in
theorem in_replyv (hv : Value.okWide Tryz.prog W .any base 44 v) (h : DataW.Trod enc Tryz.prog W 0 (fun _ => true) true 44 v d p) (hs : okW 44 d) : InReply W v := by
 obtain ⟨cs, rfl, hl⟩ := okWide_struct Tryz.underlying44 hv
 obtain ⟨fuel, hf⟩ := h
 have hc : Tryz.prog.cellsOf 44 = 13 := by kernel_rfl
 obtain ⟨s, e, g⟩ := in_reply fuel cs.toList (d, p) (by have := hl; simp only [hc] at this; simpa using this) (by simpa [Value.cells] using hf) hs
 refine ⟨s, ?_, g.1, g.2⟩
 have : cs = s.c13.toArray := by rw [← e]
 rw [this]
end
theorem corders_all (v0 v1 : Value) (w : World) (hg : ErrT w) (h0 : InReply w v0) (h1 : InReply w v1) : Calls Tryz.prog 7 #[v0, v1] w fun e w' => e = .returned (.bool true) ∧ Below w.heap.size w w' := by
 obtain ⟨x, rfl, a1, a2⟩ := h0
 obtain ⟨y, rfl, b1, b2⟩ := h1
 exact Calls.mono (R := fun e w' => e = .returned (.bool true) ∧ Mod (fun _ => False) w w') (corders_main x y w a1 b1 a2 b2 hg) (fun _ _ ⟨h, m⟩ => ⟨h, m.toBelow (Nat.le_refl _) (fun _ _ f => f)⟩)
end Go.Proofs.YtpigipgoopeeoaaGreatDoor
