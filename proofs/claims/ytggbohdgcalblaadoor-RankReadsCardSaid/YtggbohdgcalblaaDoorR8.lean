/- The contract of awake. -/
import Derived.Test.YtggbohdgcalblaaDoorR7
namespace Go.Proofs.YtggbohdgcalblaaDoor
set_option linter.unusedVariables false
open Go.RowKit

theorem lit_rd (w : World) (l : List Nat) (hl : l.length ≤ 1000) : Rd (w.alloc (.cells (bs l).toArray 5)) (.slice (some ⟨w.heap.size, 0, none⟩) l.length l.length) l := by
  refine ⟨⟨_, _, rfl, Nat.le_refl _, by omega, fun h => by cases h⟩, by omega, fun a c e i hi => ?_⟩
  injection e with e1 e2 e3
  refine ⟨w.heap.size, 0, e1.symm, by simp, ?_⟩
  rw [cell_of_row (heap_alloc_new' w _)]
  simp [bs, hi]
theorem lit_arg (w : World) (l : List Nat) (hl : l.length ≤ 1000) (hb : ∀ x ∈ l, x < 256) : Arg (w.alloc (.cells (bs l).toArray 5)) (.slice (some ⟨w.heap.size, 0, none⟩) l.length l.length) l := by
  refine .inr (.inr ⟨w.heap.size, 0, l.length, l.length, rfl, by omega, rfl, Nat.le_refl _, by simp, fun i hi => ?_, hb⟩)
  rw [cell_of_row (heap_alloc_new' w _)]
  simp [bs, hi]
theorem lit1 (w : World) : Rd (w.alloc (.cells #[.int .u8 17, .int .u8 5, .int .u8 153] 5)) (.slice (some ⟨w.heap.size, 0, none⟩) 3 3) [17, 5, 153] := lit_rd w [17, 5, 153] (by decide)
theorem lit2 (w : World) : Rd (w.alloc (.cells #[.int .u8 2, .int .u8 1, .int .u8 2] 5)) (.slice (some ⟨w.heap.size, 0, none⟩) 3 3) [2, 1, 2] := lit_rd w [2, 1, 2] (by decide)
theorem lit3 (w : World) : Rd (w.alloc (.cells #[.int .u8 14, .int .u8 250] 5)) (.slice (some ⟨w.heap.size, 0, none⟩) 2 2) [14, 250] := lit_rd w [14, 250] (by decide)
theorem lit4 (w : World) : Arg (w.alloc (.cells #[.int .u8 97, .int .u8 0] 5)) (.slice (some ⟨w.heap.size, 0, none⟩) 2 2) [97, 0] := lit_arg w [97, 0] (by decide) (by decide)
theorem lit5 (w : World) : Rd (w.alloc (.cells #[.int .u8 97, .int .u8 0, .int .u8 255, .int .u8 0, .int .u8 0] 5)) (.slice (some ⟨w.heap.size, 0, none⟩) 5 5) [97, 0, 255, 0, 0] := lit_rd w [97, 0, 255, 0, 0] (by decide)
theorem Bytes.fwd {w w1 w2 : World} {v : Value} {l : List Nat} (h : Bytes w w1 v l) (m : Mod (fun _ => False) w1 w2) : Bytes w w2 v l := ⟨h.seg.mod m (fun _ _ f => f), h.own, h.mod.trans m⟩

theorem awake_any (w : World) : Calls Tryd.prog 11 #[] w fun e w' => e = .returned (.bool true) ∧ Mod (fun _ => False) w w' := by
  have H1 : Hid (∀ w : World, Calls Tryd.prog 23 #[.slice (some ⟨w.heap.size, 0, none⟩) 3 3] (w.alloc (.cells #[.int .u8 17, .int .u8 5, .int .u8 153] 5)) fun e w' => e = .returned (.tuple #[.int .i64 5, .int .i64 2, .int .i64 0]) ∧ Mod (fun _ => False) (w.alloc (.cells #[.int .u8 17, .int .u8 5, .int .u8 153] 5)) w') := fun w =>
    (readI_any _ _ _ (lit1 w) (by decide)).mono fun e w' h => ⟨h.1.trans (by rw [show readI [17, 5, 153] = some (5, 2) by decide]; rfl), h.2⟩
  have H2 : Hid (∀ w : World, Calls Tryd.prog 9 #[.int .u64 258] w (GivesBytes w [2, 1, 2])) := fun w => uint_any 258 (by decide) (by decide) w
  have H3 : Hid (∀ w : World, Calls Tryd.prog 10 #[.int .i64 (-6)] w (GivesBytes w [14, 250])) := fun w => int_neg 5 (by decide) (by decide) w
  have H4 : Hid (∀ w : World, Calls Tryd.prog 14 #[.slice (some ⟨w.heap.size, 0, none⟩) 2 2] (w.alloc (.cells #[.int .u8 97, .int .u8 0] 5)) (GivesBytes (w.alloc (.cells #[.int .u8 97, .int .u8 0] 5)) [97, 0, 255, 0, 0])) := fun w => text_any _ _ _ (lit4 w) (by decide)
  go_enter Tryd.func11, Tryd.ntmps11
  go_wp2_with fail
  refine (H1.out _).mono ?_
  rintro e w1 ⟨rfl, hm1⟩
  have M1 : Hid (Mod (fun _ => False) w w1) := ((Mod.refl _ _).alloc _).trans hm1
  clear hm1
  go_wp2_with fail
  refine (H2.out _).mono ?_
  rintro e w2 ⟨v2, rfl, hB2⟩
  have B2 := Lib.hid hB2
  clear hB2
  go_wp2_with fail
  refine (same_any _ _ _ _ _ ((B2.out.fwd ((Mod.refl _ _).alloc _)).rd) (lit2 _)).mono ?_
  rintro e w3 ⟨rfl, hm3⟩
  rw [show sameB [2, 1, 2] [2, 1, 2] = true by decide]
  have M3 : Hid (Mod (fun _ => False) w w3) := (((M1.out.trans B2.out.mod).alloc _).trans hm3)
  clear hm3 B2
  go_wp2_with fail
  refine (H3.out _).mono ?_
  rintro e w4 ⟨v4, rfl, hB4⟩
  have B4 := Lib.hid hB4
  clear hB4
  go_wp2_with fail
  refine (same_any _ _ _ _ _ ((B4.out.fwd ((Mod.refl _ _).alloc _)).rd) (lit3 _)).mono ?_
  rintro e w5 ⟨rfl, hm5⟩
  rw [show sameB [14, 250] [14, 250] = true by decide]
  have M5 : Hid (Mod (fun _ => False) w w5) := (((M3.out.trans B4.out.mod).alloc _).trans hm5)
  clear hm5 B4
  go_wp2_with fail
  refine (H4.out _).mono ?_
  rintro e w6 ⟨v6, rfl, hB6⟩
  have B6 := Lib.hid hB6
  clear hB6
  go_wp2_with fail
  refine (same_any _ _ _ _ _ ((B6.out.fwd ((Mod.refl _ _).alloc _)).rd) (lit5 _)).mono ?_
  rintro e w7 ⟨rfl, hm7⟩
  rw [show sameB [97, 0, 255, 0, 0] [97, 0, 255, 0, 0] = true by decide]
  have M7 : Hid (Mod (fun _ => False) w w7) := ((((M5.out.alloc _).trans B6.out.mod).alloc _).trans hm7)
  clear hm7 B6
  go_wp2
  go_ret
  exact ⟨rfl, M7.out⟩
end Go.Proofs.YtggbohdgcalblaaDoor
