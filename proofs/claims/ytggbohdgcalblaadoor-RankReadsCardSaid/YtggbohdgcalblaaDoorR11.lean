/- The walk of RankRows: the code of a row, and the order of two. -/
import Derived.Test.YtggbohdgcalblaaDoorR10
import Derived.Deep.RegionLaw
import Derived.Deep.DeepCutAuto
namespace Go.Proofs.YtggbohdgcalblaaDoor
set_option linter.unusedVariables false
open Go.RowKit

theorem Bytes.app {w w1 w2 w3 : World} {v v' v3 : Value} {l l' : List Nat} (h : Bytes w w1 v l) (h' : Bytes w1 w2 v' l')
    (hs : Seg w3 5 1 v3 (l.length + l'.length) (bs l ++ bs l')) (hg : w2.grownBy w3 v.ownBlock) (ho : v3.ownBlock = v.ownBlock ∨ v3.ownBlock = some w2.heap.size) : Bytes w w3 v3 (l ++ l') := by
  have h1 := h.mod.size
  have h2 := h'.mod.size
  refine ⟨by rw [List.length_append, bs_append]; exact hs, fun b hb => ?_, (h.mod.trans h'.mod).grown hg (fun b hb hlt => ?_)⟩
  · rcases ho with e | e
    · exact h.own b (e ▸ hb)
    · rw [e] at hb; injection hb with hb; omega
  · have := h.own b hb; omega
theorem Bytes.from {w0 w w1 : World} {v : Value} {l : List Nat} (h : Bytes w w1 v l) (m : Mod (fun _ => False) w0 w) : Bytes w0 w1 v l :=
  ⟨h.seg, fun b hb => Nat.le_trans m.size (h.own b hb), m.trans h.mod⟩

/-- The code of a row. -/
def codeR (N : Int) (S : List Nat) (M : Nat) : List Nat := codeI N ++ codeT S ++ codeU M
def ltR (N1 : Int) (S1 : List Nat) (M1 : Nat) (N2 : Int) (S2 : List Nat) (M2 : Nat) : Bool := if N1 = N2 then (if S1 = S2 then decide (M1 < M2) else ltB S1 S2) else decide (N1 < N2)
theorem codeR_order {N1 N2 : Int} {M1 M2 : Nat} (h1 : -9223372036854775808 ≤ N1 ∧ N1 < 9223372036854775808) (h2 : -9223372036854775808 ≤ N2 ∧ N2 < 9223372036854775808) (m1 : M1 < 18446744073709551616) (m2 : M2 < 18446744073709551616) (S1 S2 : List Nat) :
    ltB (codeR N1 S1 M1) (codeR N2 S2 M2) = ltR N1 S1 M1 N2 S2 M2 := by
  unfold codeR ltR
  rw [List.append_assoc, List.append_assoc, codeI_order h1 h2, codeT_order, ltB_codeU m1 m2]
theorem codeI_len (N : Int) (h : -9223372036854775808 ≤ N ∧ N < 9223372036854775808) : (codeI N).length ≤ 9 := by
  unfold codeI
  split
  · have := sizeN_le (n := N.toNat) (by omega); simp [be_length]; omega
  · have := sizeN_le (n := (-1 - N).toNat) (by omega); simp [be_length]; omega
theorem codeU_len (n : Nat) (h : n < 18446744073709551616) : (codeU n).length ≤ 9 := by
  have := sizeN_le h; simp [codeU, be_length]; omega
theorem codeT_len (l : List Nat) : (codeT l).length ≤ 2 * l.length + 2 := by
  have := List.count_le_length (a := 0) (l := l)
  simp [codeT, esc_length]; omega

structure RowMid (w : World) (o : Array Value) (l : List Nat) (v : Value) (wx : World) : Prop where
  bytes : Bytes w wx v l
  box : wx.heap[w.heap.size]? = some (.cells o 31 (0, 0))
theorem RowMid.mk' {w w1 w2 w3 : World} {v v' v3 : Value} {l l' : List Nat} {o : Array Value} (H : Hid (Bytes (w.alloc (.cells o 31)) w1 v l)) (H' : Hid (Bytes w1 w2 v' l'))
    (hs : Seg w3 5 1 v3 (l.length + l'.length) (bs l ++ bs l')) (hg : w2.grownBy w3 v.ownBlock) (ho : v3.ownBlock = v.ownBlock ∨ v3.ownBlock = some w2.heap.size) : RowMid w o (l ++ l') v3 w3 := by
  have hb := H.out.app H'.out hs hg ho
  refine ⟨hb.from ((Mod.refl _ _).alloc _), ?_⟩
  exact hb.mod.heap (heap_alloc_new' w _) (fun f => f)

theorem Mod.undrew {S : Nat → Prop} {w w1 : World} (h : Mod S w.drew w1) : Mod S w w1 := ⟨h.os, h.tape, h.output, h.size, h.block⟩
theorem Bytes.undrew {w w1 : World} {v : Value} {l : List Nat} (h : Bytes w.drew w1 v l) : Bytes w w1 v l := ⟨h.seg, h.own, h.mod.undrew⟩
theorem row_cell {w w1 : World} {v : Value} {l : List Nat} {o : Array Value} (H : Hid (Bytes (w.alloc (.cells o 31)) w1 v l)) (j : Nat) : w1.cell? ⟨w.heap.size, j, none⟩ = o[j]? :=
  cell_of_row (H.out.mod.heap (heap_alloc_new' w _) (fun f => f)) j
theorem row_mod {w w1 : World} {v : Value} {l : List Nat} {o : Obj} (H : Hid (Bytes (w.alloc o) w1 v l)) : Mod (fun _ => False) w w1 := ((Mod.refl _ _).alloc _).trans H.out.mod
theorem row_seg {w w1 w2 : World} {v v' : Value} {l l' : List Nat} (H : Hid (Bytes w w1 v l)) (H' : Hid (Bytes w1 w2 v' l')) : Seg w2 5 1 v l.length (bs l) := (H.out.fwd H'.out.mod).seg
set_option maxRecDepth 100000 in
set_option maxHeartbeats 4000000 in
theorem row_any (N : Int) (hN : -9223372036854775808 ≤ N ∧ N < 9223372036854775808) (v : Value) (S : List Nat) (M : Nat) (hM : M < 18446744073709551616) (w : World) (ha : Arg w v S) (hS : S.length ≤ 500) :
    Calls Tryd.prog 15 #[.agg #[.int .i64 N, v, .int .u64 M]] w (GivesBytes w (codeR N S M)) := by
  obtain ⟨a, n, c, rfl, hnl⟩ := ha.lits
  have HIN := Lib.hid (int_any N hN)
  have HUM := Lib.hid (uint_all M hM)
  have HTS : Hid (∀ w', Mod (fun _ => False) w w' → Calls Tryd.prog 14 #[.slice a n c] w' (GivesBytes w' (codeT S))) := fun w' m => text_any _ _ _ (ha.mod m (fun _ _ f => f)) (by omega)
  have l1 := codeI_len N hN
  have l2 := codeT_len S
  have l3 := codeU_len M hM
  have l4 : (codeI N).length + (codeT S).length ≤ 1011 := by omega
  have l5 : (codeI N ++ codeT S).length + (codeU M).length ≤ 1020 := by rw [List.length_append]; omega
  obtain ⟨i0, hi, hz0, hz1, hz2⟩ := info_parts infoU8
  have HI : Hid (Tryd.prog.info? 5 = some i0 ∧ i0.zero = some (.int .u8 0) ∧ i0.size = 1 ∧ i0.bytes = 1) := ⟨hi, hz0, hz1, hz2⟩
  have L4 := Lib.hid l4
  have L5 := Lib.hid l5
  clear hi hz0 hz1 hz2 ha hnl hN hM hS l1 l2 l3 l4 l5
  go_enter Tryd.func15, Tryd.ntmps15
  go_upto_region 2 with fail
  go_cut [3] (fun v wx => RowMid w #[.int .i64 N, .slice a n c, .int .u64 M] (codeI N ++ codeT S) v wx)
  case first =>
    go_region_law (first
      | (refine step_append_seg rfl (.tmp 6) (.tmp 9) 23 rfl i0 _ 1 1 Tryd.underlying23 HI.out.1 HI.out.2.1 HI.out.2.2.1 HI.out.2.2.2 rfl (by decide) rfl (row_seg B1 B2) _ _ _ rfl B2.out.seg.src (by have := L4.out; unfold maxLen; omega) (by have := L4.out; omega) ?_; intro v3 w3 hs3 hg3 ho3)
      | (go_simp; go_at_call 10; refine (HIN.out _).mono ?_; rintro e w1 ⟨v1, rfl, hB⟩; have B1 : Hid (Bytes (w.alloc (.cells #[.int .i64 N, .slice a n c, .int .u64 M] 31)) w1 v1 (codeI N)) := (by show Bytes _ _ _ _; first | exact hB | exact hB.undrew | exact hB.undrew.undrew); clear hB; have hcell : w1.cell? ⟨w.heap.size, 1, none⟩ = some (.slice a n c) := row_cell B1 1)
      | (go_simp; go_at_call 14; refine (HTS.out _ (by first | exact row_mod (by assumption) | exact (row_mod (by assumption)).drew)).mono ?_; rintro e w2 ⟨v2, rfl, hB⟩; have B2 := Lib.hid hB; clear hB))
    all_goals
      go_wp2
      go_meet
      exact RowMid.mk' B1 B2 hs3 hg3 ho3
  case rest =>
    have hc2 := cell_of_row hcut.box 2
    simp at hc2
    have HM := Lib.hid hcut
    clear hcut
    go_wp2_with fail
    refine (HUM.out _).mono ?_
    rintro e w2 ⟨v2, rfl, hB⟩
    have HB := Lib.hid hB
    clear hB hc2
    go_wp2_with (at_builtin; refine wpList_append_seg rfl (.tmp 11) (.tmp 14) 23 rfl i0 _ 1 1 Tryd.underlying23 HI.out.1 HI.out.2.1 HI.out.2.2.1 HI.out.2.2.2 rfl (by decide) rfl (HM.out.bytes.fwd HB.out.mod).seg _ _ _ rfl HB.out.seg.src (by have := L5.out; unfold maxLen; omega) (by have := L5.out; omega) ?_; intro v3 w3 hs3 hg3 ho3)
    have HF : Hid (GivesBytes w (codeR N S M) (.returned v3) w3) := ⟨v3, rfl, HM.out.bytes.app HB.out hs3 hg3 ho3⟩
    clear hs3 hg3 ho3
    go_wp2
    go_ret
    exact HF.out
end Go.Proofs.YtggbohdgcalblaaDoor
