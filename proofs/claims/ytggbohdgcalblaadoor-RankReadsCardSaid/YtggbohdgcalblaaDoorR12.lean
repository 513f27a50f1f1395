/- The walk of RankRows. -/
import Derived.Test.YtggbohdgcalblaaDoorR11
namespace Go.Proofs.YtggbohdgcalblaaDoor
set_option linter.unusedVariables false
open Go.RowKit

structure RowsAt (w : World) (o1 o2 : Array Value) (wx : World) : Prop where
  mod : Mod (fun _ => False) w wx
  r1 : wx.heap[w.heap.size]? = some (.cells o1 31 (0, 0))
  r2 : wx.heap[w.heap.size + 1]? = some (.cells o2 31 (0, 0))
theorem RowsAt.begin (w : World) (o1 o2 : Array Value) : RowsAt w o1 o2 ((w.alloc (.cells o1 31)).alloc (.cells o2 31)) :=
  ⟨((Mod.refl _ _).alloc _).alloc _, heap_alloc_old (heap_alloc_new' w _), by
    have h := heap_alloc_new' (w.alloc (.cells o1 31)) (.cells o2 31)
    simpa using h⟩
theorem RowsAt.more {w wx wy : World} {o1 o2 : Array Value} (h : RowsAt w o1 o2 wx) (m : Mod (fun _ => False) wx wy) : RowsAt w o1 o2 wy :=
  ⟨h.mod.trans m, m.heap h.r1 (fun f => f), m.heap h.r2 (fun f => f)⟩
theorem RowsAt.drew {w wx : World} {o1 o2 : Array Value} (h : RowsAt w o1 o2 wx) : RowsAt w o1 o2 wx.drew := h.more (Mod.refl _ _).drew
theorem RowsAt.store1 {w wx : World} {o1 o2 : Array Value} (h : RowsAt w o1 o2 wx) (j : Nat) (u : Value) : RowsAt w (o1.setIfInBounds j u) o2 (wx.setCell ⟨w.heap.size, j, none⟩ u) :=
  ⟨h.mod.setCell (fun hlt => absurd hlt (by simp)) u, row_setCell h.r1 j u, (heap_setCell_other _ _ _ _ (by simp)).trans h.r2⟩
theorem RowsAt.store2 {w wx : World} {o1 o2 : Array Value} (h : RowsAt w o1 o2 wx) (j : Nat) (u : Value) : RowsAt w o1 (o2.setIfInBounds j u) (wx.setCell ⟨w.heap.size + 1, j, none⟩ u) :=
  ⟨h.mod.setCell (fun hlt => absurd hlt (by simp)) u, (heap_setCell_other _ _ _ _ (by simp)).trans h.r1, row_setCell h.r2 j u⟩
theorem RowsAt.cells {w wx : World} {o1 o2 : Array Value} (h : RowsAt w o1 o2 wx) : ∀ j, wx.cell? ⟨w.heap.size, j, none⟩ = o1[j]? ∧ wx.cell? ⟨w.heap.size + 1, j, none⟩ = o2[j]? ∧ wx.frozen? ⟨w.heap.size, j, none⟩ = false ∧ wx.frozen? ⟨w.heap.size + 1, j, none⟩ = false :=
  fun j => ⟨cell_of_row h.r1 j, cell_of_row h.r2 j, free_of_row h.r1 j, free_of_row h.r2 j⟩

theorem RowsAt.second {w wx : World} {o1 : Array Value} {x y z : Value} (h : RowsAt w o1 #[x, y, z] wx) : wx.cell? ⟨w.heap.size + 1, 0, none⟩ = some x ∧ wx.cell? ⟨w.heap.size + 1, 1, none⟩ = some y ∧ wx.cell? ⟨w.heap.size + 1, 2, none⟩ = some z :=
  ⟨cell_of_row h.r2 0, cell_of_row h.r2 1, cell_of_row h.r2 2⟩
/-- A row that is handed over: its text, cut. -/
structure RowIn (w : World) (a : Option Addr) (l c : Nat) (S : List Nat) : Prop where
  arg : Arg w (.slice a l c) S
  le : l ≤ c
  nil : a = none → c = 0

set_option maxRecDepth 100000 in
set_option maxHeartbeats 4000000 in
theorem rows_core (N1 N2 : Int) (M1 M2 : Nat) (a1 a2 : Option Addr) (l1 c1 l2 c2 : Nat) (xs ys : List Nat) (w : World) (hN1 : -9223372036854775808 ≤ N1 ∧ N1 < 9223372036854775808) (hN2 : -9223372036854775808 ≤ N2 ∧ N2 < 9223372036854775808)
    (hM1 : M1 < 18446744073709551616) (hM2 : M2 < 18446744073709551616) (hx : RowIn w a1 l1 c1 xs) (hy : RowIn w a2 l2 c2 ys) :
    Calls Tryd.prog 5 #[.agg #[.int .i64 N1, .slice a1 l1 c1, .int .u64 M1], .agg #[.int .i64 N2, .slice a2 l2 c2, .int .u64 M2]] w fun e w' => e = .returned (.bool true) ∧ Mod (fun _ => False) w w' := by
  obtain ⟨k1, hk1⟩ : ∃ k : Nat, k = min l1 500 := ⟨_, rfl⟩
  obtain ⟨k2, hk2⟩ : ∃ k : Nat, k = min l2 500 := ⟨_, rfl⟩
  have m1 := hx.le
  have m2 := hy.le
  have z1 := hx.nil
  have z2 := hy.nil
  have B1 := Lib.hid (hx.arg.to (k := k1) (by omega))
  have B2 := Lib.hid (hy.arg.to (k := k2) (by omega))
  have n1 : k1 ≤ c1 := by omega
  have n2 : k2 ≤ c2 := by omega
  have i1 : min (l1 : Int) 500 = (k1 : Int) := by omega
  have i2 : min (l2 : Int) 500 = (k2 : Int) := by omega
  have G1 : Hid (k1 ≤ 500) := Lib.hid (by omega)
  have G2 : Hid (k2 ≤ 500) := Lib.hid (by omega)
  clear hx hy
  generalize hu : xs.take k1 = us at B1
  generalize hv : ys.take k2 = vs at B2
  have D1 : us.length ≤ 500 := by rw [← hu]; simp; have := G1.out; omega
  have D2 : vs.length ≤ 500 := by rw [← hv]; simp; have := G2.out; omega
  clear hu hv
  have T1 : Hid (∀ w' : World, Mod (fun _ => False) w w' → Calls Tryd.prog 15 #[.agg #[.int .i64 N1, .slice a1 k1 c1, .int .u64 M1]] w' (GivesBytes w' (codeR N1 us M1))) := fun w' m => row_any N1 hN1 _ us M1 hM1 w' (B1.out.mod m (fun _ _ f => f)) D1
  have T2 : Hid (∀ w' : World, Mod (fun _ => False) w w' → Calls Tryd.prog 15 #[.agg #[.int .i64 N2, .slice a2 k2 c2, .int .u64 M2]] w' (GivesBytes w' (codeR N2 vs M2))) := fun w' m => row_any N2 hN2 _ vs M2 hM2 w' (B2.out.mod m (fun _ _ f => f)) D2
  have Q1 := Lib.hid B1.out.rd
  have Q2 := Lib.hid B2.out.rd
  have LO := Lib.hid (codeR_order hN1 hN2 hM1 hM2 us vs)
  clear B1 B2 D1 D2 G1 G2 hN1 hN2 hM1 hM2
  obtain ⟨s1, hs1⟩ : ∃ s, s = Value.slice a1 k1 c1 := ⟨_, rfl⟩
  obtain ⟨s2, hs2⟩ : ∃ s, s = Value.slice a2 k2 c2 := ⟨_, rfl⟩
  rw [← hs1] at T1 Q1
  rw [← hs2] at T2 Q2
  have HS1 := Lib.hid hs1
  have HS2 := Lib.hid hs2
  clear hs1 hs2
  cases a1 <;> cases a2
  case' none.none =>
    obtain rfl := z1 rfl
    obtain rfl := z2 rfl
    obtain rfl : l1 = 0 := by omega
    obtain rfl : l2 = 0 := by omega
    obtain rfl : k1 = 0 := by omega
    obtain rfl : k2 = 0 := by omega
    clear i1 i2
  case' none.some =>
    obtain rfl := z1 rfl
    obtain rfl : l1 = 0 := by omega
    obtain rfl : k1 = 0 := by omega
    clear i1
  case' some.none =>
    obtain rfl := z2 rfl
    obtain rfl : l2 = 0 := by omega
    obtain rfl : k2 = 0 := by omega
    clear i2
  all_goals
    clear z1 z2 hk1 hk2 m1 m2
    go_enter Tryd.func5, Tryd.ntmps5
    go_wp2_with fail
    refine (awake_any _).mono ?_
    rintro e w1 ⟨rfl, hm⟩
    have R0 := Lib.hid ((RowsAt.begin w _ _).more hm)
    clear hm
    have e0 := R0.out.cells 0
    have e1 := R0.out.cells 1
    have e2 := R0.out.cells 2
    simp at e0 e1 e2
    obtain ⟨q10, q20, g10, g20⟩ := e0
    obtain ⟨q11, q21, g11, g21⟩ := e1
    obtain ⟨q12, q22, g12, g22⟩ := e2
    have zw := lt_of_block R0.out.r2
    go_upto_region 4 with fail
    go_cut [] (fun wx => RowsAt w #[.int .i64 N1, s1, .int .u64 M1] #[.int .i64 N2, s2, .int .u64 M2] wx)
    case first =>
      go_region
      all_goals
        go_wp2
        go_meet
        rw [HS1.out, HS2.out]
        repeat (first | exact (R0.out.store1 1 _).store2 1 _ | exact (R0.out.store2 1 _).store1 1 _ | apply RowsAt.drew)
    case rest =>
      clear R0 q10 q20 g10 g20 q11 q21 g11 g21 q12 q22 g12 g22 zw HS1 HS2
      have HR := Lib.hid hcut
      have e0 := hcut.cells 0
      have e1 := hcut.cells 1
      have e2 := hcut.cells 2
      simp at e0 e1 e2
      clear hcut
      obtain ⟨q10, q20, -⟩ := e0
      obtain ⟨q11, q21, -⟩ := e1
      obtain ⟨q12, q22, -⟩ := e2
      go_upto_if 33 with fail
      go_cut [5] (fun v wx => v = .bool (ltR N1 us M1 N2 vs M2) ∧ RowsAt w #[.int .i64 N1, s1, .int .u64 M1] #[.int .i64 N2, s2, .int .u64 M2] wx)
      case first =>
        by_cases hN : N1 = N2
        · have hb1 : (N1 != N2) = false := by simp [hN]
          have hb2 : (N1 == N2) = true := by simp [hN]
          have HN := Lib.hid hN
          clear hN
          by_cases hS : us = vs
          · have hb3 : sameB us vs = true := by simp [sameB, hS]
            have HS := Lib.hid hS
            clear hS
            go_wp2_with fail
            refine (same_any _ _ _ _ _ (Q1.out.keep HR.out.mod) (Q2.out.keep HR.out.mod)).mono ?_
            rintro e w3 ⟨rfl, hm⟩
            rw [hb3]
            have HR3 := Lib.hid (HR.out.more hm)
            clear hm HR
            go_wp2
            go_meet
            exact ⟨by unfold ltR; rw [if_pos HN.out, if_pos HS.out], HR3.out⟩
          · have hb3 : sameB us vs = false := by simp [sameB, hS]
            have HS := Lib.hid hS
            clear hS
            go_wp2_with fail
            refine (same_any _ _ _ _ _ (Q1.out.keep HR.out.mod) (Q2.out.keep HR.out.mod)).mono ?_
            rintro e w3 ⟨rfl, hm⟩
            rw [hb3]
            have HR3 := Lib.hid (HR.out.more hm)
            clear hm HR q10 q20 q11 q21 q12 q22
            have e1 := HR3.out.cells 1
            simp at e1
            obtain ⟨q11, q21, -⟩ := e1
            go_wp2_with fail
            refine (less_any _ _ _ _ _ (Q1.out.keep HR3.out.mod) (Q2.out.keep HR3.out.mod)).mono ?_
            rintro e w4 ⟨rfl, hm⟩
            have HR4 := Lib.hid (HR3.out.more hm)
            clear hm HR3
            go_wp2
            go_meet
            exact ⟨by unfold ltR; rw [if_pos HN.out, if_neg HS.out], HR4.out⟩
        · have hb1 : (N1 != N2) = true := by simp [hN]
          have hb2 : (N1 == N2) = false := by simp [hN]
          have HN := Lib.hid hN
          clear hN
          go_wp2
          go_meet
          exact ⟨by unfold ltR; rw [if_neg HN.out], HR.out⟩
      case rest =>
        obtain ⟨rfl, hr⟩ := hcut
        clear HR q10 q20 q11 q21 q12 q22
        have HR := Lib.hid hr
        have e0 := hr.cells 0
        have e1 := hr.cells 1
        have e2 := hr.cells 2
        simp at e0 e1 e2
        clear hr
        obtain ⟨q10, q20, -⟩ := e0
        obtain ⟨q11, q21, -⟩ := e1
        obtain ⟨q12, q22, -⟩ := e2
        go_wp2_with fail
        go_region_law (first
          | (go_simp; go_at_call_of 15 s1; refine (T1.out _ (by first | exact HR.out.mod | exact HR.out.mod.drew)).mono ?_; rintro e w5 ⟨v5, rfl, hB⟩; have B5 : Hid (Bytes wc w5 v5 (codeR N1 us M1)) := (by show Bytes _ _ _ _; first | exact hB | exact hB.undrew); clear hB; have HR5 := Lib.hid (HR.out.more B5.out.mod); obtain ⟨q50, q51, q52⟩ := HR5.out.second)
          | (go_simp; go_at_call_of 15 s2; refine (T2.out _ (by first | exact HR5.out.mod | exact HR5.out.mod.drew)).mono ?_; rintro e w6 ⟨v6, rfl, hB⟩; have B6 : Hid (Bytes w5 w6 v6 (codeR N2 vs M2)) := (by show Bytes _ _ _ _; first | exact hB | exact hB.undrew); clear hB)
          | (go_simp; go_at_call 12; refine (less_any _ _ _ _ _ (B5.out.rd.keep B6.out.mod) B6.out.rd).mono ?_; rintro e w7 ⟨rfl, hm⟩; rw [LO.out]; have M7 := Lib.hid ((HR5.out.mod.trans B6.out.mod).trans hm); clear hm))
        all_goals
          go_wp2
          go_ret
          exact ⟨by cases ltR N1 us M1 N2 vs M2 <;> rfl, by first | exact M7.out | exact M7.out.drew⟩
end Go.Proofs.YtggbohdgcalblaaDoor
