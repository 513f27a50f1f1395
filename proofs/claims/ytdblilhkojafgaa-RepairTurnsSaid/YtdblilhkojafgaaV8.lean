/- repair.half. -/
import Derived.Test.YtdblilhkojafgaaV7
namespace Go.Proofs.Ytdblilhkojafgaa
set_option linter.unusedVariables false
open Go.RowKit

structure HalfAt (w : World) (o : Array Value) (wx : World) : Prop where
  mod : Mod (fun _ => False) w wx
  box : wx.heap[w.heap.size]? = some (.cells o 31 (0, 0))
  ret : wx.heap[w.heap.size + 2]? = some (.cells #[.int .u8 0, .int .i64 0, zval] 94 (0, 0))
theorem HalfAt.begin (w : World) (o : Array Value) (far : Int) : HalfAt w o (((w.alloc (.cells o 31)).alloc (.cells #[.int .u32 far] 27)).alloc (.cells #[.int .u8 0, .int .i64 0, zval] 94)) :=
  ⟨(((Mod.refl _ _).alloc _).alloc _).alloc _, heap_alloc_old (heap_alloc_old (heap_alloc_new' w _)), by
    have h := heap_alloc_new' ((w.alloc (.cells o 31)).alloc (.cells #[.int .u32 far] 27)) (.cells #[.int .u8 0, .int .i64 0, zval] 94)
    simpa using h⟩
theorem HalfAt.more {w wx wy : World} {o : Array Value} (h : HalfAt w o wx) (m : Mod (fun _ => False) wx wy) : HalfAt w o wy := ⟨h.mod.trans m, m.heap h.box (fun f => f), m.heap h.ret (fun f => f)⟩
theorem far_cell (w : World) (o : Array Value) (far : Int) : (((w.alloc (.cells o 31)).alloc (.cells #[.int .u32 far] 27)).alloc (.cells #[.int .u8 0, .int .i64 0, zval] 94)).cell? ⟨w.heap.size + 1, 0, none⟩ = some (.int .u32 far) := by
  have h := heap_alloc_new' (w.alloc (.cells o 31)) (.cells #[.int .u32 far] 27)
  have h2 : ((w.alloc (.cells o 31)).alloc (.cells #[.int .u32 far] 27)).heap[w.heap.size + 1]? = some (.cells #[.int .u32 far] 27 (0, 0)) := by simpa using h
  have h3 := cell_of_row (heap_alloc_old (o' := .cells #[.int .u8 0, .int .i64 0, zval] 94) h2) 0
  simpa using h3

set_option maxRecDepth 100000 in
set_option maxHeartbeats 1000000 in
theorem half_some (x : Vtx) (vp vh : Value) (far k : Nat) (y : Ent) (w : World) (hx : VRd w vp vh x) (hy : x.halves[k]? = some y) (hk : idxE far x.halves 0 = (k : Int)) :
    Calls Try.prog 63 #[vtxV x vp vh, .int .u32 (far : Int)] w fun e w' => e = .returned (.tuple #[.agg #[.int .u8 (y.val.k : Int), .int .i64 y.val.n, .string y.val.s], .bool true]) ∧ Mod (fun _ => False) w w' := by
  obtain ⟨id, there, ps, hs⟩ := x
  obtain ⟨ah, ch, rfl, hc1, hc2, -⟩ := hx.halves.shape
  have HH := Lib.hid hx.halves
  simp only at hy hk hc1 HH
  show Calls _ _ #[.agg #[.int .u32 (id : Int), .bool there, vp, .slice ah hs.length ch], .int .u32 (far : Int)] w _
  have HI : Hid (∀ wx, Mod (fun _ => False) w wx → wx.cell? ⟨w.heap.size + 1, 0, none⟩ = some (.int .u32 (far : Int)) → Calls Try.prog 75 #[.slice ah hs.length ch, .func (.func 76) #[] #[.pointer (some ⟨w.heap.size + 1, 0, none⟩)]] wx fun e w' => e = .returned (.int .i64 (k : Int)) ∧ Mod (fun _ => False) wx w') := Lib.hid (by
    intro wx m hf
    have := idx_any (.slice ah hs.length ch) hs (w.heap.size + 1) far wx (HH.out.keep m) hf
    rw [hk] at this
    exact this)
  have hkn : k < hs.length := (List.getElem?_eq_some_iff.1 hy).1
  obtain ⟨b, off, rfl, hb, p0, p1, p2, p3⟩ := HH.out.ent hy rfl
  have H0 := Lib.hid (HalfAt.begin w #[.int .u32 (id : Int), .bool there, vp, .slice (some ⟨b, off, none⟩) hs.length ch] (far : Int))
  have HC0 := Lib.hid (far_cell w #[.int .u32 (id : Int), .bool there, vp, .slice (some ⟨b, off, none⟩) hs.length ch] (far : Int))
  obtain ⟨key, vk, vn, vs⟩ := y
  simp only at p0 p1 p2 p3
  obtain ⟨n, hn⟩ : ∃ n, n = hs.length := ⟨_, rfl⟩
  rw [← hn] at hkn hc1 HI H0 HC0 ⊢
  have P1 := Lib.hid p1
  have P2 := Lib.hid p2
  have P3 := Lib.hid p3
  clear hx hy hk hn p0 p1 p2 p3 HH
  go_enter Try.func63, Try.ntmps63
  go_wp2_with fail
  refine (HI.out _ H0.out.mod HC0.out).mono ?_
  rintro e w3 ⟨rfl, hm⟩
  have H3 := Lib.hid (H0.out.more hm)
  have b3 := cell_of_row H3.out.box 3
  have r0 := cell_of_row H3.out.ret 0
  have r1 := cell_of_row H3.out.ret 1
  have r2 := cell_of_row H3.out.ret 2
  have f0 := free_of_row H3.out.ret 0
  have f1 := free_of_row H3.out.ret 1
  have f2 := free_of_row H3.out.ret 2
  simp at b3 r0 r1 r2
  have p1 := H3.out.mod.cell P1.out
  have p2 := H3.out.mod.cell P2.out
  have p3 := H3.out.mod.cell P3.out
  have p2' : w3.cell? ⟨b, off + k * 4 + 1 + 1, none⟩ = some (.int .i64 vn) := p2
  have p3' : w3.cell? ⟨b, off + k * 4 + 1 + 2, none⟩ = some (.string vs) := p3
  clear hm
  have hk0 : ¬ ((k : Int) < 0) := by omega
  go_wp2
  go_outline
  have hb3 := H3.out.mod
  refine bodyPost_ret (v := .tuple #[.agg #[.int .u8 (vk : Int), .int .i64 vn, .string vs], .bool true]) (by simp [results, Try.results63, go_sem, r0, r1, r2]) rfl ⟨rfl, ?_⟩
  have hlt : ¬ (w.heap.size + 1 + 1 < w.heap.size) := by omega
  exact ((hb3.setCell (fun h => absurd h hlt) _).setCell (fun h => absurd h hlt) _).setCell (fun h => absurd h hlt) _

set_option maxRecDepth 100000 in
set_option maxHeartbeats 1000000 in
theorem half_none (x : Vtx) (vp vh : Value) (far : Nat) (w : World) (hx : VRd w vp vh x) (hk : idxE far x.halves 0 = -1) :
    Calls Try.prog 63 #[vtxV x vp vh, .int .u32 (far : Int)] w fun e w' => e = .returned (.tuple #[.agg #[.int .u8 0, .int .i64 0, zval], .bool false]) ∧ Mod (fun _ => False) w w' := by
  obtain ⟨id, there, ps, hs⟩ := x
  obtain ⟨ah, ch, rfl, hc1, hc2, -⟩ := hx.halves.shape
  have HH := Lib.hid hx.halves
  simp only at hk hc1 HH
  show Calls _ _ #[.agg #[.int .u32 (id : Int), .bool there, vp, .slice ah hs.length ch], .int .u32 (far : Int)] w _
  have HI : Hid (∀ wx, Mod (fun _ => False) w wx → wx.cell? ⟨w.heap.size + 1, 0, none⟩ = some (.int .u32 (far : Int)) → Calls Try.prog 75 #[.slice ah hs.length ch, .func (.func 76) #[] #[.pointer (some ⟨w.heap.size + 1, 0, none⟩)]] wx fun e w' => e = .returned (.int .i64 (-1)) ∧ Mod (fun _ => False) wx w') := Lib.hid (by
    intro wx m hf
    have := idx_any (.slice ah hs.length ch) hs (w.heap.size + 1) far wx (HH.out.keep m) hf
    rw [hk] at this
    exact this)
  have H0 := Lib.hid (HalfAt.begin w #[.int .u32 (id : Int), .bool there, vp, .slice ah hs.length ch] (far : Int))
  have HC0 := Lib.hid (far_cell w #[.int .u32 (id : Int), .bool there, vp, .slice ah hs.length ch] (far : Int))
  obtain ⟨n, hn⟩ : ∃ n, n = hs.length := ⟨_, rfl⟩
  rw [← hn] at hc1 HI H0 HC0 ⊢
  clear hx hk hn HH
  go_enter Try.func63, Try.ntmps63
  go_wp2_with fail
  refine (HI.out _ H0.out.mod HC0.out).mono ?_
  rintro e w3 ⟨rfl, hm⟩
  have H3 := Lib.hid (H0.out.more hm)
  have b3 := cell_of_row H3.out.box 3
  have r0 := cell_of_row H3.out.ret 0
  have r1 := cell_of_row H3.out.ret 1
  have r2 := cell_of_row H3.out.ret 2
  have f0 := free_of_row H3.out.ret 0
  have f1 := free_of_row H3.out.ret 1
  have f2 := free_of_row H3.out.ret 2
  simp at b3 r0 r1 r2
  clear hm
  go_wp2
  refine bodyPost_ret (v := .tuple #[.agg #[.int .u8 0, .int .i64 0, zval], .bool false]) (by simp [results, Try.results63, go_sem, zval, r0, r1, r2]) rfl ⟨rfl, ?_⟩
  have hlt : ¬ (w.heap.size + 1 + 1 < w.heap.size) := by omega
  exact ((H3.out.mod.setCell (fun h => absurd h hlt) _).setCell (fun h => absurd h hlt) _).setCell (fun h => absurd h hlt) _
end Go.Proofs.Ytdblilhkojafgaa
