/- gussetlaw23.vertex: a vertex with halves. -/
import Derived.Test.YtdblilhkojafgaaV17
namespace Go.Proofs.Ytdblilhkojafgaa
set_option linter.unusedVariables false
open Go.RowKit

def farE (f : Nat) : Ent := ⟨f, ⟨0, 0, ⟨#[]⟩⟩⟩
/-- One element, just laid. -/
theorem src_cells {w : World} {n0 size : Nat} (hn : w.heap.size = n0) (t : TypeId) (cs : Array Value) (hs : cs.size = size) (h1 : ∀ u ∈ cs.toList, u.oneCell' = true) : Src (w.alloc (.cells cs t)) size (.slice (some ⟨n0, 0, none⟩) 1 1) 1 cs.toList := by
  subst hn
  exact Src.one (size := size) w cs t 1 1 (by omega) h1
structure VxAt (w : World) (id : Nat) (vh : Value) (es : List Ent) (wx : World) : Prop where
  mod : Mod (fun _ => False) w wx
  ret : wx.heap[w.heap.size]? = some (.cells #[.int .u32 0, .bool false, .slice none 0 0, .slice none 0 0] 31 (0, 0))
  box : wx.heap[w.heap.size + 1]? = some (.cells #[.int .u32 (id : Int), .bool true, .slice none 0 0, vh] 31 (0, 0))
  seg : Seg wx 96 4 vh es.length (cellsOf .u32 es)
  own : ∀ b, vh.ownBlock = some b → w.heap.size + 2 ≤ b
theorem VxAt.begin (w : World) (id : Nat) : VxAt w id (.slice none 0 0) [] ((w.alloc (.cells #[.int .u32 0, .bool false, .slice none 0 0, .slice none 0 0] 31)).alloc (.cells #[.int .u32 (id : Int), .bool true, .slice none 0 0, .slice none 0 0] 31)) :=
  ⟨((Mod.refl _ _).alloc _).alloc _, heap_alloc_old (heap_alloc_new' w _), by
    have h := heap_alloc_new' (w.alloc (.cells #[.int .u32 0, .bool false, .slice none 0 0, .slice none 0 0] 31)) (.cells #[.int .u32 (id : Int), .bool true, .slice none 0 0, .slice none 0 0] 31)
    simpa using h, Seg.nil _ _ _, fun b hb => by simp [Value.ownBlock] at hb⟩
theorem VxAt.more {w wx wy : World} {id : Nat} {vh : Value} {es : List Ent} (h : VxAt w id vh es wx) (m : Mod (fun _ => False) wx wy) : VxAt w id vh es wy :=
  ⟨h.mod.trans m, m.heap h.ret (fun f => f), m.heap h.box (fun f => f), h.seg.mod m (fun _ _ f => f), h.own⟩
theorem cellsOf_snoc (k : IntKind) (l : List Ent) (x : Ent) : cellsOf k (l ++ [x]) = cellsOf k l ++ x.cells k := by simp [cellsOf]
theorem VxAt.app {w wx wy : World} {id : Nat} {vh v' : Value} {es : List Ent} (x : Ent) (h : VxAt w id vh es wx) (hs : Seg wy 96 4 v' (es.length + 1) (cellsOf .u32 es ++ x.cells .u32)) (hg : wx.grownBy wy vh.ownBlock)
    (ho : v'.ownBlock = vh.ownBlock ∨ v'.ownBlock = some wx.heap.size) : VxAt w id v' (es ++ [x]) (wy.setCell ⟨w.heap.size + 1, 3, none⟩ v') ∧ wy.heap[w.heap.size + 1]? = some (.cells #[.int .u32 (id : Int), .bool true, .slice none 0 0, vh] 31 (0, 0)) := by
  have hb : wy.heap[w.heap.size + 1]? = some (.cells #[.int .u32 (id : Int), .bool true, .slice none 0 0, vh] 31 (0, 0)) := (hg.block _ (lt_of_block h.box) (fun e => by have := h.own _ e.symm; omega)).trans h.box
  have hr : wy.heap[w.heap.size]? = some (.cells #[.int .u32 0, .bool false, .slice none 0 0, .slice none 0 0] 31 (0, 0)) := (hg.block _ (lt_of_block h.ret) (fun e => by have := h.own _ e.symm; omega)).trans h.ret
  have hown : ∀ b, v'.ownBlock = some b → w.heap.size + 2 ≤ b := fun b hb' => by
    rcases ho with ho | ho
    · exact h.own b (by rw [← ho]; exact hb')
    · rw [ho] at hb'
      injection hb' with hb'
      have := lt_of_block h.box
      omega
  refine ⟨⟨?_, ?_, ?_, ?_, hown⟩, hb⟩
  · exact (h.mod.grown hg (fun b hb' hlt => by have := h.own b hb'; omega)).setCell (fun hlt => absurd hlt (by simp)) _
  · rw [heap_setCell_other _ _ _ _ (by simp)]; exact hr
  · simpa using row_setCell hb 3 v'
  · rw [cellsOf_snoc, List.length_append]
    exact hs.mod (S := fun k => k = w.heap.size + 1) ((Mod.refl (fun k => k = w.heap.size + 1) wy).setCell (fun _ => rfl) _) (fun b hb' e => by have := hown b hb'; omega)

set_option maxRecDepth 100000 in
set_option maxHeartbeats 1000000 in
theorem vertex_any (id : Nat) (v : Value) (fs : List Nat) (w : World) (hid : id < 4294967296) (hf : ∀ f ∈ fs, f < 4294967296) (hv : RdS w 1 v fs.length (fs.map fun f : Nat => .int .u32 (f : Int))) (hn : fs.length ≤ 1000) :
    Calls Try.prog 31 #[.int .u32 (id : Int), v] w fun e w' => ∃ vh, e = .returned (.agg #[.int .u32 (id : Int), .bool true, .slice none 0 0, vh]) ∧ Mod (fun _ => False) w w' ∧ VNew w w' (.slice none 0 0) vh ⟨id, true, [], fs.map farE⟩ := by
  have HV := Lib.hid hv
  have HID := Lib.hid hid
  have HFF := Lib.hid hf
  obtain ⟨a, c, rfl, hc1, hc2, -⟩ := hv.shape
  clear hv hid hf
  obtain ⟨n, hl⟩ : ∃ n, n = fs.length := ⟨_, rfl⟩
  have HN := Lib.hid hl
  rw [← hl] at HV hc1 hn ⊢
  clear hl
  obtain ⟨i0, hi, hz0, hz1, hz2⟩ := info_parts infoHalf
  have HI : Hid (Try.prog.info? 96 = some i0 ∧ i0.zero = some (.agg #[.int .u32 0, .int .u8 0, .int .i64 0, zval]) ∧ i0.size = 4 ∧ i0.bytes = 40) := ⟨hi, hz0, hz1, hz2⟩
  clear hi hz0 hz1 hz2
  go_enter Try.func31, Try.ntmps31
  go_wp2
  go_loopw [12] (fun i wr => ∃ k vh, i = .int .i64 (k : Nat) ∧ k ≤ n ∧ VxAt w id vh ((fs.take k).map farE) wr) (fun i _ => n - (intOf i).toNat)
  case atStart => exact ⟨0, _, rfl, Nat.zero_le _, VxAt.begin w id⟩
  case round =>
    obtain ⟨k, vh, rfl, hk, hm⟩ := hrel
    have HM := Lib.hid hm
    clear hm
    obtain ⟨av, cv, nv, hvv⟩ : ∃ ao co no, vh = .slice ao no co := by
      obtain ⟨a, c, e, _⟩ := HM.out.seg.shape
      exact ⟨_, _, _, e⟩
    subst hvv
    have e0 := cell_of_row HM.out.box 0
    have e1 := cell_of_row HM.out.box 1
    have e2 := cell_of_row HM.out.box 2
    have e3 := cell_of_row HM.out.box 3
    simp at e0 e1 e2 e3
    have zb := lt_of_block HM.out.box
    by_cases hkn : k < n
    · obtain ⟨f, hf⟩ : ∃ f, fs[k]? = some f := ⟨_, List.getElem?_eq_getElem (by rw [← HN.out]; exact hkn)⟩
      obtain ⟨b, off, rfl, hb, p0⟩ := RdS.one HV.out (i := k) (x := .int .u32 (f : Int)) (by simp [hf]) rfl
      have p0 := HM.out.mod.cell p0
      have HT : Hid ((fs.take (k + 1)).map farE = (fs.take k).map farE ++ [farE f]) := Lib.hid (by
        obtain ⟨h1, h2⟩ := List.getElem?_eq_some_iff.1 hf
        rw [List.take_succ_eq_append_getElem h1, h2]; simp)
      have HJ := Lib.hid (HM.out.more ((Mod.refl (fun _ => False) wr).alloc (.cells #[.int .u32 (f : Int), .int .u8 0, .int .i64 0, zval] 96)))
      have HS := Lib.hid (src_cells (w := wr) (size := 4) rfl 96 #[.int .u32 (f : Int), .int .u8 0, .int .i64 0, zval] rfl (by simp [Value.oneCell', zval]))
      have HL : Hid (((fs.take k).map farE).length + 1 ≤ 1001) := Lib.hid (by simp; omega)
      simp only [zval] at HJ HS
      clear hf
      go_wp2_with (at_builtin; refine wpList_append_seg rfl (.tmp 17) (.tmp 20) 29 rfl i0 _ 4 40 Try.underlying29 HI.out.1 HI.out.2.1 HI.out.2.2.1 HI.out.2.2.2 rfl (by decide) rfl HJ.out.seg _ 1 _ rfl HS.out (by have := HL.out; unfold maxLen; omega) (by have := HL.out; omega) ?_; intro v3 w3 hs3 hg3 ho3; (obtain ⟨h3, hb3⟩ := HJ.out.app (farE f) hs3 hg3 ho3); have H3 := Lib.hid h3; have b0 := cell_of_row hb3 0; have b3 := cell_of_row hb3 3; have f3 := free_of_row hb3 3; simp at b0 b3; (obtain ⟨a3, c3, n3, rfl⟩ : ∃ a c n, v3 = .slice a n c := (by obtain ⟨a, c, e, _⟩ := hs3.shape; exact ⟨_, _, _, e⟩)); clear hs3 hg3 ho3 h3 hb3)
      go_roundw
      case rel => exact ⟨k + 1, _, by go_num, by omega, by rw [HT.out]; exact H3.out⟩
      case measure => simp [intOf]; omega
    · have HT : Hid ((fs.take k).map farE = fs.map farE) := Lib.hid (by rw [List.take_of_length_le (by have := HN.out; omega)])
      rw [HT.out] at HM
      have r0 := cell_of_row HM.out.ret 0
      have r1 := cell_of_row HM.out.ret 1
      have r2 := cell_of_row HM.out.ret 2
      have r3 := cell_of_row HM.out.ret 3
      have f0 := free_of_row HM.out.ret 0
      have f1 := free_of_row HM.out.ret 1
      have f2 := free_of_row HM.out.ret 2
      have f3 := free_of_row HM.out.ret 3
      simp at r0 r1 r2 r3
      have zr := lt_of_block HM.out.ret
      have HFIN : Hid (∀ u0 u1 u2 u3 : Value, Mod (fun _ => False) w ((((wr.setCell ⟨w.heap.size, 0, none⟩ u0).setCell ⟨w.heap.size, 1, none⟩ u1).setCell ⟨w.heap.size, 2, none⟩ u2).setCell ⟨w.heap.size, 3, none⟩ u3) ∧ VNew w ((((wr.setCell ⟨w.heap.size, 0, none⟩ u0).setCell ⟨w.heap.size, 1, none⟩ u1).setCell ⟨w.heap.size, 2, none⟩ u2).setCell ⟨w.heap.size, 3, none⟩ u3) (.slice none 0 0) (.slice av nv cv) ⟨id, true, [], fs.map farE⟩) := Lib.hid (by
        intro u0 u1 u2 u3
        have m4 : Mod (fun k => k = w.heap.size) wr ((((wr.setCell ⟨w.heap.size, 0, none⟩ u0).setCell ⟨w.heap.size, 1, none⟩ u1).setCell ⟨w.heap.size, 2, none⟩ u2).setCell ⟨w.heap.size, 3, none⟩ u3) :=
          ((((Mod.refl (fun k => k = w.heap.size) wr).setCell (fun _ => rfl) u0).setCell (fun _ => rfl) u1).setCell (fun _ => rfl) u2).setCell (fun _ => rfl) u3
        refine ⟨HM.out.mod.trans' m4 (fun i hi e => by omega), ⟨HID.out, by simp, ?_⟩, Seg.nil _ _ _, HM.out.seg.mod m4 (fun b hb e => by have := HM.out.own b hb; omega), fun b hb => by simp [Value.ownBlock] at hb, fun b hb => by have := HM.out.own b hb; omega⟩
        intro p hp
        simp only [List.mem_map] at hp
        obtain ⟨f, hf, rfl⟩ := hp
        exact ⟨HFF.out f hf, (show (0 : Nat) < 256 by omega), (show (-9223372036854775808 : Int) ≤ 0 ∧ (0 : Int) < 9223372036854775808 by omega), Nat.zero_le _⟩)
      go_wp2
      exact bodyPost_ret (v := .agg #[.int .u32 (id : Int), .bool true, .slice none 0 0, .slice av nv cv]) (by simp [results, Try.results31, go_sem, r0, r1, r2, r3]) rfl ⟨_, rfl, (HFIN.out _ _ _ _).1, (HFIN.out _ _ _ _).2⟩
end Go.Proofs.Ytdblilhkojafgaa
