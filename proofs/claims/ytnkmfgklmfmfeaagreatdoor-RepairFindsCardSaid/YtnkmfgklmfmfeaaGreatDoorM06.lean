/- Lemmas for the claim, in one text: VF, VG. -/
import Derived.Test.YtnkmfgklmfmfeaaGreatDoorVE

/- VF: what is needed of it (by shake.py). -/

/- VF, as far as the seat goes. -/
/- V18, V19, V20 in one. -/
/- gussetlaw23.vertex: a vertex with halves. -/
namespace Go.Proofs.YtnkmfgklmfmfeaaGreatDoor
set_option linter.unusedVariables false
open Go.RowKit
def farE (f : Nat) : Ent := ⟨f, ⟨0, 0, ⟨#[]⟩⟩⟩
/-- One element, just laid. -/
theorem src_cells {w : World} {n0 size : Nat} (hn : w.heap.size = n0) (t : TypeId) (cs : Array Value) (hs : cs.size = size) (h1 : ∀ u ∈ cs.toList, u.oneCell' = true) : Src (w.alloc (.cells cs t)) size (.slice (some ⟨n0, 0, none⟩) 1 1) 1 cs.toList := by
  subst hn
  exact Src.one (size := size) w cs t 1 1 (by omega) h1
structure VxAt (w : World) (id : Nat) (vh : Value) (es : List Ent) (wx : World) : Prop where
  mod : Mod (fun _ => False) w wx
  ret : wx.heap[w.heap.size]? = some (.cells #[.int .u32 0, .bool false, .slice none 0 0, .slice none 0 0] 44 (0, 0))
  box : wx.heap[w.heap.size + 1]? = some (.cells #[.int .u32 (id : Int), .bool true, .slice none 0 0, vh] 44 (0, 0))
  seg : Seg wx 57 4 vh es.length (cellsOf .u32 es)
  own : ∀ b, vh.ownBlock = some b → w.heap.size + 2 ≤ b
theorem VxAt.begin (w : World) (id : Nat) : VxAt w id (.slice none 0 0) [] ((w.alloc (.cells #[.int .u32 0, .bool false, .slice none 0 0, .slice none 0 0] 44)).alloc (.cells #[.int .u32 (id : Int), .bool true, .slice none 0 0, .slice none 0 0] 44)) :=
  ⟨((Mod.refl _ _).alloc _).alloc _, heap_alloc_old (heap_alloc_new' w _), by
    have h := heap_alloc_new' (w.alloc (.cells #[.int .u32 0, .bool false, .slice none 0 0, .slice none 0 0] 44)) (.cells #[.int .u32 (id : Int), .bool true, .slice none 0 0, .slice none 0 0] 44)
    simpa using h, Seg.nil _ _ _, fun b hb => by simp [Value.ownBlock] at hb⟩
theorem VxAt.more {w wx wy : World} {id : Nat} {vh : Value} {es : List Ent} (h : VxAt w id vh es wx) (m : Mod (fun _ => False) wx wy) : VxAt w id vh es wy :=
  ⟨h.mod.trans m, m.heap h.ret (fun f => f), m.heap h.box (fun f => f), h.seg.mod m (fun _ _ f => f), h.own⟩
theorem cellsOf_snoc (k : IntKind) (l : List Ent) (x : Ent) : cellsOf k (l ++ [x]) = cellsOf k l ++ x.cells k := by simp [cellsOf]
theorem VxAt.app {w wx wy : World} {id : Nat} {vh v' : Value} {es : List Ent} (x : Ent) (h : VxAt w id vh es wx) (hs : Seg wy 57 4 v' (es.length + 1) (cellsOf .u32 es ++ x.cells .u32)) (hg : wx.grownBy wy vh.ownBlock)
    (ho : v'.ownBlock = vh.ownBlock ∨ v'.ownBlock = some wx.heap.size) : VxAt w id v' (es ++ [x]) (wy.setCell ⟨w.heap.size + 1, 3, none⟩ v') ∧ wy.heap[w.heap.size + 1]? = some (.cells #[.int .u32 (id : Int), .bool true, .slice none 0 0, vh] 44 (0, 0)) := by
  have hb : wy.heap[w.heap.size + 1]? = some (.cells #[.int .u32 (id : Int), .bool true, .slice none 0 0, vh] 44 (0, 0)) := (hg.block _ (lt_of_block h.box) (fun e => by have := h.own _ e.symm; omega)).trans h.box
  have hr : wy.heap[w.heap.size]? = some (.cells #[.int .u32 0, .bool false, .slice none 0 0, .slice none 0 0] 44 (0, 0)) := (hg.block _ (lt_of_block h.ret) (fun e => by have := h.own _ e.symm; omega)).trans h.ret
  have hown : ∀ b, v'.ownBlock = some b → w.heap.size + 2 ≤ b := fun b hb' => by
    rcases ho with ho | ho
    · exact h.own b (by rw [← ho]; exact hb')
    · rw [ho] at hb'
      injection hb' with hb'
      have := lt_of_block h.box
      omega
  refine ⟨⟨?_, ?_, ?_, ?_, hown⟩, hb⟩
  · exact (h.mod.grown hg (fun b hb' hlt => by have := h.own b hb'; omega)).setCell (fun hlt => absurd hlt (by simp)) _
  · rw [heap_setCell_other _ _ _ _ (by simp)]; exact hr
  · simpa using row_setCell hb 3 v'
  · rw [cellsOf_snoc, List.length_append]
    exact hs.mod (S := fun k => k = w.heap.size + 1) ((Mod.refl (fun k => k = w.heap.size + 1) wy).setCell (fun _ => rfl) _) (fun b hb' e => by have := hown b hb'; omega)
set_option maxRecDepth 100000 in
set_option maxHeartbeats 1000000 in
theorem vertex_any (id : Nat) (v : Value) (fs : List Nat) (w : World) (hid : id < 4294967296) (hf : ∀ f ∈ fs, f < 4294967296) (hv : RdS w 1 v fs.length (fs.map fun f : Nat => .int .u32 (f : Int))) (hn : fs.length ≤ 1000) :
    Calls Tryz.prog 15 #[.int .u32 (id : Int), v] w fun e w' => ∃ vh, e = .returned (.agg #[.int .u32 (id : Int), .bool true, .slice none 0 0, vh]) ∧ Mod (fun _ => False) w w' ∧ VNew w w' (.slice none 0 0) vh ⟨id, true, [], fs.map farE⟩ := by
  have HV := Lib.hid hv
  have HID := Lib.hid hid
  have HFF := Lib.hid hf
  obtain ⟨a, c, rfl, hc1, hc2, -⟩ := hv.shape
  clear hv hid hf
  obtain ⟨n, hl⟩ : ∃ n, n = fs.length := ⟨_, rfl⟩
  have HN := Lib.hid hl
  rw [← hl] at HV hc1 hn ⊢
  clear hl
  obtain ⟨i0, hi, hz0, hz1, hz2⟩ := info_parts infoHalf
  have HI : Hid (Tryz.prog.info? 57 = some i0 ∧ i0.zero = some (.agg #[.int .u32 0, .int .u8 0, .int .i64 0, zval]) ∧ i0.size = 4 ∧ i0.bytes = 40) := ⟨hi, hz0, hz1, hz2⟩
  clear hi hz0 hz1 hz2
  go_enter Tryz.func15, Tryz.ntmps15
  go_wp2
  go_loopw [12] (fun i wr => ∃ k vh, i = .int .i64 (k : Nat) ∧ k ≤ n ∧ VxAt w id vh ((fs.take k).map farE) wr) (fun i _ => n - (intOf i).toNat)
  case atStart => exact ⟨0, _, rfl, Nat.zero_le _, VxAt.begin w id⟩
  case round =>
    obtain ⟨k, vh, rfl, hk, hm⟩ := hrel
    have HM := Lib.hid hm
    clear hm
    obtain ⟨av, cv, nv, hvv⟩ : ∃ ao co no, vh = .slice ao no co := by
      obtain ⟨a, c, e, _⟩ := HM.out.seg.shape
      exact ⟨_, _, _, e⟩
    subst hvv
    have e0 := cell_of_row HM.out.box 0
    have e1 := cell_of_row HM.out.box 1
    have e2 := cell_of_row HM.out.box 2
    have e3 := cell_of_row HM.out.box 3
    simp at e0 e1 e2 e3
    have zb := lt_of_block HM.out.box
    by_cases hkn : k < n
    · obtain ⟨f, hf⟩ : ∃ f, fs[k]? = some f := ⟨_, List.getElem?_eq_getElem (by rw [← HN.out]; exact hkn)⟩
      obtain ⟨b, off, rfl, hb, p0⟩ := RdS.one HV.out (i := k) (x := .int .u32 (f : Int)) (by simp [hf]) rfl
      have p0 := HM.out.mod.cell p0
      have HT : Hid ((fs.take (k + 1)).map farE = (fs.take k).map farE ++ [farE f]) := Lib.hid (by
        obtain ⟨h1, h2⟩ := List.getElem?_eq_some_iff.1 hf
        rw [List.take_succ_eq_append_getElem h1, h2]; simp)
      have HJ := Lib.hid (HM.out.more ((Mod.refl (fun _ => False) wr).alloc (.cells #[.int .u32 (f : Int), .int .u8 0, .int .i64 0, zval] 57)))
      have HS := Lib.hid (src_cells (w := wr) (size := 4) rfl 57 #[.int .u32 (f : Int), .int .u8 0, .int .i64 0, zval] rfl (by simp [Value.oneCell', zval]))
      have HL : Hid (((fs.take k).map farE).length + 1 ≤ 1001) := Lib.hid (by simp; omega)
      simp only [zval] at HJ HS
      clear hf
      go_wp2_with (at_builtin; refine wpList_append_seg rfl (.tmp 17) (.tmp 20) 42 rfl i0 _ 4 40 Tryz.underlying42 HI.out.1 HI.out.2.1 HI.out.2.2.1 HI.out.2.2.2 rfl (by decide) rfl HJ.out.seg _ 1 _ rfl HS.out (by have := HL.out; unfold maxLen; omega) (by have := HL.out; omega) ?_; intro v3 w3 hs3 hg3 ho3; (obtain ⟨h3, hb3⟩ := HJ.out.app (farE f) hs3 hg3 ho3); have H3 := Lib.hid h3; have b0 := cell_of_row hb3 0; have b3 := cell_of_row hb3 3; have f3 := free_of_row hb3 3; simp at b0 b3; (obtain ⟨a3, c3, n3, rfl⟩ : ∃ a c n, v3 = .slice a n c := (by obtain ⟨a, c, e, _⟩ := hs3.shape; exact ⟨_, _, _, e⟩)); clear hs3 hg3 ho3 h3 hb3)
      go_roundw
      case rel => exact ⟨k + 1, _, by go_num, by omega, by rw [HT.out]; exact H3.out⟩
      case measure => simp [intOf]; omega
    · have HT : Hid ((fs.take k).map farE = fs.map farE) := Lib.hid (by rw [List.take_of_length_le (by have := HN.out; omega)])
      rw [HT.out] at HM
      have r0 := cell_of_row HM.out.ret 0
      have r1 := cell_of_row HM.out.ret 1
      have r2 := cell_of_row HM.out.ret 2
      have r3 := cell_of_row HM.out.ret 3
      have f0 := free_of_row HM.out.ret 0
      have f1 := free_of_row HM.out.ret 1
      have f2 := free_of_row HM.out.ret 2
      have f3 := free_of_row HM.out.ret 3
      simp at r0 r1 r2 r3
      have zr := lt_of_block HM.out.ret
      have HFIN : Hid (∀ u0 u1 u2 u3 : Value, Mod (fun _ => False) w ((((wr.setCell ⟨w.heap.size, 0, none⟩ u0).setCell ⟨w.heap.size, 1, none⟩ u1).setCell ⟨w.heap.size, 2, none⟩ u2).setCell ⟨w.heap.size, 3, none⟩ u3) ∧ VNew w ((((wr.setCell ⟨w.heap.size, 0, none⟩ u0).setCell ⟨w.heap.size, 1, none⟩ u1).setCell ⟨w.heap.size, 2, none⟩ u2).setCell ⟨w.heap.size, 3, none⟩ u3) (.slice none 0 0) (.slice av nv cv) ⟨id, true, [], fs.map farE⟩) := Lib.hid (by
        intro u0 u1 u2 u3
        have m4 : Mod (fun k => k = w.heap.size) wr ((((wr.setCell ⟨w.heap.size, 0, none⟩ u0).setCell ⟨w.heap.size, 1, none⟩ u1).setCell ⟨w.heap.size, 2, none⟩ u2).setCell ⟨w.heap.size, 3, none⟩ u3) :=
          ((((Mod.refl (fun k => k = w.heap.size) wr).setCell (fun _ => rfl) u0).setCell (fun _ => rfl) u1).setCell (fun _ => rfl) u2).setCell (fun _ => rfl) u3
        refine ⟨HM.out.mod.trans' m4 (fun i hi e => by omega), ⟨HID.out, by simp, ?_⟩, Seg.nil _ _ _, HM.out.seg.mod m4 (fun b hb e => by have := HM.out.own b hb; omega), fun b hb => by simp [Value.ownBlock] at hb, fun b hb => by have := HM.out.own b hb; omega⟩
        intro p hp
        simp only [List.mem_map] at hp
        obtain ⟨f, hf, rfl⟩ := hp
        exact ⟨HFF.out f hf, (show (0 : Nat) < 256 by omega), (show (-9223372036854775808 : Int) ≤ 0 ∧ (0 : Int) < 9223372036854775808 by omega), Nat.zero_le _⟩)
      go_wp2
      exact bodyPost_ret (v := .agg #[.int .u32 (id : Int), .bool true, .slice none 0 0, .slice av nv cv]) (by simp [results, Tryz.results15, go_sem, r0, r1, r2, r3]) rfl ⟨_, rfl, (HFIN.out _ _ _ _).1, (HFIN.out _ _ _ _).2⟩
end Go.Proofs.YtnkmfgklmfmfeaaGreatDoor
/- gussetlaw23.reports, gussetref23.Same. -/
namespace Go.Proofs.YtnkmfgklmfmfeaaGreatDoor
set_option linter.unusedVariables false
open Go.RowKit
theorem rep_ent {w : World} {v : Value} {l : List Rep} {n : Nat} (h : RdS w 4 v n (rcells l)) {i : Nat} {x : Rep} (hi : l[i]? = some x) {a : Option Addr} {m c : Nat} (e : v = .slice a m c) :
    ∃ b off, a = some ⟨b, off, none⟩ ∧ b < w.heap.size ∧ w.cell? ⟨b, off + i * 4, none⟩ = some (.int .u8 (x.kind : Int)) ∧ w.cell? ⟨b, off + i * 4 + 1, none⟩ = some (.int .i64 (x.node : Int)) ∧ w.cell? ⟨b, off + i * 4 + 2, none⟩ = some (.int .u32 (x.id : Int)) ∧ w.cell? ⟨b, off + i * 4 + 3, none⟩ = some (.int .u32 (x.far : Int)) := by
  have g := fun j hj => rcells_get l i j x hi hj
  obtain ⟨a', c', e', -⟩ := h.shape
  rw [e] at e'
  injection e' with e1 e2 e3
  rw [e2] at e
  obtain ⟨b, off, ea, hb, h0⟩ := h.cell a c e (i * 4 + 0) (.int .u8 (x.kind : Int)) (by rw [g 0 (by omega)]; rfl)
  obtain ⟨b1, off1, ea1, _, h1⟩ := h.cell a c e (i * 4 + 1) (.int .i64 (x.node : Int)) (by rw [g 1 (by omega)]; rfl)
  obtain ⟨b2, off2, ea2, _, h2⟩ := h.cell a c e (i * 4 + 2) (.int .u32 (x.id : Int)) (by rw [g 2 (by omega)]; rfl)
  obtain ⟨b3, off3, ea3, _, h3⟩ := h.cell a c e (i * 4 + 3) (.int .u32 (x.far : Int)) (by rw [g 3 (by omega)]; rfl)
  rw [ea] at ea1 ea2 ea3
  injection ea1 with e1; injection e1 with e1 e1'
  injection ea2 with e2; injection e2 with e2 e2'
  injection ea3 with e3; injection e3 with e3 e3'
  subst e1 e1' e2 e2' e3 e3'
  exact ⟨b, off, ea, hb, h0, by rw [Nat.add_assoc]; exact h1, by rw [Nat.add_assoc]; exact h2, by rw [Nat.add_assoc]; exact h3⟩
/-- A list that is being made anew. -/
structure Grow (w : World) (t : TypeId) (size : Nat) (v : Value) (n : Nat) (xs : List Value) (wr : World) : Prop where
  mod : Mod (fun _ => False) w wr
  seg : Seg wr t size v n xs
  own : ∀ b, v.ownBlock = some b → w.heap.size ≤ b
theorem Grow.begin (w : World) (t : TypeId) (size : Nat) : Grow w t size (.slice none 0 0) 0 [] w := ⟨Mod.refl _ _, Seg.nil _ _ _, fun b hb => by simp [Value.ownBlock] at hb⟩
theorem Grow.more {w wr wy : World} {t : TypeId} {size n : Nat} {v : Value} {xs : List Value} (h : Grow w t size v n xs wr) (m : Mod (fun _ => False) wr wy) : Grow w t size v n xs wy := ⟨h.mod.trans m, h.seg.mod m (fun _ _ f => f), h.own⟩
theorem Grow.app {w wr wy : World} {t : TypeId} {size n m : Nat} {v v' : Value} {xs ys : List Value} (h : Grow w t size v n xs wr) (hs : Seg wy t size v' (n + m) (xs ++ ys)) (hg : wr.grownBy wy v.ownBlock) (ho : v'.ownBlock = v.ownBlock ∨ v'.ownBlock = some wr.heap.size) : Grow w t size v' (n + m) (xs ++ ys) wy :=
  ⟨h.mod.grown hg (fun b hb hlt => by have := h.own b hb; omega), hs, fun b hb => by
    rcases ho with e | e
    · exact h.own b (by rw [← e]; exact hb)
    · rw [e] at hb; injection hb with hb; have := h.mod.size; omega⟩
theorem infoRR : (Tryz.prog.info? 65).map (fun i => (i.zero, i.size, i.bytes)) = some (some (.agg #[.int .u8 0, .int .i64 0, .int .u32 0, .int .u32 0]), 4, 24) := by kernel_rfl
set_option maxRecDepth 100000 in
set_option maxHeartbeats 1000000 in
theorem reports_any (v : Value) (l : List Rep) (w : World) (hv : RdS w 4 v l.length (rcells l)) (hn : l.length ≤ 1000000) :
    Calls Tryz.prog 17 #[v] w fun e w' => ∃ vo, e = .returned vo ∧ Grow w 65 4 vo l.length (rcells l) w' := by
  have HV := Lib.hid hv
  obtain ⟨a, c, rfl, hc1, hc2, -⟩ := hv.shape
  clear hv
  obtain ⟨n, hl⟩ : ∃ n, n = l.length := ⟨_, rfl⟩
  have HN := Lib.hid hl
  rw [← hl] at HV hc1 hn ⊢
  clear hl
  obtain ⟨i0, hi, hz0, hz1, hz2⟩ := info_parts infoRR
  have HI : Hid (Tryz.prog.info? 65 = some i0 ∧ i0.zero = some (.agg #[.int .u8 0, .int .i64 0, .int .u32 0, .int .u32 0]) ∧ i0.size = 4 ∧ i0.bytes = 24) := ⟨hi, hz0, hz1, hz2⟩
  clear hi hz0 hz1 hz2
  go_enter Tryz.func17, Tryz.ntmps17
  go_wp2
  go_loopw [8, 3] (fun i o wr => ∃ k : Nat, i = .int .i64 k ∧ k ≤ n ∧ Grow w 65 4 o k (rcells (l.take k)) wr) (fun i _ _ => n - (intOf i).toNat)
  case atStart => exact ⟨0, rfl, Nat.zero_le _, Grow.begin _ _ _⟩
  case round =>
    obtain ⟨k, rfl, hk, hm⟩ := hrel
    have HM := Lib.hid hm
    clear hm
    obtain ⟨av, cv, nv, hvv⟩ : ∃ ao co no, u3 = .slice ao no co := by
      obtain ⟨a, c, e, _⟩ := HM.out.seg.shape
      exact ⟨_, _, _, e⟩
    subst hvv
    by_cases hkn : k < n
    · obtain ⟨x, hx⟩ : ∃ x, l[k]? = some x := ⟨_, List.getElem?_eq_getElem (by rw [← HN.out]; exact hkn)⟩
      obtain ⟨b, off, rfl, hb, p0, p1, p2, p3⟩ := rep_ent HV.out hx rfl
      have p0 := HM.out.mod.cell p0
      have p1 := HM.out.mod.cell p1
      have p2 := HM.out.mod.cell p2
      have p3 := HM.out.mod.cell p3
      have HT : Hid (rcells (l.take (k + 1)) = rcells (l.take k) ++ x.cells) := Lib.hid (by
        obtain ⟨h1, h2⟩ := List.getElem?_eq_some_iff.1 hx
        rw [List.take_succ_eq_append_getElem h1, h2, rcells_snoc])
      have HX1 := Lib.hid (Rep.ones x)
      obtain ⟨rk, rn, ri, rf⟩ := x
      simp only at p0 p1 p2 p3
      have HJ := Lib.hid ((HM.out.more ((Mod.refl (fun _ => False) wr).alloc (.cells #[.int .u8 (rk : Int), .int .i64 (rn : Int), .int .u32 (ri : Int), .int .u32 (rf : Int)] 52))).more ((Mod.refl (fun _ => False) _).alloc (.cells #[.int .u8 (rk : Int), .int .i64 (rn : Int), .int .u32 (ri : Int), .int .u32 (rf : Int)] 65)))
      have HS := Lib.hid (src_cells (w := wr.alloc (.cells #[.int .u8 (rk : Int), .int .i64 (rn : Int), .int .u32 (ri : Int), .int .u32 (rf : Int)] 52)) (n0 := wr.heap.size + 1) (size := 4) (by simp) 65 #[.int .u8 (rk : Int), .int .i64 (rn : Int), .int .u32 (ri : Int), .int .u32 (rf : Int)] rfl HX1.out)
      have HK : Hid (k + 1 ≤ 1000000) := Lib.hid (by omega)
      clear hx
      go_wp2_with (at_builtin; refine wpList_append_seg rfl (.tmp 12) (.tmp 14) 63 rfl i0 _ 4 24 Tryz.underlying63 HI.out.1 HI.out.2.1 HI.out.2.2.1 HI.out.2.2.2 rfl (by decide) rfl HJ.out.seg _ 1 _ rfl HS.out (by have := HK.out; unfold maxLen; omega) (by have := HK.out; omega) ?_; intro v3 w3 hs3 hg3 ho3; have H3 := Lib.hid (HJ.out.app hs3 hg3 ho3); (obtain ⟨a3, c3, n3, rfl⟩ : ∃ a c n, v3 = .slice a n c := (by obtain ⟨a, c, e, _⟩ := hs3.shape; exact ⟨_, _, _, e⟩)); clear hs3 hg3 ho3)
      go_roundw
      case rel => exact ⟨k + 1, by go_num, by omega, by rw [HT.out]; exact H3.out⟩
      case measure => simp [intOf]; omega
    · have HT : Hid (l.take k = l ∧ k = n) := Lib.hid ⟨by rw [List.take_of_length_le (by have := HN.out; omega)], by omega⟩
      rw [HT.out.1, HT.out.2] at HM
      go_wp2
      go_ret
      exact ⟨_, rfl, HM.out⟩
deriving instance DecidableEq for Rep
set_option maxRecDepth 100000 in
set_option maxHeartbeats 1000000 in
theorem same_yes (v u : Value) (l : List Rep) (w : World) (hv : RdS w 4 v l.length (rcells l)) (hu : RdS w 4 u l.length (rcells l)) :
    Calls Tryz.prog 16 #[v, u] w fun e w' => e = .returned (.bool true) ∧ Mod (fun _ => False) w w' := by
  have HV := Lib.hid hv
  have HU := Lib.hid hu
  obtain ⟨a, c, rfl, hc1, hc2, -⟩ := hv.shape
  obtain ⟨a', c', rfl, hc1', hc2', -⟩ := hu.shape
  clear hv hu
  obtain ⟨n, hl⟩ : ∃ n, n = l.length := ⟨_, rfl⟩
  have HN := Lib.hid hl
  rw [← hl] at HV HU hc1 hc1' ⊢
  clear hl
  go_enter Tryz.func16, Tryz.ntmps16
  go_wp2
  go_loopw [13] (fun i wr => ∃ k : Nat, i = .int .i64 k ∧ k ≤ n ∧ Mod (fun _ => False) w wr) (fun i _ => n - (intOf i).toNat)
  case atStart => exact ⟨0, rfl, Nat.zero_le _, Mod.refl _ _⟩
  case round =>
    obtain ⟨k, rfl, hk, hm⟩ := hrel
    have HM := Lib.hid hm
    clear hm
    by_cases hkn : k < n
    · obtain ⟨x, hx⟩ : ∃ x, l[k]? = some x := ⟨_, List.getElem?_eq_getElem (by rw [← HN.out]; exact hkn)⟩
      obtain ⟨b, off, rfl, hb, p0, p1, p2, p3⟩ := rep_ent HV.out hx rfl
      obtain ⟨b', off', rfl, hb', q0, q1, q2, q3⟩ := rep_ent HU.out hx rfl
      have p0 : ∀ x : MW wr, x.w.cell? _ = some _ := fun x => x.cell (HM.out.cell p0)
      have p1 : ∀ x : MW wr, x.w.cell? _ = some _ := fun x => x.cell (HM.out.cell p1)
      have p2 : ∀ x : MW wr, x.w.cell? _ = some _ := fun x => x.cell (HM.out.cell p2)
      have p3 : ∀ x : MW wr, x.w.cell? _ = some _ := fun x => x.cell (HM.out.cell p3)
      have q0 : ∀ x : MW wr, x.w.cell? _ = some _ := fun x => x.cell (HM.out.cell q0)
      have q1 : ∀ x : MW wr, x.w.cell? _ = some _ := fun x => x.cell (HM.out.cell q1)
      have q2 : ∀ x : MW wr, x.w.cell? _ = some _ := fun x => x.cell (HM.out.cell q2)
      have q3 : ∀ x : MW wr, x.w.cell? _ = some _ := fun x => x.cell (HM.out.cell q3)
      clear hx
      go_wp2_with fail
      refine wp_region_quietM (by kernel_rfl) (by kernel_rfl) ?_
      repeat (go_big_quiet_step (fail))
      refine wpQuiet_nil ?_
      intro w3 hm3
      have M3 : Hid (Mod (fun _ => False) w w3) := Lib.hid (HM.out.trans (MW.mod_of hm3))
      clear hm3 p0 p1 p2 p3 q0 q1 q2 q3
      go_wp2
      go_roundw
      case rel => exact ⟨k + 1, by go_num, by omega, M3.out⟩
      case measure => simp [intOf]; omega
    · go_wp2
      go_ret
      exact ⟨rfl, HM.out⟩
end Go.Proofs.YtnkmfgklmfmfeaaGreatDoor
/- gussetlaw23.twins: lists of one's own. -/
namespace Go.Proofs.YtnkmfgklmfmfeaaGreatDoor
set_option linter.unusedVariables false
open Go.RowKit
def VOff (S : Nat → Prop) (s : Vs) : Prop := (∀ b, s.vp.ownBlock = some b → ¬ S b) ∧ (∀ b, s.vh.ownBlock = some b → ¬ S b)
def LOff (S : Nat → Prop) (v : Value) (l : List Vs) : Prop := (∀ b, v.ownBlock = some b → ¬ S b) ∧ ∀ s ∈ l, VOff S s
theorem VOff.mono {S T : Nat → Prop} {s : Vs} (h : VOff S s) (i : ∀ k, T k → S k) : VOff T s := ⟨fun b hb t => h.1 b hb (i b t), fun b hb t => h.2 b hb (i b t)⟩
theorem LOff.mono {S T : Nat → Prop} {v : Value} {l : List Vs} (h : LOff S v l) (i : ∀ k, T k → S k) : LOff T v l := ⟨fun b hb t => h.1 b hb (i b t), fun s hs => (h.2 s hs).mono i⟩
/-- A vertex whose slices lie in blocks that may be written. -/
structure VOwn (w : World) (s : Vs) : Prop where
  fits : s.x.Fits
  props : Seg w 86 4 s.vp s.x.props.length (cellsOf .u8 s.x.props)
  halves : Seg w 57 4 s.vh s.x.halves.length (cellsOf .u32 s.x.halves)
theorem VOwn.rd {w : World} {s : Vs} (h : VOwn w s) : VRd w s.vp s.vh s.x := ⟨h.fits, h.props.rdS, h.halves.rdS⟩
theorem VOwn.mod {S : Nat → Prop} {w w' : World} {s : Vs} (h : VOwn w s) (m : Mod S w w') (o : VOff S s) : VOwn w' s := ⟨h.fits, h.props.mod m o.1, h.halves.mod m o.2⟩
theorem VOwn.lt {w : World} {s : Vs} (h : VOwn w s) : VOff (fun k => w.heap.size ≤ k) s := ⟨fun b hb t => by have := h.props.lt b hb; omega, fun b hb t => by have := h.halves.lt b hb; omega⟩
theorem VNew.vown {w0 w : World} {vp vh : Value} {x : Vtx} (h : VNew w0 w vp vh x) : VOwn w ⟨x, vp, vh⟩ := ⟨h.fits, h.props, h.halves⟩
structure LOwn (w : World) (v : Value) (l : List Vs) : Prop where
  row : Seg w 44 4 v l.length (vcells l)
  each : ∀ s ∈ l, VOwn w s
  apart : ∀ s ∈ l, VOff (fun k => v.ownBlock = some k) s
theorem LOwn.rd {w : World} {v : Value} {l : List Vs} (h : LOwn w v l) : LRd w v l := ⟨h.row.rdS, fun s hs => (h.each s hs).rd⟩
theorem LOwn.mod {S : Nat → Prop} {w w' : World} {v : Value} {l : List Vs} (h : LOwn w v l) (m : Mod S w w') (o : LOff S v l) : LOwn w' v l := ⟨h.row.mod m o.1, fun s hs => (h.each s hs).mod m (o.2 s hs), h.apart⟩
theorem LOwn.lt {w : World} {v : Value} {l : List Vs} (h : LOwn w v l) : LOff (fun k => w.heap.size ≤ k) v l := ⟨fun b hb t => by have := h.row.lt b hb; omega, fun s hs => (h.each s hs).lt⟩
theorem LOwn.nil (w : World) : LOwn w (.slice none 0 0) [] := ⟨Seg.nil _ _ _, by simp, by simp⟩
theorem off_false_l {v : Value} {l : List Vs} : LOff (fun _ => False) v l := ⟨fun _ _ f => f, fun _ _ => ⟨fun _ _ f => f, fun _ _ f => f⟩⟩
theorem vcells_snoc (l : List Vs) (s : Vs) : vcells (l ++ [s]) = vcells l ++ s.cells := by simp [vcells]
theorem mod_grown {w w' : World} {v : Value} (g : w.grownBy w' v.ownBlock) : Mod (fun k => v.ownBlock = some k) w w' := ⟨g.os, g.tape, g.output, g.size, fun k hk hne => g.block k hk (fun e => hne e.symm)⟩
theorem infoVtx : (Tryz.prog.info? 44).map (fun i => (i.zero, i.size, i.bytes)) = some (some (.agg #[.int .u32 0, .bool false, .slice none 0 0, .slice none 0 0]), 4, 56) := by kernel_rfl
/-- What a list of lists tells. -/
def dat (ls : List Ls) : List (List Vtx) := ls.map fun s => s.l.map Vs.x
end Go.Proofs.YtnkmfgklmfmfeaaGreatDoor

/- VG: what is needed of it (by shake.py). -/

/- VG, as far as the seat goes. -/
/- V21, V22 in one. -/
/- gussetlaw23.twins, walked. -/
namespace Go.Proofs.YtnkmfgklmfmfeaaGreatDoor
set_option linter.unusedVariables false
open Go.RowKit
end Go.Proofs.YtnkmfgklmfmfeaaGreatDoor
/- gussetlaw23.awake. -/
namespace Go.Proofs.YtnkmfgklmfmfeaaGreatDoor
set_option linter.unusedVariables false
open Go.RowKit
def va : Vtx := ⟨1, true, [], [farE 2]⟩
def vb : Vtx := ⟨2, true, [], []⟩
theorem vertex_a (b : Nat) (w : World) (hb : w.heap[b]? = some (.cells #[.int .u32 2] 28 (0, 0))) :
    Calls Tryz.prog 15 #[.int .u32 1, .slice (some ⟨b, 0, none⟩) 1 1] w fun e w' => ∃ vh, e = .returned (.agg #[.int .u32 1, .bool true, .slice none 0 0, vh]) ∧ Mod (fun _ => False) w w' ∧ VNew w w' (.slice none 0 0) vh va :=
  vertex_any 1 _ [2] w (by omega) (by simp) ⟨rfl, ⟨_, _, rfl, Nat.le_refl _, by simp, fun h => by cases h⟩, fun a c e j u hu => by
    injection e with e1 e2 e3
    refine ⟨b, 0, e1.symm, lt_of_block hb, ?_⟩
    match j, hu with
    | 0, hu => simp at hu; subst hu; exact cell_of_row hb 0⟩ (by simp)
theorem vertex_b (w : World) :
    Calls Tryz.prog 15 #[.int .u32 2, .slice none 0 0] w fun e w' => ∃ vh, e = .returned (.agg #[.int .u32 2, .bool true, .slice none 0 0, vh]) ∧ Mod (fun _ => False) w w' ∧ VNew w w' (.slice none 0 0) vh vb :=
  vertex_any 2 _ [] w (by omega) (by simp) ⟨rfl, ⟨_, _, rfl, Nat.le_refl _, by simp, fun _ => rfl⟩, fun a c e j u hu => by simp at hu⟩ (by simp)
theorem rd_lit (w : World) (t : TypeId) (cs : Array Value) (n size n0 : Nat) (h0 : w.heap.size = n0) (hs : cs.size = n * size) (hn : n ≤ maxLen) (h1 : ∀ u ∈ cs.toList, u.oneCell' = true) : RdS (w.alloc (.cells cs t)) size (.slice (some ⟨n0, 0, none⟩) n n) n cs.toList := by
  subst h0
  exact (Seg.lit (e := t) (size := size) w cs n hs hn h1).rdS
def lsA (w1 w2 : World) (v1 v2 : Value) : List Ls := [⟨.slice (some ⟨w1.heap.size, 0, none⟩) 1 1, [⟨va, .slice none 0 0, v1⟩]⟩, ⟨.slice (some ⟨w2.heap.size, 0, none⟩) 1 1, [⟨vb, .slice none 0 0, v2⟩]⟩]
theorem awake_rd (w0 w0' w1 w2 : World) (a1 a2 : Option Addr) (l1 l2 c1 c2 : Nat) (u : Bool) (h1 : VNew w0 w1 (.slice none 0 0) (.slice a1 l1 c1) va) (m : Mod (fun _ => False) (w1.alloc (.cells #[.int .u32 1, .bool true, .slice none 0 0, .slice a1 l1 c1] 44)) w2) (h2 : VNew w0' w2 (.slice none 0 0) (.slice a2 l2 c2) vb) :
    LLRd (((w2.alloc (.cells #[.int .u32 2, .bool true, .slice none 0 0, .slice a2 l2 c2] 44)).alloc (.cells #[.slice (some ⟨w1.heap.size, 0, none⟩) 1 1, .slice (some ⟨w2.heap.size, 0, none⟩) 1 1] 40)).alloc (.cells #[.bool true, .bool u] 4)) (.slice (some ⟨w2.heap.size + 1, 0, none⟩) 2 2) (lsA w1 w2 (.slice a1 l1 c1) (.slice a2 l2 c2)) ∧
    FRd (((w2.alloc (.cells #[.int .u32 2, .bool true, .slice none 0 0, .slice a2 l2 c2] 44)).alloc (.cells #[.slice (some ⟨w1.heap.size, 0, none⟩) 1 1, .slice (some ⟨w2.heap.size, 0, none⟩) 1 1] 40)).alloc (.cells #[.bool true, .bool u] 4)) (.slice (some ⟨w2.heap.size + 1 + 1, 0, none⟩) 2 2) [true, u] := by
  have mA : Mod (fun _ => False) w2 (((w2.alloc (.cells #[.int .u32 2, .bool true, .slice none 0 0, .slice a2 l2 c2] 44)).alloc (.cells #[.slice (some ⟨w1.heap.size, 0, none⟩) 1 1, .slice (some ⟨w2.heap.size, 0, none⟩) 1 1] 40)).alloc (.cells #[.bool true, .bool u] 4)) := (((Mod.refl _ _).alloc _).alloc _).alloc _
  have m1 : Mod (fun _ => False) w1 w2 := ((Mod.refl (fun _ => False) w1).alloc _).trans m
  refine ⟨⟨?_, ?_⟩, ?_⟩
  · exact ((rd_lit _ _ #[.slice (some ⟨w1.heap.size, 0, none⟩) 1 1, .slice (some ⟨w2.heap.size, 0, none⟩) 1 1] 2 1 (w2.heap.size + 1) (by simp) rfl (by simp [maxLen]) (by simp [Value.oneCell'])).keep ((Mod.refl (fun _ => False) _).alloc _))
  · intro s hs
    simp only [lsA, List.mem_cons, List.not_mem_nil, or_false] at hs
    rcases hs with rfl | rfl
    · refine ⟨?_, ?_⟩
      · exact ((rd_lit w1 _ #[.int .u32 1, .bool true, .slice none 0 0, .slice a1 l1 c1] 1 4 _ rfl rfl (by simp [maxLen]) (by simp [Value.oneCell'])).keep m).keep mA
      · intro s hs; simp only [List.mem_cons, List.not_mem_nil, or_false] at hs; subst hs
        exact (h1.rd.keep m1).keep mA
    · refine ⟨?_, ?_⟩
      · exact ((rd_lit w2 _ #[.int .u32 2, .bool true, .slice none 0 0, .slice a2 l2 c2] 1 4 _ rfl rfl (by simp [maxLen]) (by simp [Value.oneCell'])).keep ((Mod.refl (fun _ => False) _).alloc _)).keep ((Mod.refl (fun _ => False) _).alloc _)
      · intro s hs; simp only [List.mem_cons, List.not_mem_nil, or_false] at hs; subst hs
        exact h2.rd.keep mA
  · exact rd_lit _ _ #[.bool true, .bool u] 2 1 (w2.heap.size + 1 + 1) (by simp) rfl (by simp [maxLen]) (by simp [Value.oneCell'])
theorem awake_ok (w1 w2 : World) (v1 v2 : Value) : (lsA w1 w2 v1 v2).any notOK = false := by
  simp [lsA, notOK, listOK, va, vb, Vtx.right, numB, above, chain, farE, halfOK, Val.ok, ByteArray.toList_eq]
theorem awake_reps (w1 w2 : World) (v1 v2 : Value) (u : Bool) : allR (held [true, u] 0 (lsA w1 w2 v1 v2)) (![true, u].any (!·)) = [⟨if u then 2 else 4, 0, 1, 2⟩] := by
  cases u <;> simp [lsA, held, allR, repOf, preR, halfR, judgeN, seatF, va, vb, farE]
theorem awake_cmp (w0 w0' w1 w2 : World) (a1 a2 : Option Addr) (l1 l2 c1 c2 : Nat) (u : Bool) (h1 : VNew w0 w1 (.slice none 0 0) (.slice a1 l1 c1) va) (m : Mod (fun _ => False) (w1.alloc (.cells #[.int .u32 1, .bool true, .slice none 0 0, .slice a1 l1 c1] 44)) w2) (h2 : VNew w0' w2 (.slice none 0 0) (.slice a2 l2 c2) vb) :
    Calls Tryz.prog 12 #[.slice (some ⟨w2.heap.size + 1, 0, none⟩) 2 2, .slice (some ⟨w2.heap.size + 1 + 1, 0, none⟩) 2 2] (((w2.alloc (.cells #[.int .u32 2, .bool true, .slice none 0 0, .slice a2 l2 c2] 44)).alloc (.cells #[.slice (some ⟨w1.heap.size, 0, none⟩) 1 1, .slice (some ⟨w2.heap.size, 0, none⟩) 1 1] 40)).alloc (.cells #[.bool true, .bool u] 4)) fun e w' => ∃ vo, e = .returned (.tuple #[vo, .int .i64 0]) ∧ Told (((w2.alloc (.cells #[.int .u32 2, .bool true, .slice none 0 0, .slice a2 l2 c2] 44)).alloc (.cells #[.slice (some ⟨w1.heap.size, 0, none⟩) 1 1, .slice (some ⟨w2.heap.size, 0, none⟩) 1 1] 40)).alloc (.cells #[.bool true, .bool u] 4)) vo [⟨if u then 2 else 4, 0, 1, 2⟩] w' := by
  obtain ⟨hr, hf⟩ := awake_rd w0 w0' w1 w2 a1 a2 l1 l2 c1 c2 u h1 m h2
  have h := compare_good _ _ _ [true, u] _ hr hf rfl (by simp [lsA]) (by simp [lsA]) (awake_ok _ _ _ _) (by cases u <;> simp [lsA, held, maxLen]) (by rw [awake_reps]; simp)
  rw [awake_reps] at h
  exact h
end Go.Proofs.YtnkmfgklmfmfeaaGreatDoor
