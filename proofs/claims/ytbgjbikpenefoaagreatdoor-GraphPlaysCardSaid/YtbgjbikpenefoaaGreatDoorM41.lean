/- Lemmas for the claim, in one text: G14, YBG, YBN. -/
import Derived.Test.YtbgjbikpenefoaaGreatDoorM08
import Derived.Test.YtbgjbikpenefoaaGreatDoorM40
import Derived.Test.YtbgjbikpenefoaaGreatDoorM02
import Derived.Test.YtbgjbikpenefoaaGreatDoorM16
import Derived.Test.YtbgjbikpenefoaaGreatDoorY8
import Derived.Test.YtbgjbikpenefoaaGreatDoorRF
import Derived.Test.YtbgjbikpenefoaaGreatDoorM39
import Derived.Test.YtbgjbikpenefoaaGreatDoorM07
import Derived.Test.YtbgjbikpenefoaaGreatDoorVI

/- G14: what is needed of it (by shake.py). -/

/- G14, as far as the seat goes. -/
/- gussetref03.SameNumbers, gussetref03.SameVertex, of two that are alike. -/
namespace Go.Proofs.YtbgjbikpenefoaaGreatDoor
set_option linter.unusedVariables false
open Go.RowKit
set_option maxRecDepth 100000 in
set_option maxHeartbeats 1000000 in
theorem nsame_yes (v u : Value) (l : List Nat) (w : World) (hv : RdS w 1 v l.length (l.map (keyV .u32))) (hu : RdS w 1 u l.length (l.map (keyV .u32))) :
    Calls Tryz.prog 24 #[v, u] w fun e w' => e = .returned (.bool true) ∧ Mod (fun _ => False) w w' := by
  have HV := Lib.hid hv
  have HU := Lib.hid hu
  obtain ⟨a, c, rfl, hc1, hc2, -⟩ := hv.shape
  obtain ⟨a', c', rfl, hc1', hc2', -⟩ := hu.shape
  clear hv hu
  obtain ⟨n, hl⟩ : ∃ n, n = l.length := ⟨_, rfl⟩
  have HN := Lib.hid hl
  rw [← hl] at HV HU hc1 hc1' ⊢
  clear hl
  go_enter Tryz.func24, Tryz.ntmps24
  go_wp2
  go_loopw [13] (fun i wr => ∃ k : Nat, i = .int .i64 k ∧ k ≤ n ∧ Mod (fun _ => False) w wr) (fun i _ => n - (intOf i).toNat)
  case atStart => exact ⟨0, rfl, Nat.zero_le _, Mod.refl _ _⟩
  case round =>
    obtain ⟨k, rfl, hk, hm⟩ := hrel
    have HM := Lib.hid hm
    clear hm
    by_cases hkn : k < n
    · obtain ⟨x, hx⟩ : ∃ x, l[k]? = some x := ⟨_, List.getElem?_eq_getElem (by rw [← HN.out]; exact hkn)⟩
      obtain ⟨b, off, rfl, hb, p0⟩ := num_ent HV.out hx rfl
      obtain ⟨b', off', rfl, hb', q0⟩ := num_ent HU.out hx rfl
      have p0 : ∀ x : MW wr, x.w.cell? _ = some _ := fun x => x.cell (HM.out.cell p0)
      have q0 : ∀ x : MW wr, x.w.cell? _ = some _ := fun x => x.cell (HM.out.cell q0)
      clear hx
      go_wp2_with fail
      refine wp_region_quietM (by kernel_rfl) (by kernel_rfl) ?_
      repeat (go_big_quiet_step (fail))
      refine wpQuiet_nil ?_
      intro w3 hm3
      have M3 : Hid (Mod (fun _ => False) w w3) := Lib.hid (HM.out.trans (MW.mod_of hm3))
      clear hm3 p0 q0
      go_wp2
      go_roundw
      case rel => exact ⟨k + 1, by go_num, by omega, M3.out⟩
      case measure => simp [intOf]; omega
    · go_wp2
      go_ret
      exact ⟨rfl, HM.out⟩
/-- The two boxes. -/
structure BoAt (w : World) (o o' : Array Value) (wr : World) : Prop where
  mod : Mod (fun _ => False) w wr
  one : wr.heap[w.heap.size]? = some (.cells o 40 (0, 0))
  two : wr.heap[w.heap.size + 1]? = some (.cells o' 40 (0, 0))
theorem BoAt.more {w wx wy : World} {o o' : Array Value} (h : BoAt w o o' wx) (m : Mod (fun _ => False) wx wy) : BoAt w o o' wy := ⟨h.mod.trans m, m.heap h.one (fun f => f), m.heap h.two (fun f => f)⟩
theorem BoAt.begin (w : World) (o o' : Array Value) : BoAt w o o' ((w.alloc (.cells o 40)).alloc (.cells o' 40)) :=
  ⟨((Mod.refl _ w).alloc _).alloc _, heap_alloc_old (heap_alloc_new' w _), by have := heap_alloc_new' (w.alloc (.cells o 40)) (.cells o' 40); simpa using this⟩
set_option maxRecDepth 100000 in
set_option maxHeartbeats 2000000 in
theorem vsame_yes (x : Vtx) (vp vh vp' vh' : Value) (w : World) (h1 : VRd w vp vh x) (h2 : VRd w vp' vh' x) :
    Calls Tryz.prog 22 #[vtxV x vp vh, vtxV x vp' vh'] w fun e w' => e = .returned (.bool true) ∧ Mod (fun _ => False) w w' := by
  obtain ⟨id, there, ps, hs⟩ := x
  have HP := Lib.hid h1.props
  have HH := Lib.hid h1.halves
  have HP2 := Lib.hid h2.props
  have HH2 := Lib.hid h2.halves
  simp only at HP HH HP2 HH2
  obtain ⟨ap, cp, rfl, hcp, hcp2, -⟩ := h1.props.shape
  obtain ⟨ah, ch, rfl, hch, hch2, -⟩ := h1.halves.shape
  obtain ⟨ap', cp', rfl, hcp', hcp2', -⟩ := h2.props.shape
  obtain ⟨ah', ch', rfl, hch', hch2', -⟩ := h2.halves.shape
  clear h1 h2
  simp only [vtxV] at *
  obtain ⟨np, hnp⟩ : ∃ n, n = ps.length := ⟨_, rfl⟩
  have HNP := Lib.hid hnp
  rw [← hnp] at HP HP2 hcp hcp' ⊢
  obtain ⟨nh, hnh⟩ : ∃ n, n = hs.length := ⟨_, rfl⟩
  have HNH := Lib.hid hnh
  rw [← hnh] at HH HH2 hch hch' ⊢
  clear hnp hnh
  have HB := Lib.hid (BoAt.begin w #[.int .u32 (id : Int), .bool there, .slice ap np cp, .slice ah nh ch] #[.int .u32 (id : Int), .bool there, .slice ap' np cp', .slice ah' nh ch'])
  go_enter Tryz.func22, Tryz.ntmps22
  go_wp2
  go_loopw [40] (fun i wr => ∃ k : Nat, i = .int .i64 k ∧ k ≤ np ∧ BoAt w #[.int .u32 (id : Int), .bool there, .slice ap np cp, .slice ah nh ch] #[.int .u32 (id : Int), .bool there, .slice ap' np cp', .slice ah' nh ch'] wr) (fun i _ => np - (intOf i).toNat)
  case atStart => exact ⟨0, rfl, Nat.zero_le _, HB.out⟩
  case round =>
    obtain ⟨k, rfl, hk, hm⟩ := hrel
    have HM := Lib.hid hm
    clear hm HB
    by_cases hkn : k < np
    · obtain ⟨x, hx⟩ : ∃ x, ps[k]? = some x := ⟨_, List.getElem?_eq_getElem (by rw [← HNP.out]; exact hkn)⟩
      obtain ⟨b, off, e1, hb, p0, p1, p2, p3⟩ := HP.out.ent2 hx rfl
      obtain ⟨b', off', e2, hb', q0, q1, q2, q3⟩ := HP2.out.ent2 hx rfl
      have d0 := cell_of_row HM.out.one 2
      have d1 := cell_of_row HM.out.two 2
      simp at d0 d1
      subst e1 e2
      have p0 : ∀ x : MW wr, x.w.cell? _ = some _ := fun x => x.cell (HM.out.mod.cell p0)
      have p1 : ∀ x : MW wr, x.w.cell? _ = some _ := fun x => x.cell (HM.out.mod.cell p1)
      have p2 : ∀ x : MW wr, x.w.cell? _ = some _ := fun x => x.cell (HM.out.mod.cell p2)
      have p3 : ∀ x : MW wr, x.w.cell? _ = some _ := fun x => x.cell (HM.out.mod.cell p3)
      have q0 : ∀ x : MW wr, x.w.cell? _ = some _ := fun x => x.cell (HM.out.mod.cell q0)
      have q1 : ∀ x : MW wr, x.w.cell? _ = some _ := fun x => x.cell (HM.out.mod.cell q1)
      have q2 : ∀ x : MW wr, x.w.cell? _ = some _ := fun x => x.cell (HM.out.mod.cell q2)
      have q3 : ∀ x : MW wr, x.w.cell? _ = some _ := fun x => x.cell (HM.out.mod.cell q3)
      have d0 : ∀ x : MW wr, x.w.cell? _ = some _ := fun x => x.cell d0
      have d1 : ∀ x : MW wr, x.w.cell? _ = some _ := fun x => x.cell d1
      clear hx hb hb'
      obtain ⟨key, ⟨vk, vn, vs⟩⟩ := x
      simp only at p0 p1 p2 p3 q0 q1 q2 q3
      go_wp2_with fail
      refine wp_region_quietM (by kernel_rfl) (by kernel_rfl) ?_
      repeat (go_big_quiet_step (fail))
      refine wpQuiet_nil ?_
      intro w3 hm3
      have M3 := Lib.hid (HM.out.more (MW.mod_of hm3))
      clear hm3 p0 p1 p2 p3 q0 q1 q2 q3 d0 d1
      go_wp2
      go_roundw
      case rel => exact ⟨k + 1, by go_num, by omega, M3.out⟩
      case measure => simp [intOf]; omega
    · have HB := Lib.hid HM.out
      have g3 := cell_of_row HM.out.one 3
      have g4 := cell_of_row HM.out.two 3
      simp at g3 g4
      go_wp2
      go_loopw [58] (fun i wr => ∃ k : Nat, i = .int .i64 k ∧ k ≤ nh ∧ BoAt w #[.int .u32 (id : Int), .bool there, .slice ap np cp, .slice ah nh ch] #[.int .u32 (id : Int), .bool there, .slice ap' np cp', .slice ah' nh ch'] wr) (fun i _ => nh - (intOf i).toNat)
      case atStart => exact ⟨0, rfl, Nat.zero_le _, HB.out⟩
      case round =>
        obtain ⟨k, rfl, hk, hm⟩ := hrel
        have HM := Lib.hid hm
        clear hm HB
        by_cases hkn : k < nh
        · obtain ⟨x, hx⟩ : ∃ x, hs[k]? = some x := ⟨_, List.getElem?_eq_getElem (by rw [← HNH.out]; exact hkn)⟩
          obtain ⟨b, off, e1, hb, p0, p1, p2, p3⟩ := HH.out.ent2 hx rfl
          obtain ⟨b', off', e2, hb', q0, q1, q2, q3⟩ := HH2.out.ent2 hx rfl
          have d0 := cell_of_row HM.out.one 3
          have d1 := cell_of_row HM.out.two 3
          simp at d0 d1
          subst e1 e2
          have p0 : ∀ x : MW wr, x.w.cell? _ = some _ := fun x => x.cell (HM.out.mod.cell p0)
          have p1 : ∀ x : MW wr, x.w.cell? _ = some _ := fun x => x.cell (HM.out.mod.cell p1)
          have p2 : ∀ x : MW wr, x.w.cell? _ = some _ := fun x => x.cell (HM.out.mod.cell p2)
          have p3 : ∀ x : MW wr, x.w.cell? _ = some _ := fun x => x.cell (HM.out.mod.cell p3)
          have q0 : ∀ x : MW wr, x.w.cell? _ = some _ := fun x => x.cell (HM.out.mod.cell q0)
          have q1 : ∀ x : MW wr, x.w.cell? _ = some _ := fun x => x.cell (HM.out.mod.cell q1)
          have q2 : ∀ x : MW wr, x.w.cell? _ = some _ := fun x => x.cell (HM.out.mod.cell q2)
          have q3 : ∀ x : MW wr, x.w.cell? _ = some _ := fun x => x.cell (HM.out.mod.cell q3)
          have d0 : ∀ x : MW wr, x.w.cell? _ = some _ := fun x => x.cell d0
          have d1 : ∀ x : MW wr, x.w.cell? _ = some _ := fun x => x.cell d1
          clear hx hb hb'
          obtain ⟨key, ⟨vk, vn, vs⟩⟩ := x
          simp only at p0 p1 p2 p3 q0 q1 q2 q3
          go_wp2_with fail
          refine wp_region_quietM (by kernel_rfl) (by kernel_rfl) ?_
          repeat (go_big_quiet_step (fail))
          refine wpQuiet_nil ?_
          intro w3 hm3
          have M3 := Lib.hid (HM.out.more (MW.mod_of hm3))
          clear hm3 p0 p1 p2 p3 q0 q1 q2 q3 d0 d1
          go_wp2
          go_roundw
          case rel => exact ⟨k + 1, by go_num, by omega, M3.out⟩
          case measure => simp [intOf]; omega
        · have HB := Lib.hid HM.out
          have g3 := cell_of_row HM.out.one 3
          have g4 := cell_of_row HM.out.two 3
          simp at g3 g4
          go_wp2
          go_ret
          exact ⟨rfl, HM.out.mod⟩
end Go.Proofs.YtbgjbikpenefoaaGreatDoor

/- YBG: what is needed of it (by shake.py). -/

/- YBG, as far as the seat goes. -/
/- A list of vertices that a law collects; operations as an argument; a transaction in the laws' words. (Printed by gen_gall.py.) -/
namespace Go.Proofs.YtbgjbikpenefoaaGreatDoor
set_option linter.unusedVariables false
set_option linter.unusedSimpArgs false
open Go.RowKit Go.Maps
theorem Kept.lrd {w w' : World} (h : Kept w w') {v : Value} {l : List Vs} (hr : LRd w v l) : LRd w' v l := ⟨h.rds hr.row, fun s hs => h.vrd (hr.each s hs)⟩
section
open Go.ChangeShapes Go.WideShapes Go.ChangeAt
variable {H : Type} {enc : TypeId × Value → H} {W : World} {base : Nat} {v : Value} {d : DataW H} {p : List MemPlace}
end
theorem ocells_take (l : List Opr) (k : Nat) : (ocells l).take (k * 7) = ocells (l.take k) := by
  induction l generalizing k with
  | nil => simp [ocells]
  | cons s r ih =>
    cases k with
    | zero => simp [ocells]
    | succ k =>
      have : ocells (s :: r) = s.cells ++ ocells r := by simp [ocells]
      have h2 : ocells (s :: r.take k) = s.cells ++ ocells (r.take k) := by simp [ocells]
      rw [this, show (k + 1) * 7 = s.cells.length + k * 7 by rw [opr_cells s]; omega, List.take_length_add_append, List.take_succ_cons, h2, ih]
/-- The first operations of a list. -/
theorem ORd.to {w : World} {v : Value} {l : List Opr} (h : ORd w v l) {k : Nat} (hk : k ≤ l.length) (kk : IntKind) :
    ∃ a c, (∀ wx, (Instr.slice 27 v none (some (.int kk k)) none).run Tryz.prog wx = .ok (.slice a k c) wx) ∧ ORd w (.slice a k c) (l.take k) := by
  obtain ⟨v', h1, h2, _⟩ := h.row.cut (by omega) (lo := 0) (hi := k) (Nat.zero_le _) hk Tryz.underlying27 (e := 71) (by kernel_rfl) kk kk none (some (.int kk k)) (.inr ⟨rfl, rfl⟩) (.inl rfl)
  obtain ⟨a, c, rfl, -⟩ := h2.shape
  refine ⟨a, c, by simpa using h1, ?_, fun o ho => h.fits o (List.mem_of_mem_take ho)⟩
  rw [ocells_take] at h2
  simpa [List.length_take, Nat.min_eq_left hk] using h2
end Go.Proofs.YtbgjbikpenefoaaGreatDoor

/- YBN: what is needed of it (by shake.py). -/

/- YBN, as far as the seat goes. -/
/- gussetref03.Vertex, gussetref03.IDs, walked. (Printed by gen_dvert.py.) -/
namespace Go.Proofs.YtbgjbikpenefoaaGreatDoor
set_option linter.unusedVariables false
set_option linter.unusedSimpArgs false
open Go.RowKit
set_option maxRecDepth 100000 in
set_option maxHeartbeats 4000000 in
theorem dvertex_none (g : Nat) (gv : Value) (l : List Vs) (id : Nat) (w : World) (hg : GrAt w g gv l) (hf : findV (l.map Vs.x) id = none) :
    Calls Tryz.prog 23 #[.pointer (some ⟨g, 0, none⟩), .int .u32 (id : Int)] w fun e w' => e = .returned (.agg #[.int .u32 (id : Int), .bool false, .slice none 0 0, .slice none 0 0]) ∧ Mod (fun _ => False) w w' := by
  have HAT : Hid (∀ w', Mod (fun _ => False) w w' → Calls Tryz.prog 39 #[.pointer (some ⟨g, 0, none⟩), .int .u32 (id : Int)] w' fun e w'' => e = .returned (.int .i64 (-1)) ∧ Mod (fun _ => False) w' w'') := Lib.hid (fun w' m => by
    have h := at_any g gv l id w' (hg.keep m)
    rwa [find_none hf] at h)
  have HR : Hid ((w.alloc (.cells #[.int .u32 0, .bool false, .slice none 0 0, .slice none 0 0] 40)).heap[w.heap.size]? = some (.cells #[.int .u32 0, .bool false, .slice none 0 0, .slice none 0 0] 40 (0, 0))) := Lib.hid (heap_alloc_new' _ _)
  clear hg hf
  go_enter Tryz.func23, Tryz.ntmps23
  go_wp2_with (go_at_call 39; go_loud (refine (HAT.out _ ((Mod.refl _ _).alloc _)).mono ?_; (rintro e w1 ⟨rfl, hm1⟩); have HM1 := Lib.hid hm1; have hrb := hm1.heap HR.out (fun f => f); have r0 := cell_of_row hrb 0; have r1 := cell_of_row hrb 1; have r2 := cell_of_row hrb 2; have r3 := cell_of_row hrb 3; have f0 := free_of_row hrb 0; have f1 := free_of_row hrb 1; have f2 := free_of_row hrb 2; have f3 := free_of_row hrb 3; have zr := lt_of_block hrb; simp at r0 r1 r2 r3; clear hm1 hrb))
  refine bodyPost_ret (v := .agg #[.int .u32 (id : Int), .bool false, .slice none 0 0, .slice none 0 0]) (by simp [results, Tryz.results23, go_sem, r0, r1, r2, r3]) rfl ?_
  have m := vxEnd_mod w1 w.heap.size (.int .u32 (id : Int)) (.bool false) (.slice none 0 0) (.slice none 0 0)
  exact ⟨rfl, (((Mod.refl (fun _ => False) w).alloc _).trans HM1.out).trans' m (fun i hi e => by omega)⟩
set_option maxRecDepth 100000 in
set_option maxHeartbeats 4000000 in
theorem dvertex_some (g : Nat) (gv : Value) (l : List Vs) (id0 : Nat) (w : World) (hg : GrAt w g gv l) (x : Vtx) (hf : findV (l.map Vs.x) id0 = some x) :
    Calls Tryz.prog 23 #[.pointer (some ⟨g, 0, none⟩), .int .u32 (id0 : Int)] w fun e w' => ∃ vp vh, e = .returned (.agg #[.int .u32 (x.id : Int), .bool x.there, vp, vh]) ∧ Mod (fun _ => False) w w' ∧ VRd w' vp vh x := by
  obtain ⟨i, s, ha, hs, hsx, -⟩ := find_some hf
  have HAT : Hid (∀ w', Mod (fun _ => False) w w' → Calls Tryz.prog 39 #[.pointer (some ⟨g, 0, none⟩), .int .u32 (id0 : Int)] w' fun e w'' => e = .returned (.int .i64 (i : Int)) ∧ Mod (fun _ => False) w' w'') := Lib.hid (fun w' m => by
    have h := at_any g gv l id0 w' (hg.keep m)
    rwa [ha] at h)
  have HR : Hid ((w.alloc (.cells #[.int .u32 0, .bool false, .slice none 0 0, .slice none 0 0] 40)).heap[w.heap.size]? = some (.cells #[.int .u32 0, .bool false, .slice none 0 0, .slice none 0 0] 40 (0, 0))) := Lib.hid (heap_alloc_new' _ _)
  have hvx := hg.lst.at hs
  rw [hsx] at hvx
  have HVX := Lib.hid hvx
  obtain ⟨a, c, rfl, hc1, hc2, -⟩ := hg.lst.row.shape
  obtain ⟨bl, offl, e0, hbl, p0, p1, p2, p3⟩ := hg.lst.ent hs rfl
  subst e0
  rw [hsx] at p0 p1
  have g0 := cell_of_row hg.box 0
  simp at g0
  have hil : i < l.length := (List.getElem?_eq_some_iff.1 hs).1
  obtain ⟨n, hn⟩ : ∃ n, n = l.length := ⟨_, rfl⟩
  rw [← hn] at g0 hc1 hil
  have hil' : (i : Int) < (n : Int) := by omega
  have zg := lt_of_block hg.box
  obtain ⟨sx, vp, vh⟩ := s
  obtain ⟨id, there, xs, ys⟩ := x
  simp only at p0 p1 p2 p3 HVX ⊢
  obtain ⟨ap, cp, hvp, -⟩ := HVX.out.props.shape
  obtain ⟨ah, ch, hvh, -⟩ := HVX.out.halves.shape
  obtain ⟨np, hnp⟩ : ∃ n, n = xs.length := ⟨_, rfl⟩
  obtain ⟨nh, hnh⟩ : ∃ n, n = ys.length := ⟨_, rfl⟩
  simp only at hvp hvh
  rw [← hnp] at hvp
  rw [← hnh] at hvh
  subst hvp hvh
  have HKEEP : Hid (∀ w', Mod (fun _ => False) w w' → (fun w' => w'.cell? ⟨g, 0, none⟩ = some (.slice (some ⟨bl, offl, none⟩) n c) ∧ w'.cell? ⟨bl, offl + i * 4, none⟩ = some (.int .u32 (id : Int)) ∧ w'.cell? ⟨bl, offl + i * 4 + 1, none⟩ = some (.bool there) ∧ w'.cell? ⟨bl, offl + i * 4 + 2, none⟩ = some (.slice ap np cp) ∧ w'.cell? ⟨bl, offl + i * 4 + 3, none⟩ = some (.slice ah nh ch)) w') := Lib.hid (fun w' m => ⟨m.cell g0, m.cell p0, m.cell p1, m.cell p2, m.cell p3⟩)
  have HZL : Hid (bl < w.heap.size) := Lib.hid hbl
  clear hg hf ha hs hsx hvx hbl hn hnp hnh
  go_enter Tryz.func23, Tryz.ntmps23
  go_upto_region 3 with (go_at_call 39; go_loud (refine (HAT.out _ ((Mod.refl _ _).alloc _)).mono ?_; (rintro e w1 ⟨rfl, hm1⟩); have HM1 := Lib.hid (((Mod.refl (fun _ => False) w).alloc _).trans hm1); have HRB := Lib.hid (hm1.heap HR.out (fun f => f)); clear hm1))
  clear g0 p0 p1 p2 p3
  obtain ⟨k0, k1, k2, k3, k4⟩ := HKEEP.out _ (HM1.out.drew)
  have zbl : bl < w1.heap.size := Nat.lt_of_lt_of_le HZL.out HM1.out.size
  have zg1 : g < w1.heap.size := Nat.lt_of_lt_of_le zg HM1.out.size
  have hrb := HRB.out
  have r0 := cell_of_row hrb 0
  have r1 := cell_of_row hrb 1
  have r2 := cell_of_row hrb 2
  have r3 := cell_of_row hrb 3
  have f0 := free_of_row hrb 0
  have f1 := free_of_row hrb 1
  have f2 := free_of_row hrb 2
  have f3 := free_of_row hrb 3
  have zr := lt_of_block hrb
  simp at r0 r1 r2 r3
  clear hrb
  go_wp2_with fail
  go_region_held3 (fun w' => w'.cell? ⟨g, 0, none⟩ = some (.slice (some ⟨bl, offl, none⟩) n c) ∧ w'.cell? ⟨bl, offl + i * 4, none⟩ = some (.int .u32 (id : Int)) ∧ w'.cell? ⟨bl, offl + i * 4 + 1, none⟩ = some (.bool there) ∧ w'.cell? ⟨bl, offl + i * 4 + 2, none⟩ = some (.slice ap np cp) ∧ w'.cell? ⟨bl, offl + i * 4 + 3, none⟩ = some (.slice ah nh ch))
    (first
      | go_keep
      | exact HKEEP.out _ HM2.out
      | exact HKEEP.out _ ((((HM2.out.setCell (fun h => absurd h (Nat.lt_irrefl _)) _).setCell (fun h => absurd h (Nat.lt_irrefl _)) _).setCell (fun h => absurd h (Nat.lt_irrefl _)) _).setCell (fun h => absurd h (Nat.lt_irrefl _)) _))
    ((go_at_call 39; go_loud (refine (HAT.out _ HM1.out.drew).mono ?_; (rintro e w2 ⟨rfl, hm2⟩); have HM2 : Hid (Mod (fun _ => False) w w2) := Lib.hid (HM1.out.drew.trans hm2); have hm12 : Mod (fun _ => False) w1 w2 := ((Mod.refl (fun _ => False) w1).drew).trans hm2; have hr2 := hm12.heap HRB.out (fun f => f); have HRB2 := Lib.hid hr2; have y0 := cell_of_row hr2 0; have y1 := cell_of_row hr2 1; have y2 := cell_of_row hr2 2; have y3 := cell_of_row hr2 3; have yf0 := free_of_row hr2 0; have yf1 := free_of_row hr2 1; have yf2 := free_of_row hr2 2; have yf3 := free_of_row hr2 3; have zy := lt_of_block hr2; simp at y0 y1 y2 y3; clear hm2 hm12 hr2)))
  all_goals
    go_wp2
    refine bodyPost_ret (v := .agg #[.int .u32 (id : Int), .bool there, .slice ap np cp, .slice ah nh ch]) (by simp [results, Tryz.results23, go_sem, y0, y1, y2, y3]) rfl ?_
    have m := vxEnd_mod w2 w.heap.size (.int .u32 (id : Int)) (.bool there) (.slice ap np cp) (.slice ah nh ch)
    have mF : Mod (fun _ => False) w (vxEnd w2 w.heap.size (.int .u32 (id : Int)) (.bool there) (.slice ap np cp) (.slice ah nh ch)) := HM2.out.trans' m (fun i hi e => by omega)
    exact ⟨.slice ap np cp, .slice ah nh ch, rfl, mF, HVX.out.keep mF⟩
/-- What a vertex has, by the document. -/
theorem dvertex_any (g : Nat) (gv : Value) (l : List Vs) (id : Nat) (w : World) (hg : GrAt w g gv l) (hid : id < 4294967296) :
    Calls Tryz.prog 23 #[.pointer (some ⟨g, 0, none⟩), .int .u32 (id : Int)] w fun e w' => ∃ vp vh, e = .returned (vtxV (tellV (l.map Vs.x) id) vp vh) ∧ Mod (fun _ => False) w w' ∧ VRd w' vp vh (tellV (l.map Vs.x) id) := by
  unfold tellV
  cases hf : findV (l.map Vs.x) id with
  | none =>
    refine (dvertex_none g gv l id w hg hf).mono ?_
    rintro e w' ⟨rfl, m⟩
    exact ⟨.slice none 0 0, .slice none 0 0, rfl, m, ⟨⟨hid, by simp, by simp⟩, RdS.none _ _, RdS.none _ _⟩⟩
  | some x => exact dvertex_some g gv l id w hg x hf
set_option maxRecDepth 100000 in
set_option maxHeartbeats 4000000 in
theorem dids_any (g : Nat) (gv : Value) (l : List Vs) (w : World) (hg : GrAt w g gv l) (hlen : l.length ≤ 1000) :
    Calls Tryz.prog 26 #[.pointer (some ⟨g, 0, none⟩)] w fun e w' => ∃ v, e = .returned v ∧ SegN w w' v ((l.map Vs.x).map Vtx.id) := by
  have HL := Lib.hid hg.lst
  obtain ⟨a, c, rfl, hc1, hc2, -⟩ := hg.lst.row.shape
  have g0 := cell_of_row hg.box 0
  have zg := lt_of_block hg.box
  simp at g0
  obtain ⟨n, hn⟩ : ∃ n, n = l.length := ⟨_, rfl⟩
  have HN := Lib.hid hn
  rw [← hn] at HL g0 hc1 hlen
  have HLEN := Lib.hid hlen
  obtain ⟨i0, hi, hz0, hz1, hz2⟩ := info_parts infoU32
  have HI : Hid (Tryz.prog.info? 23 = some i0 ∧ i0.zero = some (.int .u32 0) ∧ i0.size = 1 ∧ i0.bytes = 4) := ⟨hi, hz0, hz1, hz2⟩
  clear hg hn hi hz0 hz1 hz2
  go_enter Tryz.func26, Tryz.ntmps26
  go_wp2
  clear g0 zg
  go_loopw [11, 3] (fun i u wr => ∃ k : Nat, i = .int .i64 (k : Int) ∧ k ≤ n ∧ SegN w wr u ((l.take k).map fun s => s.x.id)) (fun i _ _ => n - (intOf i).toNat)
  case atStart => exact ⟨0, rfl, Nat.zero_le _, SegN.nil (Mod.refl _ _)⟩
  case round =>
    obtain ⟨k, rfl, hk, hsn⟩ := hrel
    have HS := Lib.hid hsn
    have HSL : Hid (((l.take k).map fun s => s.x.id).length = k) := Lib.hid (by rw [List.length_map, List.length_take]; have := HN.out; omega)
    obtain ⟨au, cu, hcu, hcu2, hue⟩ : ∃ a c, k ≤ c ∧ c ≤ 9223372036854775807 ∧ _ = Value.slice a k c := by
      obtain ⟨a, c, e, h1, h2, _⟩ := hsn.seg.rdS.shape
      rw [HSL.out] at e h1
      exact ⟨a, c, h1, h2, e⟩
    subst hue
    clear hsn
    by_cases hkn : k < n
    · obtain ⟨s, hs⟩ : ∃ s, l[k]? = some s := ⟨_, List.getElem?_eq_getElem (by rw [← HN.out]; exact hkn)⟩
      obtain ⟨bl, offl, e0, hbl, p0, p1, p2, p3⟩ := HL.out.ent hs rfl
      subst e0
      replace p0 := HS.out.mod.cell p0
      replace p1 := HS.out.mod.cell p1
      replace p2 := HS.out.mod.cell p2
      replace p3 := HS.out.mod.cell p3
      have zbl : bl < wr.heap.size := Nat.lt_of_lt_of_le hbl HS.out.mod.size
      have HTK : Hid (((l.take (k + 1)).map fun s => s.x.id) = ((l.take k).map fun s => s.x.id) ++ [s.x.id]) := Lib.hid (by
        obtain ⟨h1, h2⟩ := List.getElem?_eq_some_iff.1 hs
        rw [List.take_succ_eq_append_getElem h1, h2, List.map_append]
        rfl)
      have hvs := HL.out.at hs
      clear hs hbl
      obtain ⟨⟨id, there, xs, ys⟩, vp, vh⟩ := s
      simp only at p0 p1 p2 p3 HTK hvs
      obtain ⟨ap, cp, hvp, -⟩ := hvs.props.shape
      obtain ⟨ah, ch, hvh, -⟩ := hvs.halves.shape
      simp only at hvp hvh
      obtain ⟨np, hnp⟩ : ∃ n, n = xs.length := ⟨_, rfl⟩
      obtain ⟨nh, hnh⟩ : ∃ n, n = ys.length := ⟨_, rfl⟩
      rw [← hnp] at hvp
      rw [← hnh] at hvh
      subst hvp hvh
      clear hvs hnp hnh
      have HS2 := Lib.hid (HS.out.keep ((Mod.refl (fun _ => False) wr).alloc (.cells #[.int .u32 (id : Int), .bool there, .slice ap np cp, .slice ah nh ch] 40)))
      obtain ⟨W2, hW2⟩ : ∃ W2, W2 = wr.alloc (.cells #[.int .u32 (id : Int), .bool there, .slice ap np cp, .slice ah nh ch] 40) := ⟨_, rfl⟩
      have hbx : W2.heap[wr.heap.size]? = some (.cells #[.int .u32 (id : Int), .bool there, .slice ap np cp, .slice ah nh ch] 40 (0, 0)) := by rw [hW2]; exact heap_alloc_new' _ _
      have q0 := cell_of_row hbx 0
      have zq := lt_of_block hbx
      simp at q0
      rw [← hW2] at HS2
      go_upto_region 5 with fail
      rw [← hW2]
      have HSG : Hid (Seg (W2.alloc (.cells #[.int .u32 (id : Int)] 23)) 23 1 (.slice au k cu) k (((l.take k).map fun s => s.x.id).map (keyV .u32))) := Lib.hid (by
        have h := (HS2.out.seg).alloc (.cells #[.int .u32 (id : Int)] 23)
        rwa [HSL.out] at h)
      have HSR := Lib.hid (src_cells (w := W2) rfl (size := 1) 23 #[.int .u32 (id : Int)] rfl (by simp [Value.oneCell']))
      clear hW2 hbx p0 p1 p2 p3 zbl
      go_wp2_with (at_builtin; go_loud (refine wpList_append_seg rfl (.tmp 15) (.tmp 18) 32 rfl i0 _ 1 4 Tryz.underlying32 HI.out.1 HI.out.2.1 HI.out.2.2.1 HI.out.2.2.2 rfl (by decide) rfl HSG.out _ 1 _ rfl HSR.out (by have := HLEN.out; unfold maxLen; omega) (by have := HLEN.out; omega) ?_; intro v3 w3 hs3 hg3 ho3; have H3 := Lib.hid (HS2.out.snoc (k := id) (by rw [HSL.out]; exact hs3) hg3 ho3); (obtain ⟨a3, c3, n3, rfl⟩ : ∃ a c n, v3 = .slice a n c := (by obtain ⟨a, c, e, _⟩ := hs3.shape; exact ⟨_, _, _, e⟩)); clear hs3 hg3 ho3))
      go_roundw
      case rel => exact ⟨k + 1, by go_num, by omega, by rw [HTK.out]; exact H3.out⟩
      case measure => simp [intOf]; omega
    · have HFN : Hid (SegN w wr (.slice au k cu) ((l.map Vs.x).map Vtx.id)) := Lib.hid (by
        have h := HS.out
        rw [List.take_of_length_le (by have := HN.out; omega)] at h
        simpa [Function.comp_def] using h)
      go_wp2
      go_ret
      exact ⟨_, rfl, HFN.out⟩
end Go.Proofs.YtbgjbikpenefoaaGreatDoor
