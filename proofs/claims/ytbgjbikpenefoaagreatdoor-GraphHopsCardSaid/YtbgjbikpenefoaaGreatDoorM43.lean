/- Lemmas for the claim, in one text: YLaid, G14, YBG. -/
import Derived.Test.YtbgjbikpenefoaaGreatDoorM14
import Derived.Test.YtbgjbikpenefoaaGreatDoorRows
import Derived.Test.YtbgjbikpenefoaaGreatDoorM08
import Derived.Test.YtbgjbikpenefoaaGreatDoorM02
import Derived.Test.YtbgjbikpenefoaaGreatDoorA
import Derived.Test.YtbgjbikpenefoaaGreatDoorM40
import Derived.Test.YtbgjbikpenefoaaGreatDoorM41
import Derived.Test.YtbgjbikpenefoaaGreatDoorM13
import Derived.Test.YtbgjbikpenefoaaGreatDoorY8
import Derived.LaidLaws
import Derived.LaidHandle
import Derived.Handed
import Derived.RowKit

/- YLaid: what is needed of it (by shake.py). -/

/- YLaid, as far as the seat goes. -/
/- What a row that lists errors.errorType gives a walk; a world that meets it. After the kit's worked Toyas row. -/
namespace Go.Proofs.YtbgjbikpenefoaaGreatDoor
open Go.RowKit
theorem laid_et : Tryz.prog.globalNamed "errors.errorType" = some 0 := by kernel_rfl
theorem laid_rt : (Tryz.prog.cutTypes.find? (·.1 == "internal/reflectlite.rtype")).map (·.2) = some 186 := by kernel_rfl
theorem laid_row : ((List.range Tryz.prog.types.size).filter fun t => Tryz.prog.rowNamed t [101, 114, 114, 111, 114]) = [112] := by kernel_rfl
theorem errT_of_laid {W : World} (h : laidMetH Tryz.prog [("errors.errorType", Rows.laid_errors_errorType)] W) : ErrT W := by
  have h' : laidMet Tryz.prog [] W ∧ handlesMet Tryz.prog [("errors.errorType", Rows.laid_errors_errorType)] W := h
  obtain ⟨name, u, ty, e1, e2, e3, e4, e5⟩ := h'.2 _ (List.mem_singleton.2 rfl)
  have en : name = [101, 114, 114, 111, 114] := (Option.some.inj e1).symm
  subst en
  obtain rfl := Option.some.inj (laid_rt.symm.trans e2)
  have hm : ty ∈ (List.range Tryz.prog.types.size).filter fun t => Tryz.prog.rowNamed t [101, 114, 114, 111, 114] := List.mem_filter.2 ⟨List.mem_range.2 e3, e4⟩
  rw [laid_row] at hm
  obtain rfl := List.mem_singleton.1 hm
  have hh : typeHandle Tryz.prog 112 = .pointer (some ⟨1, 112, none⟩) := by kernel_rfl
  rw [hh] at e5
  have h0 := World.var?_cell laid_et e5 0
  unfold ErrT
  simpa using h0
/-- A world that meets the condition. -/
noncomputable def laidWorld (os : Os) : World :=
  let w0 := World.holding Tryz.prog os ⟨#[], #[], []⟩
  { w0 with heap := w0.heap.modify 0 fun
      | .cells _ t frozen => .cells #[.iface 186 (.agg #[.pointer (some ⟨1, 112, none⟩)])] t frozen
      | o => o }
end Go.Proofs.YtbgjbikpenefoaaGreatDoor

/- G14: what is needed of it (by shake.py). -/

/- G14, as far as the seat goes. -/
/- gussetref03.SameNumbers, gussetref03.SameVertex, of two that are alike. -/
namespace Go.Proofs.YtbgjbikpenefoaaGreatDoor
set_option linter.unusedVariables false
open Go.RowKit
/-- The two boxes. -/
structure BoAt (w : World) (o o' : Array Value) (wr : World) : Prop where
  mod : Mod (fun _ => False) w wr
  one : wr.heap[w.heap.size]? = some (.cells o 40 (0, 0))
  two : wr.heap[w.heap.size + 1]? = some (.cells o' 40 (0, 0))
theorem BoAt.more {w wx wy : World} {o o' : Array Value} (h : BoAt w o o' wx) (m : Mod (fun _ => False) wx wy) : BoAt w o o' wy := ⟨h.mod.trans m, m.heap h.one (fun f => f), m.heap h.two (fun f => f)⟩
theorem BoAt.begin (w : World) (o o' : Array Value) : BoAt w o o' ((w.alloc (.cells o 40)).alloc (.cells o' 40)) :=
  ⟨((Mod.refl _ w).alloc _).alloc _, heap_alloc_old (heap_alloc_new' w _), by have := heap_alloc_new' (w.alloc (.cells o 40)) (.cells o' 40); simpa using this⟩
set_option maxRecDepth 100000 in
set_option maxHeartbeats 2000000 in
theorem vsame_yes (x : Vtx) (vp vh vp' vh' : Value) (w : World) (h1 : VRd w vp vh x) (h2 : VRd w vp' vh' x) :
    Calls Tryz.prog 22 #[vtxV x vp vh, vtxV x vp' vh'] w fun e w' => e = .returned (.bool true) ∧ Mod (fun _ => False) w w' := by
  obtain ⟨id, there, ps, hs⟩ := x
  have HP := Lib.hid h1.props
  have HH := Lib.hid h1.halves
  have HP2 := Lib.hid h2.props
  have HH2 := Lib.hid h2.halves
  simp only at HP HH HP2 HH2
  obtain ⟨ap, cp, rfl, hcp, hcp2, -⟩ := h1.props.shape
  obtain ⟨ah, ch, rfl, hch, hch2, -⟩ := h1.halves.shape
  obtain ⟨ap', cp', rfl, hcp', hcp2', -⟩ := h2.props.shape
  obtain ⟨ah', ch', rfl, hch', hch2', -⟩ := h2.halves.shape
  clear h1 h2
  simp only [vtxV] at *
  obtain ⟨np, hnp⟩ : ∃ n, n = ps.length := ⟨_, rfl⟩
  have HNP := Lib.hid hnp
  rw [← hnp] at HP HP2 hcp hcp' ⊢
  obtain ⟨nh, hnh⟩ : ∃ n, n = hs.length := ⟨_, rfl⟩
  have HNH := Lib.hid hnh
  rw [← hnh] at HH HH2 hch hch' ⊢
  clear hnp hnh
  have HB := Lib.hid (BoAt.begin w #[.int .u32 (id : Int), .bool there, .slice ap np cp, .slice ah nh ch] #[.int .u32 (id : Int), .bool there, .slice ap' np cp', .slice ah' nh ch'])
  go_enter Tryz.func22, Tryz.ntmps22
  go_wp2
  go_loopw [40] (fun i wr => ∃ k : Nat, i = .int .i64 k ∧ k ≤ np ∧ BoAt w #[.int .u32 (id : Int), .bool there, .slice ap np cp, .slice ah nh ch] #[.int .u32 (id : Int), .bool there, .slice ap' np cp', .slice ah' nh ch'] wr) (fun i _ => np - (intOf i).toNat)
  case atStart => exact ⟨0, rfl, Nat.zero_le _, HB.out⟩
  case round =>
    obtain ⟨k, rfl, hk, hm⟩ := hrel
    have HM := Lib.hid hm
    clear hm HB
    by_cases hkn : k < np
    · obtain ⟨x, hx⟩ : ∃ x, ps[k]? = some x := ⟨_, List.getElem?_eq_getElem (by rw [← HNP.out]; exact hkn)⟩
      obtain ⟨b, off, e1, hb, p0, p1, p2, p3⟩ := HP.out.ent2 hx rfl
      obtain ⟨b', off', e2, hb', q0, q1, q2, q3⟩ := HP2.out.ent2 hx rfl
      have d0 := cell_of_row HM.out.one 2
      have d1 := cell_of_row HM.out.two 2
      simp at d0 d1
      subst e1 e2
      have p0 : ∀ x : MW wr, x.w.cell? _ = some _ := fun x => x.cell (HM.out.mod.cell p0)
      have p1 : ∀ x : MW wr, x.w.cell? _ = some _ := fun x => x.cell (HM.out.mod.cell p1)
      have p2 : ∀ x : MW wr, x.w.cell? _ = some _ := fun x => x.cell (HM.out.mod.cell p2)
      have p3 : ∀ x : MW wr, x.w.cell? _ = some _ := fun x => x.cell (HM.out.mod.cell p3)
      have q0 : ∀ x : MW wr, x.w.cell? _ = some _ := fun x => x.cell (HM.out.mod.cell q0)
      have q1 : ∀ x : MW wr, x.w.cell? _ = some _ := fun x => x.cell (HM.out.mod.cell q1)
      have q2 : ∀ x : MW wr, x.w.cell? _ = some _ := fun x => x.cell (HM.out.mod.cell q2)
      have q3 : ∀ x : MW wr, x.w.cell? _ = some _ := fun x => x.cell (HM.out.mod.cell q3)
      have d0 : ∀ x : MW wr, x.w.cell? _ = some _ := fun x => x.cell d0
      have d1 : ∀ x : MW wr, x.w.cell? _ = some _ := fun x => x.cell d1
      clear hx hb hb'
      obtain ⟨key, ⟨vk, vn, vs⟩⟩ := x
      simp only at p0 p1 p2 p3 q0 q1 q2 q3
      go_wp2_with fail
      refine wp_region_quietM (by kernel_rfl) (by kernel_rfl) ?_
      repeat (go_big_quiet_step (fail))
      refine wpQuiet_nil ?_
      intro w3 hm3
      have M3 := Lib.hid (HM.out.more (MW.mod_of hm3))
      clear hm3 p0 p1 p2 p3 q0 q1 q2 q3 d0 d1
      go_wp2
      go_roundw
      case rel => exact ⟨k + 1, by go_num, by omega, M3.out⟩
      case measure => simp [intOf]; omega
    · have HB := Lib.hid HM.out
      have g3 := cell_of_row HM.out.one 3
      have g4 := cell_of_row HM.out.two 3
      simp at g3 g4
      go_wp2
      go_loopw [58] (fun i wr => ∃ k : Nat, i = .int .i64 k ∧ k ≤ nh ∧ BoAt w #[.int .u32 (id : Int), .bool there, .slice ap np cp, .slice ah nh ch] #[.int .u32 (id : Int), .bool there, .slice ap' np cp', .slice ah' nh ch'] wr) (fun i _ => nh - (intOf i).toNat)
      case atStart => exact ⟨0, rfl, Nat.zero_le _, HB.out⟩
      case round =>
        obtain ⟨k, rfl, hk, hm⟩ := hrel
        have HM := Lib.hid hm
        clear hm HB
        by_cases hkn : k < nh
        · obtain ⟨x, hx⟩ : ∃ x, hs[k]? = some x := ⟨_, List.getElem?_eq_getElem (by rw [← HNH.out]; exact hkn)⟩
          obtain ⟨b, off, e1, hb, p0, p1, p2, p3⟩ := HH.out.ent2 hx rfl
          obtain ⟨b', off', e2, hb', q0, q1, q2, q3⟩ := HH2.out.ent2 hx rfl
          have d0 := cell_of_row HM.out.one 3
          have d1 := cell_of_row HM.out.two 3
          simp at d0 d1
          subst e1 e2
          have p0 : ∀ x : MW wr, x.w.cell? _ = some _ := fun x => x.cell (HM.out.mod.cell p0)
          have p1 : ∀ x : MW wr, x.w.cell? _ = some _ := fun x => x.cell (HM.out.mod.cell p1)
          have p2 : ∀ x : MW wr, x.w.cell? _ = some _ := fun x => x.cell (HM.out.mod.cell p2)
          have p3 : ∀ x : MW wr, x.w.cell? _ = some _ := fun x => x.cell (HM.out.mod.cell p3)
          have q0 : ∀ x : MW wr, x.w.cell? _ = some _ := fun x => x.cell (HM.out.mod.cell q0)
          have q1 : ∀ x : MW wr, x.w.cell? _ = some _ := fun x => x.cell (HM.out.mod.cell q1)
          have q2 : ∀ x : MW wr, x.w.cell? _ = some _ := fun x => x.cell (HM.out.mod.cell q2)
          have q3 : ∀ x : MW wr, x.w.cell? _ = some _ := fun x => x.cell (HM.out.mod.cell q3)
          have d0 : ∀ x : MW wr, x.w.cell? _ = some _ := fun x => x.cell d0
          have d1 : ∀ x : MW wr, x.w.cell? _ = some _ := fun x => x.cell d1
          clear hx hb hb'
          obtain ⟨key, ⟨vk, vn, vs⟩⟩ := x
          simp only at p0 p1 p2 p3 q0 q1 q2 q3
          go_wp2_with fail
          refine wp_region_quietM (by kernel_rfl) (by kernel_rfl) ?_
          repeat (go_big_quiet_step (fail))
          refine wpQuiet_nil ?_
          intro w3 hm3
          have M3 := Lib.hid (HM.out.more (MW.mod_of hm3))
          clear hm3 p0 p1 p2 p3 q0 q1 q2 q3 d0 d1
          go_wp2
          go_roundw
          case rel => exact ⟨k + 1, by go_num, by omega, M3.out⟩
          case measure => simp [intOf]; omega
        · have HB := Lib.hid HM.out
          have g3 := cell_of_row HM.out.one 3
          have g4 := cell_of_row HM.out.two 3
          simp at g3 g4
          go_wp2
          go_ret
          exact ⟨rfl, HM.out.mod⟩
end Go.Proofs.YtbgjbikpenefoaaGreatDoor

/- YBG: what is needed of it (by shake.py). -/

/- YBG, as far as the seat goes. -/
/- A list of vertices that a law collects; operations as an argument; a transaction in the laws' words. (Printed by gen_gall.py.) -/
namespace Go.Proofs.YtbgjbikpenefoaaGreatDoor
set_option linter.unusedVariables false
set_option linter.unusedSimpArgs false
open Go.RowKit Go.Maps
/-- A list of vertices of one's own. -/
structure BfAt (w2 : World) (v : Value) (bl : List Vs) (wr : World) : Prop where
  mod : Mod (fun _ => False) w2 wr
  la : LOwn wr v bl
  oa : ∀ b, v.ownBlock = some b → w2.heap.size ≤ b
theorem BfAt.start (w2 : World) : BfAt w2 (.slice none 0 0) [] w2 := ⟨Mod.refl _ _, LOwn.nil _, fun b hb => by simp [Value.ownBlock] at hb⟩
theorem BfAt.keep {w2 wr wx : World} {v : Value} {bl : List Vs} (h : BfAt w2 v bl wr) (m : Mod (fun _ => False) wr wx) : BfAt w2 v bl wx := ⟨h.mod.trans m, h.la.mod m ⟨fun _ _ f => f, fun _ _ => ⟨fun _ _ f => f, fun _ _ f => f⟩⟩, h.oa⟩
theorem bf_snoc {w wy : World} {v v' : Value} {l : List Vs} {s : Vs} (h : LOwn w v l) (hv : VOwn w s) (hs : Seg wy 40 4 v' (l.length + 1) (vcells l ++ s.cells)) (hg : w.grownBy wy v.ownBlock) : LOwn wy v' (l ++ [s]) := own_snoc h hv hs hg
theorem BfAt.next {w2 w5 w3 : World} {v v3 : Value} {bl : List Vs} {s : Vs} (h : BfAt w2 v bl w5) (hv : VOwn w5 s) (hs : Seg w3 40 4 v3 (bl.length + 1) (vcells bl ++ s.cells)) (hg : w5.grownBy w3 v.ownBlock) (ho : v3.ownBlock = v.ownBlock ∨ v3.ownBlock = some w5.heap.size) : BfAt w2 v3 (bl ++ [s]) w3 := by
  refine ⟨h.mod.grown hg (fun b hb hlt => by have := h.oa b hb; omega), bf_snoc h.la hv hs hg, fun b hb => ?_⟩
  rcases ho with e | e
  · exact h.oa b (e ▸ hb)
  · rw [e] at hb; injection hb with hb
    have := h.mod.size; omega
theorem Kept.lrd {w w' : World} (h : Kept w w') {v : Value} {l : List Vs} (hr : LRd w v l) : LRd w' v l := ⟨h.rds hr.row, fun s hs => h.vrd (hr.each s hs)⟩
/-- Operations that come in. -/
def InOps (W : World) (v : Value) : Prop := ∃ l : List Opr, ORd W v l ∧ l.length * 48 ≤ 140737488355328
section
open Go.ChangeShapes Go.WideShapes Go.ChangeAt
variable {H : Type} {enc : TypeId × Value → H} {W : World} {base : Nat} {v : Value} {d : DataW H} {p : List MemPlace}
set_option maxRecDepth 100000 in
theorem in_ops (hv : Value.okWide Tryz.prog W .any base 27 v) (h : DataW.Trod enc Tryz.prog W 0 (fun _ => true) true 27 v d p) (hs : okW 27 d) : InOps W v := by
  obtain ⟨a0, len0, cap0, rfl⟩ := okWide_slice Tryz.underlying27 hv
  obtain ⟨fuel, hf⟩ := h
  obtain ⟨l, rl, gl, zl⟩ := in_slice Tryz.underlying27 (size := 7) (by kernel_rfl) (by omega) Opr.cells opr_cells Opr.Fits in_op (u := .slice a0 len0 cap0) (y := (d, p)) (by simpa [Value.cells] using hf) hs
  have bo : Tryz.prog.bytesOf 71 = 48 := by kernel_rfl
  rw [bo] at zl
  exact ⟨l, ⟨rl, gl⟩, Nat.le_trans zl (by decide)⟩
end
theorem ocells_take (l : List Opr) (k : Nat) : (ocells l).take (k * 7) = ocells (l.take k) := by
  induction l generalizing k with
  | nil => simp [ocells]
  | cons s r ih =>
    cases k with
    | zero => simp [ocells]
    | succ k =>
      have : ocells (s :: r) = s.cells ++ ocells r := by simp [ocells]
      have h2 : ocells (s :: r.take k) = s.cells ++ ocells (r.take k) := by simp [ocells]
      rw [this, show (k + 1) * 7 = s.cells.length + k * 7 by rw [opr_cells s]; omega, List.take_length_add_append, List.take_succ_cons, h2, ih]
/-- The first operations of a list. -/
theorem ORd.to {w : World} {v : Value} {l : List Opr} (h : ORd w v l) {k : Nat} (hk : k ≤ l.length) (kk : IntKind) :
    ∃ a c, (∀ wx, (Instr.slice 27 v none (some (.int kk k)) none).run Tryz.prog wx = .ok (.slice a k c) wx) ∧ ORd w (.slice a k c) (l.take k) := by
  obtain ⟨v', h1, h2, _⟩ := h.row.cut (by omega) (lo := 0) (hi := k) (Nat.zero_le _) hk Tryz.underlying27 (e := 71) (by kernel_rfl) kk kk none (some (.int kk k)) (.inr ⟨rfl, rfl⟩) (.inl rfl)
  obtain ⟨a, c, rfl, -⟩ := h2.shape
  refine ⟨a, c, by simpa using h1, ?_, fun o ho => h.fits o (List.mem_of_mem_take ho)⟩
  rw [ocells_take] at h2
  simpa [List.length_take, Nat.min_eq_left hk] using h2
/-- A transaction by itself. -/
def txR (ops : List Opr) : Rqt := ⟨1, ops, 0, 0, 0⟩
theorem doG_tx_ok {L : Gr} {ops : List Opr} {p : Gr × List Val} (hc : checkR (txR ops) = 0) (h : okRun L ops = some p) : doG L (txR ops) = (p.1, ⟨0, 0, p.2, []⟩) := by
  unfold doG
  rw [if_neg (by simpa using hc)]
  simp only [txR, if_true]
  rw [h]
theorem doG_tx_no {L : Gr} {ops : List Opr} (hc : checkR (txR ops) = 0) (h : okRun L ops = none) : doG L (txR ops) = (L, ⟨(failG L 0 ops).1, (failG L 0 ops).2, [], []⟩) := by
  unfold doG
  rw [if_neg (by simpa using hc)]
  simp only [txR, if_true]
  rw [h]
theorem tx_parts {ops : List Opr} (hc : checkR (txR ops) = 0) : 1 ≤ ops.length ∧ ops.length ≤ 6 ∧ ∀ o ∈ ops, opOK o = true := by
  unfold checkR txR at hc
  simp only at hc
  rw [if_neg (by omega), if_pos trivial] at hc
  by_cases h1 : ops.length < 1 ∨ 6 < ops.length
  · rw [if_pos h1] at hc; cases hc
  · rw [if_neg h1] at hc
    by_cases h2 : ops.all opOK = false
    · rw [if_pos h2] at hc; cases hc
    · refine ⟨by omega, by omega, fun o ho => ?_⟩
      have : ops.all opOK = true := by simpa using h2
      exact List.all_eq_true.1 this o ho
theorem tx_good {ops : List Opr} (h1 : 1 ≤ ops.length) (h6 : ops.length ≤ 6) (ho : ∀ o ∈ ops, opOK o = true) : checkR (txR ops) = 0 := by
  unfold checkR txR
  simp only
  rw [if_neg (by omega), if_pos trivial, if_neg (by omega), if_neg (by rw [List.all_eq_true.2 ho]; simp), if_neg (by simp)]
/-- A transaction that is refused: where; and what stands ahead of that place is taken. -/
theorem tx_cut {L : Gr} {ops : List Opr} (hc : checkR (txR ops) = 0) (h : okRun L ops = none) : ∃ k z, k < ops.length ∧ z ≠ 0 ∧ failG L 0 ops = (z, k) ∧ (1 ≤ k → checkR (txR (ops.take k)) = 0 ∧ ∃ p, okRun L (ops.take k) = some p) := by
  obtain ⟨k, h1, h2, h3, p, h4⟩ := fail_cut ops L [] 0 h
  refine ⟨k, (failG L 0 ops).1, h1, h3, by rw [Prod.ext_iff]; exact ⟨rfl, by rw [h2]; omega⟩, fun hk => ⟨?_, p, h4⟩⟩
  obtain ⟨_, h6, ho⟩ := tx_parts hc
  exact tx_good (by rw [List.length_take]; omega) (by rw [List.length_take]; omega) (fun o hm => ho o (List.mem_of_mem_take hm))
end Go.Proofs.YtbgjbikpenefoaaGreatDoor
