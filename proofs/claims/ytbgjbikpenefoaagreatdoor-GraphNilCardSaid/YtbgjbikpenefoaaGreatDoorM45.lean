/- Lemmas for the claim, in one text: G1, G14, TD, PA. -/
import Derived.Test.YtbgjbikpenefoaaGreatDoorM08
import Derived.Test.YtbgjbikpenefoaaGreatDoorT13
import Derived.Test.YtbgjbikpenefoaaGreatDoorM10
import Derived.Test.YtbgjbikpenefoaaGreatDoorM02
import Derived.Test.YtbgjbikpenefoaaGreatDoorR14
import Derived.Test.YtbgjbikpenefoaaGreatDoorM20

/- G1: what is needed of it (by shake.py). -/

/- G1, as far as the seat goes. -/
/- Two tallies, each of its own; a vertex that lies at the bottom. -/
namespace Go.Proofs.YtbgjbikpenefoaaGreatDoor
set_option linter.unusedVariables false
open Go.RowKit Go.Maps
section
variable {w wx wy : World} {g1 h1 n1 g2 h2 n2 : Nat} {H1 H2 H' : Names} {m m' : Nat}
end
section
variable {w wx wy : World} {o : Array Value} {g1 h1 n1 g2 h2 n2 : Nat} {H1 H2 H' : Names} {m m' : Nat}
end
def gone (id : Nat) : Vtx := ⟨id, false, [], []⟩
end Go.Proofs.YtbgjbikpenefoaaGreatDoor

/- G14: what is needed of it (by shake.py). -/

/- G14, as far as the seat goes. -/
/- gussetref03.SameNumbers, gussetref03.SameVertex, of two that are alike. -/
namespace Go.Proofs.YtbgjbikpenefoaaGreatDoor
set_option linter.unusedVariables false
open Go.RowKit
/-- The two boxes. -/
structure BoAt (w : World) (o o' : Array Value) (wr : World) : Prop where
  mod : Mod (fun _ => False) w wr
  one : wr.heap[w.heap.size]? = some (.cells o 40 (0, 0))
  two : wr.heap[w.heap.size + 1]? = some (.cells o' 40 (0, 0))
theorem BoAt.more {w wx wy : World} {o o' : Array Value} (h : BoAt w o o' wx) (m : Mod (fun _ => False) wx wy) : BoAt w o o' wy := ⟨h.mod.trans m, m.heap h.one (fun f => f), m.heap h.two (fun f => f)⟩
theorem BoAt.begin (w : World) (o o' : Array Value) : BoAt w o o' ((w.alloc (.cells o 40)).alloc (.cells o' 40)) :=
  ⟨((Mod.refl _ w).alloc _).alloc _, heap_alloc_old (heap_alloc_new' w _), by have := heap_alloc_new' (w.alloc (.cells o 40)) (.cells o' 40); simpa using this⟩
set_option maxRecDepth 100000 in
set_option maxHeartbeats 2000000 in
theorem vsame_yes (x : Vtx) (vp vh vp' vh' : Value) (w : World) (h1 : VRd w vp vh x) (h2 : VRd w vp' vh' x) :
    Calls Tryz.prog 22 #[vtxV x vp vh, vtxV x vp' vh'] w fun e w' => e = .returned (.bool true) ∧ Mod (fun _ => False) w w' := by
  obtain ⟨id, there, ps, hs⟩ := x
  have HP := Lib.hid h1.props
  have HH := Lib.hid h1.halves
  have HP2 := Lib.hid h2.props
  have HH2 := Lib.hid h2.halves
  simp only at HP HH HP2 HH2
  obtain ⟨ap, cp, rfl, hcp, hcp2, -⟩ := h1.props.shape
  obtain ⟨ah, ch, rfl, hch, hch2, -⟩ := h1.halves.shape
  obtain ⟨ap', cp', rfl, hcp', hcp2', -⟩ := h2.props.shape
  obtain ⟨ah', ch', rfl, hch', hch2', -⟩ := h2.halves.shape
  clear h1 h2
  simp only [vtxV] at *
  obtain ⟨np, hnp⟩ : ∃ n, n = ps.length := ⟨_, rfl⟩
  have HNP := Lib.hid hnp
  rw [← hnp] at HP HP2 hcp hcp' ⊢
  obtain ⟨nh, hnh⟩ : ∃ n, n = hs.length := ⟨_, rfl⟩
  have HNH := Lib.hid hnh
  rw [← hnh] at HH HH2 hch hch' ⊢
  clear hnp hnh
  have HB := Lib.hid (BoAt.begin w #[.int .u32 (id : Int), .bool there, .slice ap np cp, .slice ah nh ch] #[.int .u32 (id : Int), .bool there, .slice ap' np cp', .slice ah' nh ch'])
  go_enter Tryz.func22, Tryz.ntmps22
  go_wp2
  go_loopw [40] (fun i wr => ∃ k : Nat, i = .int .i64 k ∧ k ≤ np ∧ BoAt w #[.int .u32 (id : Int), .bool there, .slice ap np cp, .slice ah nh ch] #[.int .u32 (id : Int), .bool there, .slice ap' np cp', .slice ah' nh ch'] wr) (fun i _ => np - (intOf i).toNat)
  case atStart => exact ⟨0, rfl, Nat.zero_le _, HB.out⟩
  case round =>
    obtain ⟨k, rfl, hk, hm⟩ := hrel
    have HM := Lib.hid hm
    clear hm HB
    by_cases hkn : k < np
    · obtain ⟨x, hx⟩ : ∃ x, ps[k]? = some x := ⟨_, List.getElem?_eq_getElem (by rw [← HNP.out]; exact hkn)⟩
      obtain ⟨b, off, e1, hb, p0, p1, p2, p3⟩ := HP.out.ent2 hx rfl
      obtain ⟨b', off', e2, hb', q0, q1, q2, q3⟩ := HP2.out.ent2 hx rfl
      have d0 := cell_of_row HM.out.one 2
      have d1 := cell_of_row HM.out.two 2
      simp at d0 d1
      subst e1 e2
      have p0 : ∀ x : MW wr, x.w.cell? _ = some _ := fun x => x.cell (HM.out.mod.cell p0)
      have p1 : ∀ x : MW wr, x.w.cell? _ = some _ := fun x => x.cell (HM.out.mod.cell p1)
      have p2 : ∀ x : MW wr, x.w.cell? _ = some _ := fun x => x.cell (HM.out.mod.cell p2)
      have p3 : ∀ x : MW wr, x.w.cell? _ = some _ := fun x => x.cell (HM.out.mod.cell p3)
      have q0 : ∀ x : MW wr, x.w.cell? _ = some _ := fun x => x.cell (HM.out.mod.cell q0)
      have q1 : ∀ x : MW wr, x.w.cell? _ = some _ := fun x => x.cell (HM.out.mod.cell q1)
      have q2 : ∀ x : MW wr, x.w.cell? _ = some _ := fun x => x.cell (HM.out.mod.cell q2)
      have q3 : ∀ x : MW wr, x.w.cell? _ = some _ := fun x => x.cell (HM.out.mod.cell q3)
      have d0 : ∀ x : MW wr, x.w.cell? _ = some _ := fun x => x.cell d0
      have d1 : ∀ x : MW wr, x.w.cell? _ = some _ := fun x => x.cell d1
      clear hx hb hb'
      obtain ⟨key, ⟨vk, vn, vs⟩⟩ := x
      simp only at p0 p1 p2 p3 q0 q1 q2 q3
      go_wp2_with fail
      refine wp_region_quietM (by kernel_rfl) (by kernel_rfl) ?_
      repeat (go_big_quiet_step (fail))
      refine wpQuiet_nil ?_
      intro w3 hm3
      have M3 := Lib.hid (HM.out.more (MW.mod_of hm3))
      clear hm3 p0 p1 p2 p3 q0 q1 q2 q3 d0 d1
      go_wp2
      go_roundw
      case rel => exact ⟨k + 1, by go_num, by omega, M3.out⟩
      case measure => simp [intOf]; omega
    · have HB := Lib.hid HM.out
      have g3 := cell_of_row HM.out.one 3
      have g4 := cell_of_row HM.out.two 3
      simp at g3 g4
      go_wp2
      go_loopw [58] (fun i wr => ∃ k : Nat, i = .int .i64 k ∧ k ≤ nh ∧ BoAt w #[.int .u32 (id : Int), .bool there, .slice ap np cp, .slice ah nh ch] #[.int .u32 (id : Int), .bool there, .slice ap' np cp', .slice ah' nh ch'] wr) (fun i _ => nh - (intOf i).toNat)
      case atStart => exact ⟨0, rfl, Nat.zero_le _, HB.out⟩
      case round =>
        obtain ⟨k, rfl, hk, hm⟩ := hrel
        have HM := Lib.hid hm
        clear hm HB
        by_cases hkn : k < nh
        · obtain ⟨x, hx⟩ : ∃ x, hs[k]? = some x := ⟨_, List.getElem?_eq_getElem (by rw [← HNH.out]; exact hkn)⟩
          obtain ⟨b, off, e1, hb, p0, p1, p2, p3⟩ := HH.out.ent2 hx rfl
          obtain ⟨b', off', e2, hb', q0, q1, q2, q3⟩ := HH2.out.ent2 hx rfl
          have d0 := cell_of_row HM.out.one 3
          have d1 := cell_of_row HM.out.two 3
          simp at d0 d1
          subst e1 e2
          have p0 : ∀ x : MW wr, x.w.cell? _ = some _ := fun x => x.cell (HM.out.mod.cell p0)
          have p1 : ∀ x : MW wr, x.w.cell? _ = some _ := fun x => x.cell (HM.out.mod.cell p1)
          have p2 : ∀ x : MW wr, x.w.cell? _ = some _ := fun x => x.cell (HM.out.mod.cell p2)
          have p3 : ∀ x : MW wr, x.w.cell? _ = some _ := fun x => x.cell (HM.out.mod.cell p3)
          have q0 : ∀ x : MW wr, x.w.cell? _ = some _ := fun x => x.cell (HM.out.mod.cell q0)
          have q1 : ∀ x : MW wr, x.w.cell? _ = some _ := fun x => x.cell (HM.out.mod.cell q1)
          have q2 : ∀ x : MW wr, x.w.cell? _ = some _ := fun x => x.cell (HM.out.mod.cell q2)
          have q3 : ∀ x : MW wr, x.w.cell? _ = some _ := fun x => x.cell (HM.out.mod.cell q3)
          have d0 : ∀ x : MW wr, x.w.cell? _ = some _ := fun x => x.cell d0
          have d1 : ∀ x : MW wr, x.w.cell? _ = some _ := fun x => x.cell d1
          clear hx hb hb'
          obtain ⟨key, ⟨vk, vn, vs⟩⟩ := x
          simp only at p0 p1 p2 p3 q0 q1 q2 q3
          go_wp2_with fail
          refine wp_region_quietM (by kernel_rfl) (by kernel_rfl) ?_
          repeat (go_big_quiet_step (fail))
          refine wpQuiet_nil ?_
          intro w3 hm3
          have M3 := Lib.hid (HM.out.more (MW.mod_of hm3))
          clear hm3 p0 p1 p2 p3 q0 q1 q2 q3 d0 d1
          go_wp2
          go_roundw
          case rel => exact ⟨k + 1, by go_num, by omega, M3.out⟩
          case measure => simp [intOf]; omega
        · have HB := Lib.hid HM.out
          have g3 := cell_of_row HM.out.one 3
          have g4 := cell_of_row HM.out.two 3
          simp at g3 g4
          go_wp2
          go_ret
          exact ⟨rfl, HM.out.mod⟩
end Go.Proofs.YtbgjbikpenefoaaGreatDoor

/- TD: what is needed of it (by shake.py). -/

/- TD, as far as the seat goes. -/
/- T14, T15 in one. -/
/- gussetref03.DocPut of no graph; gussetlaw12.GhostNil. -/
namespace Go.Proofs.YtbgjbikpenefoaaGreatDoor
set_option linter.unusedVariables false
open Go.RowKit
def nilC (b : Bool) : Int := if b then 6 else 3
set_option maxRecDepth 100000 in
theorem docput_nil (x : Vtx) (vp vh : Value) (w : World) (hx : VRd w vp vh x) (hz : x.props.length + x.halves.length < 4611686018427387904) :
    Calls Tryz.prog 32 #[.pointer none, vtxV x vp vh] w fun e w' => e = .returned (.int .i64 (nilC x.right)) ∧ Mod (fun _ => False) w w' := by
  have HR := Lib.hid (fun (w1 : World) (m : Mod (fun _ => False) w w1) => dright_any x vp vh w1 (hx.keep m) hz)
  clear hx hz
  simp only [vtxV] at HR ⊢
  generalize x.right = r at HR ⊢
  generalize x.id = id at HR ⊢
  generalize x.there = there at HR ⊢
  cases r
  · go_enter Tryz.func32, Tryz.ntmps32
    go_wp2_with (go_at_call 50; refine (HR.out _ (by first | exact Mod.refl _ _ | exact (Mod.refl _ _).alloc _)).mono ?_; (rintro e w1 ⟨rfl, hm1⟩); have M1 : Hid (Mod (fun _ => False) w w1) := (by first | exact hm1 | exact ((Mod.refl _ _).alloc _).trans hm1); clear hm1)
    go_ret
    exact ⟨rfl, M1.out⟩
  · go_enter Tryz.func32, Tryz.ntmps32
    go_wp2_with (go_at_call 50; refine (HR.out _ (by first | exact Mod.refl _ _ | exact (Mod.refl _ _).alloc _)).mono ?_; (rintro e w1 ⟨rfl, hm1⟩); have M1 : Hid (Mod (fun _ => False) w w1) := (by first | exact hm1 | exact ((Mod.refl _ _).alloc _).trans hm1); clear hm1)
    go_ret
    exact ⟨rfl, M1.out⟩
end Go.Proofs.YtbgjbikpenefoaaGreatDoor
/- A vertex that comes in, read; GhostNil on what comes in. -/
namespace Go.Proofs.YtbgjbikpenefoaaGreatDoor
set_option linter.unusedVariables false
open Go.ChangeShapes Go.WideShapes Go.ChangeAt Go.RowKit
def InVtx (W : World) (v : Value) : Prop := ∃ x vp vh, v = vtxV x vp vh ∧ VRd W vp vh x ∧ Slim x
section
variable {H : Type} {enc : TypeId × Value → H} {W : World} {base : Nat} {v : Value} {d : DataW H} {p : List MemPlace}
set_option maxRecDepth 100000 in
theorem in_vertex (hv : Value.okWide Tryz.prog W .any base 40 v) (h : DataW.Trod enc Tryz.prog W 0 (fun _ => true) true 40 v d p) (hs : okW 40 d) : InVtx W v := by
  obtain ⟨cs, rfl, hl⟩ := okWide_struct Tryz.underlying40 hv
  obtain ⟨fuel, hf⟩ := h
  have hc : Tryz.prog.cellsOf 40 = 4 := by kernel_rfl
  obtain ⟨s, e, g⟩ := in_vtx fuel cs.toList (d, p) (by have := hl; simp only [hc] at this; simpa using this) (by simpa [Value.cells] using hf) hs
  refine ⟨s.x, s.vp, s.vh, ?_, g.1, g.2⟩
  have : cs = s.cells.toArray := by rw [← e]
  rw [this]
  rfl
end
end Go.Proofs.YtbgjbikpenefoaaGreatDoor

/- PA: what is needed of it (by shake.py). -/

/- PA, as far as the seat goes. -/
/- P1, P2 in one. -/
/- GhostPairs: both sides' counts come to the same (plain). -/
namespace Go.Proofs.YtbgjbikpenefoaaGreatDoor
set_option linter.unusedVariables false
set_option linter.unusedSimpArgs false
end Go.Proofs.YtbgjbikpenefoaaGreatDoor
/- GhostPairs: what comes in; requests one behind the other; a graph's vertices in two parts. -/
namespace Go.Proofs.YtbgjbikpenefoaaGreatDoor
set_option linter.unusedVariables false
set_option linter.unusedSimpArgs false
open Go.RowKit Go.ChangeShapes Go.WideShapes Go.ChangeAt
/-- A request as it lies in a list. -/
structure Qs where
  r : Rqt
  vo : Value
def Qs.cells (q : Qs) : List Value := [.int .u8 (q.r.kind : Int), q.vo, .int .u32 (q.r.v : Int), .int .i64 q.r.k, .int .i64 q.r.dest]
/-- What is known of a request's parts and size. -/
structure Qs.Small (q : Qs) : Prop where
  fits : q.r.Fits
  size : q.r.ops.length * 48 ≤ 140737488355328
structure QRd (w : World) (v : Value) (l : List Qs) : Prop where
  row : RdS w 5 v l.length (l.flatMap Qs.cells)
  each : ∀ q ∈ l, ORd w q.vo q.r.ops
  small : ∀ q ∈ l, q.Small
theorem QRd.keep {w w' : World} {v : Value} {l : List Qs} (h : QRd w v l) (m : Mod (fun _ => False) w w') : QRd w' v l := ⟨h.row.keep m, fun q hq => (h.each q hq).keep m, h.small⟩
theorem QRd.ent {w : World} {v : Value} {l : List Qs} (h : QRd w v l) {i : Nat} {x : Qs} (hi : l[i]? = some x) {a : Option Addr} {n c : Nat} (e : v = .slice a n c) :
    ∃ b off, a = some ⟨b, off, none⟩ ∧ b < w.heap.size ∧ w.cell? ⟨b, off + i * 5, none⟩ = some (.int .u8 (x.r.kind : Int)) ∧ w.cell? ⟨b, off + i * 5 + 1, none⟩ = some x.vo ∧ w.cell? ⟨b, off + i * 5 + 2, none⟩ = some (.int .u32 (x.r.v : Int)) ∧ w.cell? ⟨b, off + i * 5 + 3, none⟩ = some (.int .i64 x.r.k) ∧ w.cell? ⟨b, off + i * 5 + 4, none⟩ = some (.int .i64 x.r.dest) := by
  have g := fun j hj => flat_get Qs.cells (fun _ => rfl) l i j x hi (show j < 5 from hj)
  obtain ⟨a', c', e', -⟩ := h.row.shape
  rw [e] at e'
  injection e' with e1 e2 e3
  rw [e2] at e
  have k : ∀ j u, j < 5 → x.cells[j]? = some u → ∃ b off, a = some ⟨b, off, none⟩ ∧ b < w.heap.size ∧ w.cell? ⟨b, off + (i * 5 + j), none⟩ = some u := fun j u hj hu => h.row.cell a c e (i * 5 + j) u (by rw [g j hj]; exact hu)
  obtain ⟨b, off, ea, hb, h0⟩ := k 0 _ (by omega) rfl
  have r : ∀ j u, j < 5 → x.cells[j]? = some u → w.cell? ⟨b, off + (i * 5 + j), none⟩ = some u := fun j u hj hu => by
    obtain ⟨b1, off1, ea1, _, h1⟩ := k j u hj hu
    rw [ea] at ea1
    injection ea1 with e1; injection e1 with e1 e2
    subst e1 e2
    exact h1
  refine ⟨b, off, ea, hb, h0, ?_, ?_, ?_, ?_⟩
  · rw [Nat.add_assoc]; exact r 1 _ (by omega) rfl
  · rw [Nat.add_assoc]; exact r 2 _ (by omega) rfl
  · rw [Nat.add_assoc]; exact r 3 _ (by omega) rfl
  · rw [Nat.add_assoc]; exact r 4 _ (by omega) rfl
instance : Inhabited Opr := ⟨⟨0, 0, 0, 0, noVal⟩⟩
instance : Inhabited Qs := ⟨⟨⟨0, [], 0, 0, 0⟩, .slice none 0 0⟩⟩
section
variable {H : Type} {enc : TypeId × Value → H} {W : World} {base : Nat} {v : Value} {d : DataW H} {p : List MemPlace}
set_option maxRecDepth 100000 in
theorem in_op (n : Nat) (cs : List Value) (y : DataW H × List MemPlace) (hl : cs.length = 7) (h : DataW.trod enc Tryz.prog W 0 (fun _ => true) true n 71 cs = some y) (hw : okW 71 y.1) : ∃ x : Opr, cs = x.cells ∧ x.Fits := by
  obtain ⟨xs, n', _, _, _, hlen, hf⟩ := DataW.trod_struct Tryz.underlying71 h
  match cs, hl with
  | [c0, c1, c2, c3, c4, c5, c6], _ =>
    have c8 : Tryz.prog.cellsOf 5 = 1 := by kernel_rfl
    have cu : Tryz.prog.cellsOf 23 = 1 := by kernel_rfl
    have cv : Tryz.prog.cellsOf 44 = 3 := by kernel_rfl
    match xs, hlen with
    | [y0, y1, y2, y3, y4], _ =>
      have h0 : DataW.trod enc Tryz.prog W 0 (fun _ => true) true n' 5 ((List.drop 0 [c0, c1, c2, c3, c4, c5, c6]).take (Tryz.prog.cellsOf 5)) = some y0 := hf 0 _ rfl
      have h1 : DataW.trod enc Tryz.prog W 0 (fun _ => true) true n' 23 ((List.drop 1 [c0, c1, c2, c3, c4, c5, c6]).take (Tryz.prog.cellsOf 23)) = some y1 := hf 1 _ rfl
      have h2 : DataW.trod enc Tryz.prog W 0 (fun _ => true) true n' 23 ((List.drop 2 [c0, c1, c2, c3, c4, c5, c6]).take (Tryz.prog.cellsOf 23)) = some y2 := hf 2 _ rfl
      have h3 : DataW.trod enc Tryz.prog W 0 (fun _ => true) true n' 5 ((List.drop 3 [c0, c1, c2, c3, c4, c5, c6]).take (Tryz.prog.cellsOf 5)) = some y3 := hf 3 _ rfl
      have h4 : DataW.trod enc Tryz.prog W 0 (fun _ => true) true n' 44 ((List.drop 4 [c0, c1, c2, c3, c4, c5, c6]).take (Tryz.prog.cellsOf 44)) = some y4 := hf 4 _ rfl
      simp only [c8, cu, cv, List.drop_zero, List.take_succ_cons, List.take_zero, List.drop_succ_cons] at h0 h1 h2 h3 h4
      obtain ⟨a0, e0, _, w0⟩ := DataW.trod_int Tryz.underlying5 h0
      obtain ⟨a1, e1, _, w1⟩ := DataW.trod_int Tryz.underlying23 h1
      obtain ⟨a2, e2, _, w2⟩ := DataW.trod_int Tryz.underlying23 h2
      obtain ⟨a3, e3, _, w3⟩ := DataW.trod_int Tryz.underlying5 h3
      obtain ⟨v, e4, hv⟩ := in_val n' _ _ rfl h4
      simp only [List.cons.injEq, and_true] at e0 e1 e2 e3 e4
      have b0 := bounds_u8 w0
      have b1 := bounds_u32 w1
      have b2 := bounds_u32 w2
      have b3 := bounds_u8 w3
      obtain ⟨k0, rfl⟩ := Int.eq_ofNat_of_zero_le b0.1
      obtain ⟨k1, rfl⟩ := Int.eq_ofNat_of_zero_le b1.1
      obtain ⟨k2, rfl⟩ := Int.eq_ofNat_of_zero_le b2.1
      obtain ⟨k3, rfl⟩ := Int.eq_ofNat_of_zero_le b3.1
      obtain ⟨rfl, rfl, rfl⟩ := e4
      subst e0 e1 e2 e3
      exact ⟨⟨k0, k1, k2, k3, v⟩, rfl, by simp only; omega, by simp only; omega, by simp only; omega, by simp only; omega, hv⟩
set_option maxRecDepth 100000 in
theorem in_req (n : Nat) (cs : List Value) (y : DataW H × List MemPlace) (hl : cs.length = 5) (h : DataW.trod enc Tryz.prog W 0 (fun _ => true) true n 29 cs = some y) (hw : okW 29 y.1) : ∃ q : Qs, cs = q.cells ∧ ORd W q.vo q.r.ops ∧ q.Small := by
  obtain ⟨xs, n', _, hx, _, hlen, hf⟩ := DataW.trod_struct Tryz.underlying29 h
  match cs, hl with
  | [c0, c1, c2, c3, c4], _ =>
    have c8 : Tryz.prog.cellsOf 5 = 1 := by kernel_rfl
    have co : Tryz.prog.cellsOf 27 = 1 := by kernel_rfl
    have cu : Tryz.prog.cellsOf 23 = 1 := by kernel_rfl
    have ci : Tryz.prog.cellsOf 3 = 1 := by kernel_rfl
    match xs, hlen with
    | [y0, y1, y2, y3, y4], _ =>
      have h0 : DataW.trod enc Tryz.prog W 0 (fun _ => true) true n' 5 ((List.drop 0 [c0, c1, c2, c3, c4]).take (Tryz.prog.cellsOf 5)) = some y0 := hf 0 _ rfl
      have h1 : DataW.trod enc Tryz.prog W 0 (fun _ => true) true n' 27 ((List.drop 1 [c0, c1, c2, c3, c4]).take (Tryz.prog.cellsOf 27)) = some y1 := hf 1 _ rfl
      have h2 : DataW.trod enc Tryz.prog W 0 (fun _ => true) true n' 23 ((List.drop 2 [c0, c1, c2, c3, c4]).take (Tryz.prog.cellsOf 23)) = some y2 := hf 2 _ rfl
      have h3 : DataW.trod enc Tryz.prog W 0 (fun _ => true) true n' 3 ((List.drop 3 [c0, c1, c2, c3, c4]).take (Tryz.prog.cellsOf 3)) = some y3 := hf 3 _ rfl
      have h4 : DataW.trod enc Tryz.prog W 0 (fun _ => true) true n' 3 ((List.drop 4 [c0, c1, c2, c3, c4]).take (Tryz.prog.cellsOf 3)) = some y4 := hf 4 _ rfl
      simp only [c8, co, cu, ci, List.drop_zero, List.take_succ_cons, List.take_zero, List.drop_succ_cons] at h0 h1 h2 h3 h4
      have hy : y.1 = .agg ([y0, y1, y2, y3, y4].map (·.1)) := by rw [hx]
      rw [hy] at hw
      have w1 : okW 27 y1.1 := okW_part Tryz.underlying29 hw (j := 1) rfl rfl
      obtain ⟨a0, e0, _, u0⟩ := DataW.trod_int Tryz.underlying5 h0
      obtain ⟨a2, e2, _, u2⟩ := DataW.trod_int Tryz.underlying23 h2
      obtain ⟨a3, e3, _, u3⟩ := DataW.trod_int Tryz.underlying3 h3
      obtain ⟨a4, e4, _, u4⟩ := DataW.trod_int Tryz.underlying3 h4
      obtain ⟨os, ro, go, zo⟩ := in_slice Tryz.underlying27 (size := 7) (by kernel_rfl) (by omega) Opr.cells opr_cells Opr.Fits in_op h1 w1
      simp only [List.cons.injEq, and_true] at e0 e2 e3 e4
      have b0 := bounds_u8 u0
      have b2 := bounds_u32 u2
      have b3 := bounds_i64 u3
      have b4 := bounds_i64 u4
      have bo : Tryz.prog.bytesOf 71 = 48 := by kernel_rfl
      rw [bo] at zo
      have zo' : os.length * 48 ≤ 140737488355328 := Nat.le_trans zo (by decide)
      obtain ⟨k0, rfl⟩ := Int.eq_ofNat_of_zero_le b0.1
      obtain ⟨k2, rfl⟩ := Int.eq_ofNat_of_zero_le b2.1
      subst e0 e2 e3 e4
      exact ⟨⟨⟨k0, os, k2, a3, a4⟩, c1⟩, rfl, ⟨ro, go⟩, ⟨⟨by simp only; omega, by simp only; omega, by simp only; omega, by simp only; omega⟩, zo'⟩⟩
def InReqs (W : World) (v : Value) : Prop := ∃ l, QRd W v l
set_option maxRecDepth 100000 in
theorem in_reqs (hv : Value.okWide Tryz.prog W .any base 22 v) (h : DataW.Trod enc Tryz.prog W 0 (fun _ => true) true 22 v d p) (hs : okW 22 d) : InReqs W v := by
  obtain ⟨a0, len0, cap0, rfl⟩ := okWide_slice Tryz.underlying22 hv
  obtain ⟨fuel, hf⟩ := h
  obtain ⟨l, rl, gl, _⟩ := in_slice Tryz.underlying22 (size := 5) (by kernel_rfl) (by omega) Qs.cells (fun _ => rfl) (fun q => ORd W q.vo q.r.ops ∧ q.Small) in_req (u := .slice a0 len0 cap0) (y := (d, p)) (by simpa [Value.cells] using hf) hs
  exact ⟨l, rl, fun q hq => (gl q hq).1, fun q hq => (gl q hq).2⟩
end
end Go.Proofs.YtbgjbikpenefoaaGreatDoor
