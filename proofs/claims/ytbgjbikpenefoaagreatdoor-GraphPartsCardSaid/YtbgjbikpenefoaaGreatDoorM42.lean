/- Lemmas for the claim, in one text: YBA, G14, YBG, YAC. -/
import Derived.Test.YtbgjbikpenefoaaGreatDoorM37
import Derived.Test.YtbgjbikpenefoaaGreatDoorYV
import Derived.Test.YtbgjbikpenefoaaGreatDoorYW
import Derived.Test.YtbgjbikpenefoaaGreatDoorM41
import Derived.Test.YtbgjbikpenefoaaGreatDoorM13
import Derived.Test.YtbgjbikpenefoaaGreatDoorM08
import Derived.Test.YtbgjbikpenefoaaGreatDoorM02
import Derived.Test.YtbgjbikpenefoaaGreatDoorA
import Derived.Test.YtbgjbikpenefoaaGreatDoorY8

/- YBA: what is needed of it (by shake.py). -/

/- YBA, as far as the seat goes. -/
/- A graph of one's own on the way in a law: what it holds, who keeps what; a request over a copy; Do; List; Vertex. -/
namespace Go.Proofs.YtbgjbikpenefoaaGreatDoor
set_option linter.unusedVariables false
set_option linter.unusedSimpArgs false
open Go.RowKit Go.Maps
/-- What was there is there: cells, blocks of cells. -/
structure Kept (w w' : World) : Prop where
  size : w.heap.size ≤ w'.heap.size
  cell : ∀ {a : Addr} {v : Value}, w.cell? a = some v → w'.cell? a = some v
  box : ∀ {b : Nat} {cs : Array Value} {t : TypeId} {f : Nat × Nat}, w.heap[b]? = some (.cells cs t f) → w'.heap[b]? = some (.cells cs t f)
theorem Kept.refl (w : World) : Kept w w := ⟨Nat.le_refl _, fun h => h, fun h => h⟩
theorem Kept.of {w w' : World} {bm : Nat} {ns : List Node} (h : NM w bm ns) (m : Mod (FootM bm ns) w w') : Kept w w' := ⟨m.size, fun hc => h.cell m hc, fun hb => h.box m hb⟩
theorem Kept.mod {w w' : World} (m : Mod (fun _ => False) w w') : Kept w w' := ⟨m.size, fun h => m.cell h, fun h => m.heap h (fun f => f)⟩
theorem Kept.trans {w w1 w2 : World} (a : Kept w w1) (b : Kept w1 w2) : Kept w w2 := ⟨Nat.le_trans a.size b.size, fun h => b.cell (a.cell h), fun h => b.box (a.box h)⟩
theorem Kept.then {w w1 w2 : World} (a : Kept w w1) (m : Mod (fun _ => False) w1 w2) : Kept w w2 := a.trans (.mod m)
theorem Kept.rds {w w' : World} (h : Kept w w') {size n : Nat} {v : Value} {us : List Value} (hr : RdS w size v n us) : RdS w' size v n us :=
  ⟨hr.len, hr.shape, fun a c e j u hu => by
    obtain ⟨b, off, e1, hb, hc⟩ := hr.cell a c e j u hu
    exact ⟨b, off, e1, Nat.lt_of_lt_of_le hb h.size, h.cell hc⟩⟩
theorem Kept.seg {w w' : World} (h : Kept w w') {t : TypeId} {size n : Nat} {v : Value} {us : List Value} (hr : Seg w t size v n us) : Seg w' t size v n us := by
  refine ⟨hr.1, hr.2.1, ?_⟩
  rcases hr.2.2 with hn | ⟨g, off, cap, cur, rfl, hg, r⟩
  · exact .inl hn
  · exact .inr ⟨g, off, cap, cur, rfl, h.box hg, r⟩
/-- A graph on the way: what it holds; all of it is new memory since w. -/
structure GSt (w : World) (g bm : Nat) (L : Gr) (wr : World) : Prop where
  ex : ∃ ns, PG wr g bm ns ∧ ns.map Node.x = L ∧ ∀ b, FootN bm ns b → w.heap.size ≤ b
  good : Good L
  mod : Mod (fun _ => False) w wr
theorem GSt.keep {w wr wx : World} {g bm : Nat} {L : Gr} (h : GSt w g bm L wr) (m : Mod (fun _ => False) wr wx) : GSt w g bm L wx := by
  obtain ⟨ns, h1, h2, h3⟩ := h.ex
  exact ⟨⟨ns, h1.keep m, h2, h3⟩, h.good, h.mod.trans m⟩
/-- What is new memory may turn, where the graph isn't. -/
theorem GSt.more {S : Nat → Prop} {w wr wx : World} {g bm : Nat} {L : Gr} (h : GSt w g bm L wr) (m : Mod S wr wx) (hlo : ∀ b, S b → w.heap.size ≤ b) (hoff : ∀ b, S b → ∃ cs t f, wr.heap[b]? = some (.cells cs t f) ∧ t ≠ 93 ∧ t ≠ 81) : GSt w g bm L wx := by
  obtain ⟨ns, h1, h2, h3⟩ := h.ex
  refine ⟨⟨ns, h1.mod m (fun b hb s => ?_), h2, h3⟩, h.good, h.mod.trans' m (fun i hi s => by have := hlo i s; omega)⟩
  obtain ⟨cs, t, f, hc, e1, e2⟩ := hoff b s
  exact h1.off_box hc e1 e2 hb
theorem GSt.turned {w wr w' : World} {g bm : Nat} {L L' : Gr} {ns ns' : List Node} {off : Nat → Prop} (h : GSt w g bm L wr) (hlo : ∀ b, FootN bm ns b → w.heap.size ≤ b) (ht : Turned g bm ns L' off wr w' ns') (hL : Good L') : GSt w g bm L' w' := by
  have hs := h.mod.size
  refine ⟨⟨ns', ht.pg, ht.is, fun b hb => ?_⟩, hL, h.mod.trans' ht.mod (fun i hi f => ?_)⟩
  · rcases ht.new b hb with e | e
    · exact hlo b e
    · omega
  · have := hlo i f.foot; omega
theorem slist_any (g bm : Nat) (L : Gr) (w wr : World) (h : GSt w g bm L wr) :
    Calls Tryz.prog 25 #[.pointer (some ⟨g, 0, none⟩)] wr fun e w' => ∃ v, e = .returned v ∧ SegN wr w' v (L.map Vtx.id) := by
  obtain ⟨ns, hp, hx, hlo⟩ := h.ex
  have hL : Good (ns.map Node.x) := by rw [hx]; exact h.good
  have := list_any g bm ns wr hp hL
  rwa [hx] at this
theorem svertex_any (g bm : Nat) (L : Gr) (id : Nat) (w wr : World) (h : GSt w g bm L wr) (hid : id < 4294967296) :
    Calls Tryz.prog 14 #[.pointer (some ⟨g, 0, none⟩), .int .u32 (id : Int)] wr (Twins wr (tellV L id)) := by
  obtain ⟨ns, hp, hx, hlo⟩ := h.ex
  have hL : Good (ns.map Node.x) := by rw [hx]; exact h.good
  have := vertex_any g bm ns id wr hp hL hid
  rwa [hx] at this
theorem snew_any (w wr : World) (m : Mod (fun _ => False) w wr) : Calls Tryz.prog 11 #[] wr fun e w' => e = .returned (.pointer (some ⟨wr.heap.size + 1, 0, none⟩)) ∧ Mod (fun _ => False) wr w' ∧ GSt w (wr.heap.size + 1) wr.heap.size [] w' ∧ wr.heap.size + 1 < w'.heap.size := by
  refine (new_pg wr).mono ?_
  rintro e w' ⟨rfl, m1, hp, hz⟩
  have := m.size
  refine ⟨rfl, m1, ⟨⟨[], hp, rfl, fun b hb => ?_⟩, Good.nil, m.trans m1⟩, hz⟩
  rcases hb with rfl | ⟨n, hn, _⟩
  · exact this
  · simp at hn
/-- Vertex told of one that is there. -/
theorem tellV_mem {L : Gr} (hr : Rising Vtx.id L) {x : Vtx} (hx : x ∈ L) : tellV L x.id = x := by
  unfold tellV
  rw [(findV_iff hr).2 ⟨hx, rfl⟩]
  rfl
end Go.Proofs.YtbgjbikpenefoaaGreatDoor

/- G14: what is needed of it (by shake.py). -/

/- G14, as far as the seat goes. -/
/- gussetref03.SameNumbers, gussetref03.SameVertex, of two that are alike. -/
namespace Go.Proofs.YtbgjbikpenefoaaGreatDoor
set_option linter.unusedVariables false
open Go.RowKit
set_option maxRecDepth 100000 in
set_option maxHeartbeats 1000000 in
theorem nsame_yes (v u : Value) (l : List Nat) (w : World) (hv : RdS w 1 v l.length (l.map (keyV .u32))) (hu : RdS w 1 u l.length (l.map (keyV .u32))) :
    Calls Tryz.prog 24 #[v, u] w fun e w' => e = .returned (.bool true) ∧ Mod (fun _ => False) w w' := by
  have HV := Lib.hid hv
  have HU := Lib.hid hu
  obtain ⟨a, c, rfl, hc1, hc2, -⟩ := hv.shape
  obtain ⟨a', c', rfl, hc1', hc2', -⟩ := hu.shape
  clear hv hu
  obtain ⟨n, hl⟩ : ∃ n, n = l.length := ⟨_, rfl⟩
  have HN := Lib.hid hl
  rw [← hl] at HV HU hc1 hc1' ⊢
  clear hl
  go_enter Tryz.func24, Tryz.ntmps24
  go_wp2
  go_loopw [13] (fun i wr => ∃ k : Nat, i = .int .i64 k ∧ k ≤ n ∧ Mod (fun _ => False) w wr) (fun i _ => n - (intOf i).toNat)
  case atStart => exact ⟨0, rfl, Nat.zero_le _, Mod.refl _ _⟩
  case round =>
    obtain ⟨k, rfl, hk, hm⟩ := hrel
    have HM := Lib.hid hm
    clear hm
    by_cases hkn : k < n
    · obtain ⟨x, hx⟩ : ∃ x, l[k]? = some x := ⟨_, List.getElem?_eq_getElem (by rw [← HN.out]; exact hkn)⟩
      obtain ⟨b, off, rfl, hb, p0⟩ := num_ent HV.out hx rfl
      obtain ⟨b', off', rfl, hb', q0⟩ := num_ent HU.out hx rfl
      have p0 : ∀ x : MW wr, x.w.cell? _ = some _ := fun x => x.cell (HM.out.cell p0)
      have q0 : ∀ x : MW wr, x.w.cell? _ = some _ := fun x => x.cell (HM.out.cell q0)
      clear hx
      go_wp2_with fail
      refine wp_region_quietM (by kernel_rfl) (by kernel_rfl) ?_
      repeat (go_big_quiet_step (fail))
      refine wpQuiet_nil ?_
      intro w3 hm3
      have M3 : Hid (Mod (fun _ => False) w w3) := Lib.hid (HM.out.trans (MW.mod_of hm3))
      clear hm3 p0 q0
      go_wp2
      go_roundw
      case rel => exact ⟨k + 1, by go_num, by omega, M3.out⟩
      case measure => simp [intOf]; omega
    · go_wp2
      go_ret
      exact ⟨rfl, HM.out⟩
/-- The two boxes. -/
structure BoAt (w : World) (o o' : Array Value) (wr : World) : Prop where
  mod : Mod (fun _ => False) w wr
  one : wr.heap[w.heap.size]? = some (.cells o 40 (0, 0))
  two : wr.heap[w.heap.size + 1]? = some (.cells o' 40 (0, 0))
theorem BoAt.more {w wx wy : World} {o o' : Array Value} (h : BoAt w o o' wx) (m : Mod (fun _ => False) wx wy) : BoAt w o o' wy := ⟨h.mod.trans m, m.heap h.one (fun f => f), m.heap h.two (fun f => f)⟩
theorem BoAt.begin (w : World) (o o' : Array Value) : BoAt w o o' ((w.alloc (.cells o 40)).alloc (.cells o' 40)) :=
  ⟨((Mod.refl _ w).alloc _).alloc _, heap_alloc_old (heap_alloc_new' w _), by have := heap_alloc_new' (w.alloc (.cells o 40)) (.cells o' 40); simpa using this⟩
set_option maxRecDepth 100000 in
set_option maxHeartbeats 2000000 in
theorem vsame_yes (x : Vtx) (vp vh vp' vh' : Value) (w : World) (h1 : VRd w vp vh x) (h2 : VRd w vp' vh' x) :
    Calls Tryz.prog 22 #[vtxV x vp vh, vtxV x vp' vh'] w fun e w' => e = .returned (.bool true) ∧ Mod (fun _ => False) w w' := by
  obtain ⟨id, there, ps, hs⟩ := x
  have HP := Lib.hid h1.props
  have HH := Lib.hid h1.halves
  have HP2 := Lib.hid h2.props
  have HH2 := Lib.hid h2.halves
  simp only at HP HH HP2 HH2
  obtain ⟨ap, cp, rfl, hcp, hcp2, -⟩ := h1.props.shape
  obtain ⟨ah, ch, rfl, hch, hch2, -⟩ := h1.halves.shape
  obtain ⟨ap', cp', rfl, hcp', hcp2', -⟩ := h2.props.shape
  obtain ⟨ah', ch', rfl, hch', hch2', -⟩ := h2.halves.shape
  clear h1 h2
  simp only [vtxV] at *
  obtain ⟨np, hnp⟩ : ∃ n, n = ps.length := ⟨_, rfl⟩
  have HNP := Lib.hid hnp
  rw [← hnp] at HP HP2 hcp hcp' ⊢
  obtain ⟨nh, hnh⟩ : ∃ n, n = hs.length := ⟨_, rfl⟩
  have HNH := Lib.hid hnh
  rw [← hnh] at HH HH2 hch hch' ⊢
  clear hnp hnh
  have HB := Lib.hid (BoAt.begin w #[.int .u32 (id : Int), .bool there, .slice ap np cp, .slice ah nh ch] #[.int .u32 (id : Int), .bool there, .slice ap' np cp', .slice ah' nh ch'])
  go_enter Tryz.func22, Tryz.ntmps22
  go_wp2
  go_loopw [40] (fun i wr => ∃ k : Nat, i = .int .i64 k ∧ k ≤ np ∧ BoAt w #[.int .u32 (id : Int), .bool there, .slice ap np cp, .slice ah nh ch] #[.int .u32 (id : Int), .bool there, .slice ap' np cp', .slice ah' nh ch'] wr) (fun i _ => np - (intOf i).toNat)
  case atStart => exact ⟨0, rfl, Nat.zero_le _, HB.out⟩
  case round =>
    obtain ⟨k, rfl, hk, hm⟩ := hrel
    have HM := Lib.hid hm
    clear hm HB
    by_cases hkn : k < np
    · obtain ⟨x, hx⟩ : ∃ x, ps[k]? = some x := ⟨_, List.getElem?_eq_getElem (by rw [← HNP.out]; exact hkn)⟩
      obtain ⟨b, off, e1, hb, p0, p1, p2, p3⟩ := HP.out.ent2 hx rfl
      obtain ⟨b', off', e2, hb', q0, q1, q2, q3⟩ := HP2.out.ent2 hx rfl
      have d0 := cell_of_row HM.out.one 2
      have d1 := cell_of_row HM.out.two 2
      simp at d0 d1
      subst e1 e2
      have p0 : ∀ x : MW wr, x.w.cell? _ = some _ := fun x => x.cell (HM.out.mod.cell p0)
      have p1 : ∀ x : MW wr, x.w.cell? _ = some _ := fun x => x.cell (HM.out.mod.cell p1)
      have p2 : ∀ x : MW wr, x.w.cell? _ = some _ := fun x => x.cell (HM.out.mod.cell p2)
      have p3 : ∀ x : MW wr, x.w.cell? _ = some _ := fun x => x.cell (HM.out.mod.cell p3)
      have q0 : ∀ x : MW wr, x.w.cell? _ = some _ := fun x => x.cell (HM.out.mod.cell q0)
      have q1 : ∀ x : MW wr, x.w.cell? _ = some _ := fun x => x.cell (HM.out.mod.cell q1)
      have q2 : ∀ x : MW wr, x.w.cell? _ = some _ := fun x => x.cell (HM.out.mod.cell q2)
      have q3 : ∀ x : MW wr, x.w.cell? _ = some _ := fun x => x.cell (HM.out.mod.cell q3)
      have d0 : ∀ x : MW wr, x.w.cell? _ = some _ := fun x => x.cell d0
      have d1 : ∀ x : MW wr, x.w.cell? _ = some _ := fun x => x.cell d1
      clear hx hb hb'
      obtain ⟨key, ⟨vk, vn, vs⟩⟩ := x
      simp only at p0 p1 p2 p3 q0 q1 q2 q3
      go_wp2_with fail
      refine wp_region_quietM (by kernel_rfl) (by kernel_rfl) ?_
      repeat (go_big_quiet_step (fail))
      refine wpQuiet_nil ?_
      intro w3 hm3
      have M3 := Lib.hid (HM.out.more (MW.mod_of hm3))
      clear hm3 p0 p1 p2 p3 q0 q1 q2 q3 d0 d1
      go_wp2
      go_roundw
      case rel => exact ⟨k + 1, by go_num, by omega, M3.out⟩
      case measure => simp [intOf]; omega
    · have HB := Lib.hid HM.out
      have g3 := cell_of_row HM.out.one 3
      have g4 := cell_of_row HM.out.two 3
      simp at g3 g4
      go_wp2
      go_loopw [58] (fun i wr => ∃ k : Nat, i = .int .i64 k ∧ k ≤ nh ∧ BoAt w #[.int .u32 (id : Int), .bool there, .slice ap np cp, .slice ah nh ch] #[.int .u32 (id : Int), .bool there, .slice ap' np cp', .slice ah' nh ch'] wr) (fun i _ => nh - (intOf i).toNat)
      case atStart => exact ⟨0, rfl, Nat.zero_le _, HB.out⟩
      case round =>
        obtain ⟨k, rfl, hk, hm⟩ := hrel
        have HM := Lib.hid hm
        clear hm HB
        by_cases hkn : k < nh
        · obtain ⟨x, hx⟩ : ∃ x, hs[k]? = some x := ⟨_, List.getElem?_eq_getElem (by rw [← HNH.out]; exact hkn)⟩
          obtain ⟨b, off, e1, hb, p0, p1, p2, p3⟩ := HH.out.ent2 hx rfl
          obtain ⟨b', off', e2, hb', q0, q1, q2, q3⟩ := HH2.out.ent2 hx rfl
          have d0 := cell_of_row HM.out.one 3
          have d1 := cell_of_row HM.out.two 3
          simp at d0 d1
          subst e1 e2
          have p0 : ∀ x : MW wr, x.w.cell? _ = some _ := fun x => x.cell (HM.out.mod.cell p0)
          have p1 : ∀ x : MW wr, x.w.cell? _ = some _ := fun x => x.cell (HM.out.mod.cell p1)
          have p2 : ∀ x : MW wr, x.w.cell? _ = some _ := fun x => x.cell (HM.out.mod.cell p2)
          have p3 : ∀ x : MW wr, x.w.cell? _ = some _ := fun x => x.cell (HM.out.mod.cell p3)
          have q0 : ∀ x : MW wr, x.w.cell? _ = some _ := fun x => x.cell (HM.out.mod.cell q0)
          have q1 : ∀ x : MW wr, x.w.cell? _ = some _ := fun x => x.cell (HM.out.mod.cell q1)
          have q2 : ∀ x : MW wr, x.w.cell? _ = some _ := fun x => x.cell (HM.out.mod.cell q2)
          have q3 : ∀ x : MW wr, x.w.cell? _ = some _ := fun x => x.cell (HM.out.mod.cell q3)
          have d0 : ∀ x : MW wr, x.w.cell? _ = some _ := fun x => x.cell d0
          have d1 : ∀ x : MW wr, x.w.cell? _ = some _ := fun x => x.cell d1
          clear hx hb hb'
          obtain ⟨key, ⟨vk, vn, vs⟩⟩ := x
          simp only at p0 p1 p2 p3 q0 q1 q2 q3
          go_wp2_with fail
          refine wp_region_quietM (by kernel_rfl) (by kernel_rfl) ?_
          repeat (go_big_quiet_step (fail))
          refine wpQuiet_nil ?_
          intro w3 hm3
          have M3 := Lib.hid (HM.out.more (MW.mod_of hm3))
          clear hm3 p0 p1 p2 p3 q0 q1 q2 q3 d0 d1
          go_wp2
          go_roundw
          case rel => exact ⟨k + 1, by go_num, by omega, M3.out⟩
          case measure => simp [intOf]; omega
        · have HB := Lib.hid HM.out
          have g3 := cell_of_row HM.out.one 3
          have g4 := cell_of_row HM.out.two 3
          simp at g3 g4
          go_wp2
          go_ret
          exact ⟨rfl, HM.out.mod⟩
end Go.Proofs.YtbgjbikpenefoaaGreatDoor

/- YBG: what is needed of it (by shake.py). -/

/- YBG, as far as the seat goes. -/
/- A list of vertices that a law collects; operations as an argument; a transaction in the laws' words. (Printed by gen_gall.py.) -/
namespace Go.Proofs.YtbgjbikpenefoaaGreatDoor
set_option linter.unusedVariables false
set_option linter.unusedSimpArgs false
open Go.RowKit Go.Maps
/-- Operations that come in. -/
def InOps (W : World) (v : Value) : Prop := ∃ l : List Opr, ORd W v l ∧ l.length * 48 ≤ 140737488355328
section
open Go.ChangeShapes Go.WideShapes Go.ChangeAt
variable {H : Type} {enc : TypeId × Value → H} {W : World} {base : Nat} {v : Value} {d : DataW H} {p : List MemPlace}
set_option maxRecDepth 100000 in
theorem in_ops (hv : Value.okWide Tryz.prog W .any base 27 v) (h : DataW.Trod enc Tryz.prog W 0 (fun _ => true) true 27 v d p) (hs : okW 27 d) : InOps W v := by
  obtain ⟨a0, len0, cap0, rfl⟩ := okWide_slice Tryz.underlying27 hv
  obtain ⟨fuel, hf⟩ := h
  obtain ⟨l, rl, gl, zl⟩ := in_slice Tryz.underlying27 (size := 7) (by kernel_rfl) (by omega) Opr.cells opr_cells Opr.Fits in_op (u := .slice a0 len0 cap0) (y := (d, p)) (by simpa [Value.cells] using hf) hs
  have bo : Tryz.prog.bytesOf 71 = 48 := by kernel_rfl
  rw [bo] at zl
  exact ⟨l, ⟨rl, gl⟩, Nat.le_trans zl (by decide)⟩
end
theorem ocells_take (l : List Opr) (k : Nat) : (ocells l).take (k * 7) = ocells (l.take k) := by
  induction l generalizing k with
  | nil => simp [ocells]
  | cons s r ih =>
    cases k with
    | zero => simp [ocells]
    | succ k =>
      have : ocells (s :: r) = s.cells ++ ocells r := by simp [ocells]
      have h2 : ocells (s :: r.take k) = s.cells ++ ocells (r.take k) := by simp [ocells]
      rw [this, show (k + 1) * 7 = s.cells.length + k * 7 by rw [opr_cells s]; omega, List.take_length_add_append, List.take_succ_cons, h2, ih]
/-- The first operations of a list. -/
theorem ORd.to {w : World} {v : Value} {l : List Opr} (h : ORd w v l) {k : Nat} (hk : k ≤ l.length) (kk : IntKind) :
    ∃ a c, (∀ wx, (Instr.slice 27 v none (some (.int kk k)) none).run Tryz.prog wx = .ok (.slice a k c) wx) ∧ ORd w (.slice a k c) (l.take k) := by
  obtain ⟨v', h1, h2, _⟩ := h.row.cut (by omega) (lo := 0) (hi := k) (Nat.zero_le _) hk Tryz.underlying27 (e := 71) (by kernel_rfl) kk kk none (some (.int kk k)) (.inr ⟨rfl, rfl⟩) (.inl rfl)
  obtain ⟨a, c, rfl, -⟩ := h2.shape
  refine ⟨a, c, by simpa using h1, ?_, fun o ho => h.fits o (List.mem_of_mem_take ho)⟩
  rw [ocells_take] at h2
  simpa [List.length_take, Nat.min_eq_left hk] using h2
/-- A transaction by itself. -/
def txR (ops : List Opr) : Rqt := ⟨1, ops, 0, 0, 0⟩
theorem doG_tx_ok {L : Gr} {ops : List Opr} {p : Gr × List Val} (hc : checkR (txR ops) = 0) (h : okRun L ops = some p) : doG L (txR ops) = (p.1, ⟨0, 0, p.2, []⟩) := by
  unfold doG
  rw [if_neg (by simpa using hc)]
  simp only [txR, if_true]
  rw [h]
theorem doG_tx_no {L : Gr} {ops : List Opr} (hc : checkR (txR ops) = 0) (h : okRun L ops = none) : doG L (txR ops) = (L, ⟨(failG L 0 ops).1, (failG L 0 ops).2, [], []⟩) := by
  unfold doG
  rw [if_neg (by simpa using hc)]
  simp only [txR, if_true]
  rw [h]
theorem tx_parts {ops : List Opr} (hc : checkR (txR ops) = 0) : 1 ≤ ops.length ∧ ops.length ≤ 6 ∧ ∀ o ∈ ops, opOK o = true := by
  unfold checkR txR at hc
  simp only at hc
  rw [if_neg (by omega), if_pos trivial] at hc
  by_cases h1 : ops.length < 1 ∨ 6 < ops.length
  · rw [if_pos h1] at hc; cases hc
  · rw [if_neg h1] at hc
    by_cases h2 : ops.all opOK = false
    · rw [if_pos h2] at hc; cases hc
    · refine ⟨by omega, by omega, fun o ho => ?_⟩
      have : ops.all opOK = true := by simpa using h2
      exact List.all_eq_true.1 this o ho
theorem tx_good {ops : List Opr} (h1 : 1 ≤ ops.length) (h6 : ops.length ≤ 6) (ho : ∀ o ∈ ops, opOK o = true) : checkR (txR ops) = 0 := by
  unfold checkR txR
  simp only
  rw [if_neg (by omega), if_pos trivial, if_neg (by omega), if_neg (by rw [List.all_eq_true.2 ho]; simp), if_neg (by simp)]
/-- A transaction that is refused: where; and what stands ahead of that place is taken. -/
theorem tx_cut {L : Gr} {ops : List Opr} (hc : checkR (txR ops) = 0) (h : okRun L ops = none) : ∃ k z, k < ops.length ∧ z ≠ 0 ∧ failG L 0 ops = (z, k) ∧ (1 ≤ k → checkR (txR (ops.take k)) = 0 ∧ ∃ p, okRun L (ops.take k) = some p) := by
  obtain ⟨k, h1, h2, h3, p, h4⟩ := fail_cut ops L [] 0 h
  refine ⟨k, (failG L 0 ops).1, h1, h3, by rw [Prod.ext_iff]; exact ⟨rfl, by rw [h2]; omega⟩, fun hk => ⟨?_, p, h4⟩⟩
  obtain ⟨_, h6, ho⟩ := tx_parts hc
  exact tx_good (by rw [List.length_take]; omega) (by rw [List.length_take]; omega) (fun o hm => ho o (List.mem_of_mem_take hm))
end Go.Proofs.YtbgjbikpenefoaaGreatDoor

/- YAC: what is needed of it (by shake.py). -/

/- YAC, as far as the seat goes. -/
/- gussetlaw03.awake: what its two requests answer, in plain Lean. -/
namespace Go.Proofs.YtbgjbikpenefoaaGreatDoor
set_option linter.unusedVariables false
set_option linter.unusedSimpArgs false
open Go.RowKit
def aX : Val := ⟨2, 0, ⟨#[120]⟩⟩
def aFive : Val := ⟨1, 5, ⟨#[]⟩⟩
def aOps1 : List Opr := [⟨1, 1, 0, 0, noVal⟩, ⟨1, 2, 0, 0, noVal⟩, ⟨5, 1, 2, 0, aX⟩, ⟨3, 1, 0, 0, aFive⟩]
def aOps2 : List Opr := [⟨4, 1, 0, 0, noVal⟩, ⟨7, 2, 1, 0, noVal⟩]
theorem awake1 : (doG [] ⟨1, aOps1, 0, 0, 0⟩).2 = ⟨0, 0, [], []⟩ := by kernel_rfl
theorem awake2 : (doG (doG [] ⟨1, aOps1, 0, 0, 0⟩).1 ⟨1, aOps2, 0, 0, 0⟩).2 = ⟨0, 0, [aFive, aX], []⟩ := by kernel_rfl
end Go.Proofs.YtbgjbikpenefoaaGreatDoor
