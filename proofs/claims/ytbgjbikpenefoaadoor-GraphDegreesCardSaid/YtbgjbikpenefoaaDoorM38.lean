/- Lemmas for the claim, in one text: PA, YBA, YBG, YAC. -/
import Derived.Test.YtbgjbikpenefoaaDoorR14
import Derived.Test.YtbgjbikpenefoaaDoorM08
import Derived.Test.YtbgjbikpenefoaaDoorM02
import Derived.Test.YtbgjbikpenefoaaDoorA
import Derived.Test.YtbgjbikpenefoaaDoorM37
import Derived.Test.YtbgjbikpenefoaaDoorRF
import Derived.Test.YtbgjbikpenefoaaDoorM10
import Derived.Test.YtbgjbikpenefoaaDoorYV
import Derived.Test.YtbgjbikpenefoaaDoorM13
import Derived.Test.YtbgjbikpenefoaaDoorY8

/- PA: what is needed of it (by shake.py). -/

/- PA, as far as the seat goes. -/
/- P1, P2 in one. -/
/- GhostPairs: both sides' counts come to the same (plain). -/
namespace Go.Proofs.YtbgjbikpenefoaaDoor
set_option linter.unusedVariables false
set_option linter.unusedSimpArgs false
end Go.Proofs.YtbgjbikpenefoaaDoor
/- GhostPairs: what comes in; requests one behind the other; a graph's vertices in two parts. -/
namespace Go.Proofs.YtbgjbikpenefoaaDoor
set_option linter.unusedVariables false
set_option linter.unusedSimpArgs false
open Go.RowKit Go.ChangeShapes Go.WideShapes Go.ChangeAt
/-- A request as it lies in a list. -/
structure Qs where
  r : Rqt
  vo : Value
def Qs.cells (q : Qs) : List Value := [.int .u8 (q.r.kind : Int), q.vo, .int .u32 (q.r.v : Int), .int .i64 q.r.k, .int .i64 q.r.dest]
/-- What is known of a request's parts and size. -/
structure Qs.Small (q : Qs) : Prop where
  fits : q.r.Fits
  size : q.r.ops.length * 48 ≤ 140737488355328
structure QRd (w : World) (v : Value) (l : List Qs) : Prop where
  row : RdS w 5 v l.length (l.flatMap Qs.cells)
  each : ∀ q ∈ l, ORd w q.vo q.r.ops
  small : ∀ q ∈ l, q.Small
theorem QRd.keep {w w' : World} {v : Value} {l : List Qs} (h : QRd w v l) (m : Mod (fun _ => False) w w') : QRd w' v l := ⟨h.row.keep m, fun q hq => (h.each q hq).keep m, h.small⟩
theorem QRd.ent {w : World} {v : Value} {l : List Qs} (h : QRd w v l) {i : Nat} {x : Qs} (hi : l[i]? = some x) {a : Option Addr} {n c : Nat} (e : v = .slice a n c) :
    ∃ b off, a = some ⟨b, off, none⟩ ∧ b < w.heap.size ∧ w.cell? ⟨b, off + i * 5, none⟩ = some (.int .u8 (x.r.kind : Int)) ∧ w.cell? ⟨b, off + i * 5 + 1, none⟩ = some x.vo ∧ w.cell? ⟨b, off + i * 5 + 2, none⟩ = some (.int .u32 (x.r.v : Int)) ∧ w.cell? ⟨b, off + i * 5 + 3, none⟩ = some (.int .i64 x.r.k) ∧ w.cell? ⟨b, off + i * 5 + 4, none⟩ = some (.int .i64 x.r.dest) := by
  have g := fun j hj => flat_get Qs.cells (fun _ => rfl) l i j x hi (show j < 5 from hj)
  obtain ⟨a', c', e', -⟩ := h.row.shape
  rw [e] at e'
  injection e' with e1 e2 e3
  rw [e2] at e
  have k : ∀ j u, j < 5 → x.cells[j]? = some u → ∃ b off, a = some ⟨b, off, none⟩ ∧ b < w.heap.size ∧ w.cell? ⟨b, off + (i * 5 + j), none⟩ = some u := fun j u hj hu => h.row.cell a c e (i * 5 + j) u (by rw [g j hj]; exact hu)
  obtain ⟨b, off, ea, hb, h0⟩ := k 0 _ (by omega) rfl
  have r : ∀ j u, j < 5 → x.cells[j]? = some u → w.cell? ⟨b, off + (i * 5 + j), none⟩ = some u := fun j u hj hu => by
    obtain ⟨b1, off1, ea1, _, h1⟩ := k j u hj hu
    rw [ea] at ea1
    injection ea1 with e1; injection e1 with e1 e2
    subst e1 e2
    exact h1
  refine ⟨b, off, ea, hb, h0, ?_, ?_, ?_, ?_⟩
  · rw [Nat.add_assoc]; exact r 1 _ (by omega) rfl
  · rw [Nat.add_assoc]; exact r 2 _ (by omega) rfl
  · rw [Nat.add_assoc]; exact r 3 _ (by omega) rfl
  · rw [Nat.add_assoc]; exact r 4 _ (by omega) rfl
instance : Inhabited Opr := ⟨⟨0, 0, 0, 0, noVal⟩⟩
instance : Inhabited Qs := ⟨⟨⟨0, [], 0, 0, 0⟩, .slice none 0 0⟩⟩
section
variable {H : Type} {enc : TypeId × Value → H} {W : World} {base : Nat} {v : Value} {d : DataW H} {p : List MemPlace}
set_option maxRecDepth 100000 in
theorem in_op (n : Nat) (cs : List Value) (y : DataW H × List MemPlace) (hl : cs.length = 7) (h : DataW.trod enc Tryd.prog W 0 (fun _ => true) true n 41 cs = some y) (hw : okW 41 y.1) : ∃ x : Opr, cs = x.cells ∧ x.Fits := by
  obtain ⟨xs, n', _, _, _, hlen, hf⟩ := DataW.trod_struct Tryd.underlying41 h
  match cs, hl with
  | [c0, c1, c2, c3, c4, c5, c6], _ =>
    have c8 : Tryd.prog.cellsOf 5 = 1 := by kernel_rfl
    have cu : Tryd.prog.cellsOf 27 = 1 := by kernel_rfl
    have cv : Tryd.prog.cellsOf 39 = 3 := by kernel_rfl
    match xs, hlen with
    | [y0, y1, y2, y3, y4], _ =>
      have h0 : DataW.trod enc Tryd.prog W 0 (fun _ => true) true n' 5 ((List.drop 0 [c0, c1, c2, c3, c4, c5, c6]).take (Tryd.prog.cellsOf 5)) = some y0 := hf 0 _ rfl
      have h1 : DataW.trod enc Tryd.prog W 0 (fun _ => true) true n' 27 ((List.drop 1 [c0, c1, c2, c3, c4, c5, c6]).take (Tryd.prog.cellsOf 27)) = some y1 := hf 1 _ rfl
      have h2 : DataW.trod enc Tryd.prog W 0 (fun _ => true) true n' 27 ((List.drop 2 [c0, c1, c2, c3, c4, c5, c6]).take (Tryd.prog.cellsOf 27)) = some y2 := hf 2 _ rfl
      have h3 : DataW.trod enc Tryd.prog W 0 (fun _ => true) true n' 5 ((List.drop 3 [c0, c1, c2, c3, c4, c5, c6]).take (Tryd.prog.cellsOf 5)) = some y3 := hf 3 _ rfl
      have h4 : DataW.trod enc Tryd.prog W 0 (fun _ => true) true n' 39 ((List.drop 4 [c0, c1, c2, c3, c4, c5, c6]).take (Tryd.prog.cellsOf 39)) = some y4 := hf 4 _ rfl
      simp only [c8, cu, cv, List.drop_zero, List.take_succ_cons, List.take_zero, List.drop_succ_cons] at h0 h1 h2 h3 h4
      obtain ⟨a0, e0, _, w0⟩ := DataW.trod_int Tryd.underlying5 h0
      obtain ⟨a1, e1, _, w1⟩ := DataW.trod_int Tryd.underlying27 h1
      obtain ⟨a2, e2, _, w2⟩ := DataW.trod_int Tryd.underlying27 h2
      obtain ⟨a3, e3, _, w3⟩ := DataW.trod_int Tryd.underlying5 h3
      obtain ⟨v, e4, hv⟩ := in_val n' _ _ rfl h4
      simp only [List.cons.injEq, and_true] at e0 e1 e2 e3 e4
      have b0 := bounds_u8 w0
      have b1 := bounds_u32 w1
      have b2 := bounds_u32 w2
      have b3 := bounds_u8 w3
      obtain ⟨k0, rfl⟩ := Int.eq_ofNat_of_zero_le b0.1
      obtain ⟨k1, rfl⟩ := Int.eq_ofNat_of_zero_le b1.1
      obtain ⟨k2, rfl⟩ := Int.eq_ofNat_of_zero_le b2.1
      obtain ⟨k3, rfl⟩ := Int.eq_ofNat_of_zero_le b3.1
      obtain ⟨rfl, rfl, rfl⟩ := e4
      subst e0 e1 e2 e3
      exact ⟨⟨k0, k1, k2, k3, v⟩, rfl, by simp only; omega, by simp only; omega, by simp only; omega, by simp only; omega, hv⟩
set_option maxRecDepth 100000 in
theorem in_req (n : Nat) (cs : List Value) (y : DataW H × List MemPlace) (hl : cs.length = 5) (h : DataW.trod enc Tryd.prog W 0 (fun _ => true) true n 29 cs = some y) (hw : okW 29 y.1) : ∃ q : Qs, cs = q.cells ∧ ORd W q.vo q.r.ops ∧ q.Small := by
  obtain ⟨xs, n', _, hx, _, hlen, hf⟩ := DataW.trod_struct Tryd.underlying29 h
  match cs, hl with
  | [c0, c1, c2, c3, c4], _ =>
    have c8 : Tryd.prog.cellsOf 5 = 1 := by kernel_rfl
    have co : Tryd.prog.cellsOf 26 = 1 := by kernel_rfl
    have cu : Tryd.prog.cellsOf 27 = 1 := by kernel_rfl
    have ci : Tryd.prog.cellsOf 3 = 1 := by kernel_rfl
    match xs, hlen with
    | [y0, y1, y2, y3, y4], _ =>
      have h0 : DataW.trod enc Tryd.prog W 0 (fun _ => true) true n' 5 ((List.drop 0 [c0, c1, c2, c3, c4]).take (Tryd.prog.cellsOf 5)) = some y0 := hf 0 _ rfl
      have h1 : DataW.trod enc Tryd.prog W 0 (fun _ => true) true n' 26 ((List.drop 1 [c0, c1, c2, c3, c4]).take (Tryd.prog.cellsOf 26)) = some y1 := hf 1 _ rfl
      have h2 : DataW.trod enc Tryd.prog W 0 (fun _ => true) true n' 27 ((List.drop 2 [c0, c1, c2, c3, c4]).take (Tryd.prog.cellsOf 27)) = some y2 := hf 2 _ rfl
      have h3 : DataW.trod enc Tryd.prog W 0 (fun _ => true) true n' 3 ((List.drop 3 [c0, c1, c2, c3, c4]).take (Tryd.prog.cellsOf 3)) = some y3 := hf 3 _ rfl
      have h4 : DataW.trod enc Tryd.prog W 0 (fun _ => true) true n' 3 ((List.drop 4 [c0, c1, c2, c3, c4]).take (Tryd.prog.cellsOf 3)) = some y4 := hf 4 _ rfl
      simp only [c8, co, cu, ci, List.drop_zero, List.take_succ_cons, List.take_zero, List.drop_succ_cons] at h0 h1 h2 h3 h4
      have hy : y.1 = .agg ([y0, y1, y2, y3, y4].map (·.1)) := by rw [hx]
      rw [hy] at hw
      have w1 : okW 26 y1.1 := okW_part Tryd.underlying29 hw (j := 1) rfl rfl
      obtain ⟨a0, e0, _, u0⟩ := DataW.trod_int Tryd.underlying5 h0
      obtain ⟨a2, e2, _, u2⟩ := DataW.trod_int Tryd.underlying27 h2
      obtain ⟨a3, e3, _, u3⟩ := DataW.trod_int Tryd.underlying3 h3
      obtain ⟨a4, e4, _, u4⟩ := DataW.trod_int Tryd.underlying3 h4
      obtain ⟨os, ro, go, zo⟩ := in_slice Tryd.underlying26 (size := 7) (by kernel_rfl) (by omega) Opr.cells opr_cells Opr.Fits in_op h1 w1
      simp only [List.cons.injEq, and_true] at e0 e2 e3 e4
      have b0 := bounds_u8 u0
      have b2 := bounds_u32 u2
      have b3 := bounds_i64 u3
      have b4 := bounds_i64 u4
      have bo : Tryd.prog.bytesOf 41 = 48 := by kernel_rfl
      rw [bo] at zo
      have zo' : os.length * 48 ≤ 140737488355328 := Nat.le_trans zo (by decide)
      obtain ⟨k0, rfl⟩ := Int.eq_ofNat_of_zero_le b0.1
      obtain ⟨k2, rfl⟩ := Int.eq_ofNat_of_zero_le b2.1
      subst e0 e2 e3 e4
      exact ⟨⟨⟨k0, os, k2, a3, a4⟩, c1⟩, rfl, ⟨ro, go⟩, ⟨⟨by simp only; omega, by simp only; omega, by simp only; omega, by simp only; omega⟩, zo'⟩⟩
def InReqs (W : World) (v : Value) : Prop := ∃ l, QRd W v l
set_option maxRecDepth 100000 in
theorem in_reqs (hv : Value.okWide Tryd.prog W .any base 22 v) (h : DataW.Trod enc Tryd.prog W 0 (fun _ => true) true 22 v d p) (hs : okW 22 d) : InReqs W v := by
  obtain ⟨a0, len0, cap0, rfl⟩ := okWide_slice Tryd.underlying22 hv
  obtain ⟨fuel, hf⟩ := h
  obtain ⟨l, rl, gl, _⟩ := in_slice Tryd.underlying22 (size := 5) (by kernel_rfl) (by omega) Qs.cells (fun _ => rfl) (fun q => ORd W q.vo q.r.ops ∧ q.Small) in_req (u := .slice a0 len0 cap0) (y := (d, p)) (by simpa [Value.cells] using hf) hs
  exact ⟨l, rl, fun q hq => (gl q hq).1, fun q hq => (gl q hq).2⟩
end
end Go.Proofs.YtbgjbikpenefoaaDoor

/- YBA: what is needed of it (by shake.py). -/

/- YBA, as far as the seat goes. -/
/- A graph of one's own on the way in a law: what it holds, who keeps what; a request over a copy; Do; List; Vertex. -/
namespace Go.Proofs.YtbgjbikpenefoaaDoor
set_option linter.unusedVariables false
set_option linter.unusedSimpArgs false
open Go.RowKit Go.Maps
/-- What was there is there: cells, blocks of cells. -/
structure Kept (w w' : World) : Prop where
  size : w.heap.size ≤ w'.heap.size
  cell : ∀ {a : Addr} {v : Value}, w.cell? a = some v → w'.cell? a = some v
  box : ∀ {b : Nat} {cs : Array Value} {t : TypeId} {f : Nat × Nat}, w.heap[b]? = some (.cells cs t f) → w'.heap[b]? = some (.cells cs t f)
theorem Kept.refl (w : World) : Kept w w := ⟨Nat.le_refl _, fun h => h, fun h => h⟩
theorem Kept.of {w w' : World} {bm : Nat} {ns : List Node} (h : NM w bm ns) (m : Mod (FootM bm ns) w w') : Kept w w' := ⟨m.size, fun hc => h.cell m hc, fun hb => h.box m hb⟩
theorem Kept.mod {w w' : World} (m : Mod (fun _ => False) w w') : Kept w w' := ⟨m.size, fun h => m.cell h, fun h => m.heap h (fun f => f)⟩
theorem Kept.trans {w w1 w2 : World} (a : Kept w w1) (b : Kept w1 w2) : Kept w w2 := ⟨Nat.le_trans a.size b.size, fun h => b.cell (a.cell h), fun h => b.box (a.box h)⟩
theorem Kept.then {w w1 w2 : World} (a : Kept w w1) (m : Mod (fun _ => False) w1 w2) : Kept w w2 := a.trans (.mod m)
theorem Kept.rds {w w' : World} (h : Kept w w') {size n : Nat} {v : Value} {us : List Value} (hr : RdS w size v n us) : RdS w' size v n us :=
  ⟨hr.len, hr.shape, fun a c e j u hu => by
    obtain ⟨b, off, e1, hb, hc⟩ := hr.cell a c e j u hu
    exact ⟨b, off, e1, Nat.lt_of_lt_of_le hb h.size, h.cell hc⟩⟩
theorem Kept.seg {w w' : World} (h : Kept w w') {t : TypeId} {size n : Nat} {v : Value} {us : List Value} (hr : Seg w t size v n us) : Seg w' t size v n us := by
  refine ⟨hr.1, hr.2.1, ?_⟩
  rcases hr.2.2 with hn | ⟨g, off, cap, cur, rfl, hg, r⟩
  · exact .inl hn
  · exact .inr ⟨g, off, cap, cur, rfl, h.box hg, r⟩
/-- A graph on the way: what it holds; all of it is new memory since w. -/
structure GSt (w : World) (g bm : Nat) (L : Gr) (wr : World) : Prop where
  ex : ∃ ns, PG wr g bm ns ∧ ns.map Node.x = L ∧ ∀ b, FootN bm ns b → w.heap.size ≤ b
  good : Good L
  mod : Mod (fun _ => False) w wr
theorem GSt.keep {w wr wx : World} {g bm : Nat} {L : Gr} (h : GSt w g bm L wr) (m : Mod (fun _ => False) wr wx) : GSt w g bm L wx := by
  obtain ⟨ns, h1, h2, h3⟩ := h.ex
  exact ⟨⟨ns, h1.keep m, h2, h3⟩, h.good, h.mod.trans m⟩
/-- What is new memory may turn, where the graph isn't. -/
theorem GSt.more {S : Nat → Prop} {w wr wx : World} {g bm : Nat} {L : Gr} (h : GSt w g bm L wr) (m : Mod S wr wx) (hlo : ∀ b, S b → w.heap.size ≤ b) (hoff : ∀ b, S b → ∃ cs t f, wr.heap[b]? = some (.cells cs t f) ∧ t ≠ 76 ∧ t ≠ 46) : GSt w g bm L wx := by
  obtain ⟨ns, h1, h2, h3⟩ := h.ex
  refine ⟨⟨ns, h1.mod m (fun b hb s => ?_), h2, h3⟩, h.good, h.mod.trans' m (fun i hi s => by have := hlo i s; omega)⟩
  obtain ⟨cs, t, f, hc, e1, e2⟩ := hoff b s
  exact h1.off_box hc e1 e2 hb
theorem GSt.turned {w wr w' : World} {g bm : Nat} {L L' : Gr} {ns ns' : List Node} {off : Nat → Prop} (h : GSt w g bm L wr) (hlo : ∀ b, FootN bm ns b → w.heap.size ≤ b) (ht : Turned g bm ns L' off wr w' ns') (hL : Good L') : GSt w g bm L' w' := by
  have hs := h.mod.size
  refine ⟨⟨ns', ht.pg, ht.is, fun b hb => ?_⟩, hL, h.mod.trans' ht.mod (fun i hi f => ?_)⟩
  · rcases ht.new b hb with e | e
    · exact hlo b e
    · omega
  · have := hlo i f.foot; omega
/-- What Do does, of a graph on the way. -/
structure SDo (w : World) (g bm : Nat) (L : Gr) (r : Rqt) (wr : World) (vv vl : Value) (w' : World) : Prop where
  st : GSt w g bm (doG L r).1 w'
  kept : Kept wr w'
  vals : Seg w' 39 3 vv (doG L r).2.vals.length (vvcells (doG L r).2.vals)
  list : Seg w' 27 1 vl (doG L r).2.list.length ((doG L r).2.list.map (keyV .u32))
  newv : ∀ b, vv.ownBlock = some b → wr.heap.size ≤ b
  newl : ∀ b, vl.ownBlock = some b → wr.heap.size ≤ b
  pat : PatB valP w' vv
def SDoE (w : World) (g bm : Nat) (L : Gr) (r : Rqt) (wr : World) (e : Ending) (w' : World) : Prop :=
  ∃ vv vl, e = .returned (.agg #[.int .i64 ((doG L r).2.e : Nat), .int .i64 ((doG L r).2.at_ : Nat), vv, vl]) ∧ SDo w g bm L r wr vv vl w'
theorem DoA.sdo {w wr : World} {g bm : Nat} {L : Gr} {ns : List Node} {r : Rqt} (h : GSt w g bm L wr) (hp : PG wr g bm ns) (hx : ns.map Node.x = L) (hlo : ∀ b, FootN bm ns b → w.heap.size ≤ b) {e : Ending} {w' : World} (hd : DoA g bm ns r wr e w') : SDoE w g bm L r wr e w' := by
  subst hx
  obtain ⟨vv, vl, ns', rfl, ht, hv, hl, hnv, hnl, hpt⟩ := hd
  exact ⟨vv, vl, rfl, h.turned hlo ht (Good.do h.good _), .of hp.nm ht.mod, hv, hl, hnv, hnl, hpt⟩
theorem sdo_any (g bm : Nat) (L : Gr) (r : Rqt) (vo : Value) (w wr : World) (h : GSt w g bm L wr) (ho : ORd wr vo r.ops) (hvb : r.v < 4294967296) (hg : ErrT w) (hn : r.ops.length * 48 ≤ 140737488355328) :
    Calls Tryd.prog 6 #[.pointer (some ⟨g, 0, none⟩), rqV r vo] wr (SDoE w g bm L r wr) := by
  obtain ⟨ns, hp, hx, hlo⟩ := h.ex
  have hL : Good (ns.map Node.x) := by rw [hx]; exact h.good
  exact (ldo_any g bm ns r vo wr hp hL ho hvb (hg.keep h.mod (fun f => f)) hn).mono (fun e w' hd => hd.sdo h hp hx hlo)
theorem sgdo_any (g bm : Nat) (L : Gr) (r : Rqt) (vo : Value) (w wr : World) (h : GSt w g bm L wr) (ho : ORd wr vo r.ops) (hvb : r.v < 4294967296) (hg : ErrT w) :
    Calls Tryd.prog 8 #[.pointer (some ⟨g, 0, none⟩), rqV r vo] wr (SDoE w g bm L r wr) := by
  obtain ⟨ns, hp, hx, hlo⟩ := h.ex
  have hL : Good (ns.map Node.x) := by rw [hx]; exact h.good
  exact (gdo_any g bm ns r vo wr hp hL ho hvb (hg.keep h.mod (fun f => f))).mono (fun e w' hd => hd.sdo h hp hx hlo)
theorem slist_any (g bm : Nat) (L : Gr) (w wr : World) (h : GSt w g bm L wr) :
    Calls Tryd.prog 7 #[.pointer (some ⟨g, 0, none⟩)] wr fun e w' => ∃ v, e = .returned v ∧ SegN wr w' v (L.map Vtx.id) := by
  obtain ⟨ns, hp, hx, hlo⟩ := h.ex
  have hL : Good (ns.map Node.x) := by rw [hx]; exact h.good
  have := list_any g bm ns wr hp hL
  rwa [hx] at this
theorem snew_any (w wr : World) (m : Mod (fun _ => False) w wr) : Calls Tryd.prog 5 #[] wr fun e w' => e = .returned (.pointer (some ⟨wr.heap.size + 1, 0, none⟩)) ∧ Mod (fun _ => False) wr w' ∧ GSt w (wr.heap.size + 1) wr.heap.size [] w' ∧ wr.heap.size + 1 < w'.heap.size := by
  refine (new_pg wr).mono ?_
  rintro e w' ⟨rfl, m1, hp, hz⟩
  have := m.size
  refine ⟨rfl, m1, ⟨⟨[], hp, rfl, fun b hb => ?_⟩, Good.nil, m.trans m1⟩, hz⟩
  rcases hb with rfl | ⟨n, hn, _⟩
  · exact this
  · simp at hn
end Go.Proofs.YtbgjbikpenefoaaDoor

/- YBG: what is needed of it (by shake.py). -/

/- YBG, as far as the seat goes. -/
/- A list of vertices that a law collects; operations as an argument; a transaction in the laws' words. (Printed by gen_gall.py.) -/
namespace Go.Proofs.YtbgjbikpenefoaaDoor
set_option linter.unusedVariables false
set_option linter.unusedSimpArgs false
open Go.RowKit Go.Maps
section
open Go.ChangeShapes Go.WideShapes Go.ChangeAt
variable {H : Type} {enc : TypeId × Value → H} {W : World} {base : Nat} {v : Value} {d : DataW H} {p : List MemPlace}
end
theorem ocells_take (l : List Opr) (k : Nat) : (ocells l).take (k * 7) = ocells (l.take k) := by
  induction l generalizing k with
  | nil => simp [ocells]
  | cons s r ih =>
    cases k with
    | zero => simp [ocells]
    | succ k =>
      have : ocells (s :: r) = s.cells ++ ocells r := by simp [ocells]
      have h2 : ocells (s :: r.take k) = s.cells ++ ocells (r.take k) := by simp [ocells]
      rw [this, show (k + 1) * 7 = s.cells.length + k * 7 by rw [opr_cells s]; omega, List.take_length_add_append, List.take_succ_cons, h2, ih]
/-- The first operations of a list. -/
theorem ORd.to {w : World} {v : Value} {l : List Opr} (h : ORd w v l) {k : Nat} (hk : k ≤ l.length) (kk : IntKind) :
    ∃ a c, (∀ wx, (Instr.slice 26 v none (some (.int kk k)) none).run Tryd.prog wx = .ok (.slice a k c) wx) ∧ ORd w (.slice a k c) (l.take k) := by
  obtain ⟨v', h1, h2, _⟩ := h.row.cut (by omega) (lo := 0) (hi := k) (Nat.zero_le _) hk Tryd.underlying26 (e := 41) (by kernel_rfl) kk kk none (some (.int kk k)) (.inr ⟨rfl, rfl⟩) (.inl rfl)
  obtain ⟨a, c, rfl, -⟩ := h2.shape
  refine ⟨a, c, by simpa using h1, ?_, fun o ho => h.fits o (List.mem_of_mem_take ho)⟩
  rw [ocells_take] at h2
  simpa [List.length_take, Nat.min_eq_left hk] using h2
/-- A transaction by itself. -/
def txR (ops : List Opr) : Rqt := ⟨1, ops, 0, 0, 0⟩
theorem doG_tx_ok {L : Gr} {ops : List Opr} {p : Gr × List Val} (hc : checkR (txR ops) = 0) (h : okRun L ops = some p) : doG L (txR ops) = (p.1, ⟨0, 0, p.2, []⟩) := by
  unfold doG
  rw [if_neg (by simpa using hc)]
  simp only [txR, if_true]
  rw [h]
theorem doG_tx_no {L : Gr} {ops : List Opr} (hc : checkR (txR ops) = 0) (h : okRun L ops = none) : doG L (txR ops) = (L, ⟨(failG L 0 ops).1, (failG L 0 ops).2, [], []⟩) := by
  unfold doG
  rw [if_neg (by simpa using hc)]
  simp only [txR, if_true]
  rw [h]
theorem tx_good {ops : List Opr} (h1 : 1 ≤ ops.length) (h6 : ops.length ≤ 6) (ho : ∀ o ∈ ops, opOK o = true) : checkR (txR ops) = 0 := by
  unfold checkR txR
  simp only
  rw [if_neg (by omega), if_pos trivial, if_neg (by omega), if_neg (by rw [List.all_eq_true.2 ho]; simp), if_neg (by simp)]
end Go.Proofs.YtbgjbikpenefoaaDoor

/- YAC: what is needed of it (by shake.py). -/

/- YAC, as far as the seat goes. -/
/- gussetlaw03.awake: what its two requests answer, in plain Lean. -/
namespace Go.Proofs.YtbgjbikpenefoaaDoor
set_option linter.unusedVariables false
set_option linter.unusedSimpArgs false
open Go.RowKit
def aX : Val := ⟨2, 0, ⟨#[120]⟩⟩
def aFive : Val := ⟨1, 5, ⟨#[]⟩⟩
def aOps1 : List Opr := [⟨1, 1, 0, 0, noVal⟩, ⟨1, 2, 0, 0, noVal⟩, ⟨5, 1, 2, 0, aX⟩, ⟨3, 1, 0, 0, aFive⟩]
def aOps2 : List Opr := [⟨4, 1, 0, 0, noVal⟩, ⟨7, 2, 1, 0, noVal⟩]
theorem awake1 : (doG [] ⟨1, aOps1, 0, 0, 0⟩).2 = ⟨0, 0, [], []⟩ := by kernel_rfl
theorem awake2 : (doG (doG [] ⟨1, aOps1, 0, 0, 0⟩).1 ⟨1, aOps2, 0, 0, 0⟩).2 = ⟨0, 0, [aFive, aX], []⟩ := by kernel_rfl
end Go.Proofs.YtbgjbikpenefoaaDoor
