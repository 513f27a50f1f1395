/- Lemmas for the claim, in one text: YKVx, YO, YX, G1, PA, YBA, YBG. -/
import Derived.Test.YtnkmfgklmfmfeaaGreatDoorM11
import Derived.Test.YtnkmfgklmfmfeaaGreatDoorM16
import Derived.Test.YtnkmfgklmfmfeaaGreatDoorY1
import Derived.Test.YtnkmfgklmfmfeaaGreatDoorM06
import Derived.Test.YtnkmfgklmfmfeaaGreatDoorA
import Derived.Test.YtnkmfgklmfmfeaaGreatDoorM13
import Derived.Test.YtnkmfgklmfmfeaaGreatDoorM12
import Derived.Test.YtnkmfgklmfmfeaaGreatDoorM18
import Derived.Test.YtnkmfgklmfmfeaaGreatDoorM29
import Derived.Test.YtnkmfgklmfmfeaaGreatDoorM31
import Derived.Test.YtnkmfgklmfmfeaaGreatDoorM15
import Derived.Test.YtnkmfgklmfmfeaaGreatDoorY8

/- YKVx: what is needed of it (by shake.py). -/

/- YKVx, as far as the seat goes. -/
/- maps.Keys at map[uint32]*graph.vertex: an iterator that keeps its word. (Printed by genkeys.py.) -/
namespace Go.Proofs.YtnkmfgklmfmfeaaGreatDoor
set_option linter.unusedVariables false
open Go.RowKit Go.Maps
set_option maxRecDepth 100000 in
set_option maxHeartbeats 2000000 in
theorem keysStopVx (Bm b : Nat) (es : Ents) (w : World) (hBm : Bm < w.heap.size) (hm : w.cell? ⟨Bm, 0, none⟩ = some (.map (some b))) (hU : UMap Tryz.prog 28 .u32 w b es) :
    SeqStops Fence.wide 4 Tryz.prog 43 #[.pointer (some ⟨Bm, 0, none⟩)] (keyV .u32) (fun ss => ss.Perm (es.map (·.1))) (fun _ => True) es.length w := by
  intro l J Jx W hW hJ _ hY h0
  have hm' : W.cell? ⟨Bm, 0, none⟩ = some (.map (some b)) := (hW.cell (p := ⟨Bm, 0, none⟩) hBm).trans hm
  have hown : W.ownsMap Tryz.prog 28 rawE b es.length (entsD .u32 es) := by
    have hbl := hU.lt
    obtain ⟨xs, clock, hb, Ft, hs, hD⟩ := hU.own
    exact ⟨xs, clock, (hW.block b hbl).trans hb, Ft, hs, hD⟩
  have hsz : Maps.size (entsD .u32 es) = es.length := entsD_size _ _
  have hri := UMap.rising hU (int_keyed Tryz.underlying28)
  refine callsIn_of_wp Tryz.func43 rfl trivial ?_ rfl
  simp only [Tryz.ntmps43, List.size_toArray, List.length_cons, List.length_nil, Nat.reduceAdd, Nat.reduceSub, Array.replicate_succ, Array.replicate_zero, List.push_toArray, List.append_toArray, List.nil_append, List.cons_append]
  have HRI := Lib.hid hri
  have HSZ := Lib.hid hsz
  have HU := Lib.hid hU
  have HW := Lib.hid hW
  clear hri hsz hm hU hW
  gi_wp2_with (first
    | (gi_at_range; refine wpListIn_range_own _ rfl _ 66 rfl 28 71 (int_keyed Tryz.underlying28) Tryz.underlying66 _ b es.length _ rfl hown ?_; intro w0 hrg0 hg0 hs0)
    | gi_in)
  go_frame
  gi_loopw [3] (fun _ wr => ∃ (left : Lit → Bool) (cnt : Nat) (ss : List Nat), wr.ranges Tryz.prog 28 rawE b W.heap.size es.length (entsD .u32 es) left cnt ∧ ss.length + cnt ≤ es.length ∧ CollU .u32 es left ss ∧ J ss wr)
    (fun _ wr => wr.rangeLeft b W.heap.size)
  case atStart =>
    exact ⟨_, _, [], hrg0, by rw [HSZ.out]; simp, CollU.start _ _, hJ [] W w0 none h0 hg0 (fun r e => by cases e)⟩
  case round =>
    obtain ⟨left, cnt, ss, hrg, hcs, hC, hJs⟩ := hrel
    gi_wp2_with (first
      | (gi_at_next; refine wpListIn_next_ranges _ rfl _ rfl 28 (int_keyed Tryz.underlying28) rawE (keyV .u32) id (fun key kl hk => by obtain ⟨x, hx, _⟩ := key_nat (by simp) Tryz.underlying28 hk; exact ⟨x, hx⟩) (fun v _ _ => ⟨v, rfl⟩) b W.heap.size es.length _ _ _ rfl hrg ?_ ?_)
      | gi_in)
    · intro hc0 hl0
      gi_wp2
      go_end0
      exact ⟨⟨_, rfl⟩, .inl ⟨ss, hC.perm HRI.out hl0, hJs⟩⟩
    · intro x c kl yd yp w2 cnt2 hkey hlk hv hat hrg2 hlt hg2 hs2 hen
      obtain ⟨x', ex, rfl, _⟩ := key_nat (by simp) Tryz.underlying28 hkey
      obtain rfl : x = x' := keyV_inj ex
      have hJ2 : J ss w2 := hJ ss wr w2 (some W.heap.size) hJs hg2 (fun r e => by cases e; exact ⟨Nat.le_refl _, hrg.iter_walk⟩)
      obtain ⟨fn, tmps, assign, body, hy, hR⟩ := hY ss x w2 hJ2 (by omega)
      clear hs2
      gi_wp2
      refine hR.mono ?_
      have hC2 := hC.step hlk hat
      rintro e W3 (⟨rfl, hJ3, hk3⟩ | ⟨rfl, hJx3⟩)
      · gi_wp2
        have hrg3 := hrg2.of_walks hk3
        go_roundw
        case rel => exact ⟨_, cnt2, ss ++ [x], hrg3, by simp; omega, hC2, hJ3⟩
        case measure => rw [hrg3.left_eq, hrg.left_eq]; exact hlt
      · gi_wp2
        refine bodyPost_ret (results_none rfl _ _ _) rfl ?_
        exact ⟨⟨_, rfl⟩, .inr ⟨ss ++ [x], trivial, hJx3⟩⟩
theorem keysVx (mb : Option Nat) (w : World) : Calls Tryz.prog 22 #[.map mb] w fun e w' => e = .returned (.func (.func 43) #[] #[.pointer (some ⟨w.heap.size, 0, none⟩)]) ∧ w' = w.alloc (.cells #[.map mb] 66) := by
  go_enter Tryz.func22, Tryz.ntmps22
  go_wp2
  go_ret
  exact ⟨rfl, rfl⟩
/-- slices.Sorted(maps.Keys(m)): the keys, rising. -/
theorem sortedKeysVx (b : Nat) (es : Ents) (w : World) (hU : UMap Tryz.prog 28 .u32 w b es) (hl : es.length < 999999) :
    Calls Tryz.prog 21 #[.func (.func 43) #[] #[.pointer (some ⟨w.heap.size, 0, none⟩)]] (w.alloc (.cells #[.map (some b)] 66)) fun e w' => ∃ v, e = .returned v ∧ SegN w w' v (es.map (·.1)) := by
  have hri := UMap.rising hU (int_keyed Tryz.underlying28)
  refine (sorted_any _ _ (enters_of Tryz.func43 (by kernel_rfl) rfl) _ _ es.length hl (fun ss h => by rw [h.length_eq, List.length_map]; exact hl) _
    (keysStopVx w.heap.size b es _ (by simp) (by rw [cell_of_row (heap_alloc_new' w _)]; rfl) (hU.keep ((Mod.refl _ w).alloc _)))).mono ?_
  rintro e w' ⟨v, ss, ts, rfl, h1, h2, h3, h4⟩
  have e1 : ts = es.map (·.1) := rising_eq (by rw [List.pairwise_map]; exact hri) (h2.trans h1) h3
  subst e1
  exact ⟨v, rfl, h4.seg, fun k hk => by have := h4.own k hk; simp at this; omega, ((Mod.refl _ w).alloc _).trans h4.mod⟩
end Go.Proofs.YtnkmfgklmfmfeaaGreatDoor

/- YO: what is needed of it (by shake.py). -/

/- YO, as far as the seat goes. -/
/- graph.List, walked. -/
namespace Go.Proofs.YtnkmfgklmfmfeaaGreatDoor
set_option linter.unusedVariables false
set_option linter.unusedSimpArgs false
open Go.RowKit Go.Maps
set_option maxRecDepth 100000 in
set_option maxHeartbeats 2000000 in
theorem list_any (g bm : Nat) (ns : List Node) (w : World) (hp : PG w g bm ns) (hL : Good (ns.map Node.x)) :
    Calls Tryz.prog 10 #[.pointer (some ⟨g, 0, none⟩)] w fun e w' => ∃ v, e = .returned v ∧ SegN w w' v ((ns.map Node.x).map Vtx.id) := by
  have hlen : (ns.map Node.f).length < 999999 := by
    have := hL.short
    rw [List.length_map] at this ⊢
    omega
  have hK := sortedKeysVx bm (ns.map Node.f) w hp.nm.map hlen
  have e : (ns.map Node.f).map (·.1) = (ns.map Node.x).map Vtx.id := by simp [Node.f, Function.comp_def]
  rw [e] at hK
  have HK := Lib.hid hK
  have g0 := cell_of_row hp.cell 0
  have zg := lt_of_block hp.cell
  simp at g0
  clear hp hL hlen hK e
  go_enter Tryz.func10, Tryz.ntmps10
  go_wp2_with (first
    | (go_at_call 22; refine (keysVx (some bm) w).mono ?_; (rintro e w1 ⟨rfl, rfl⟩))
    | (go_at_call 21; refine HK.out.mono ?_; (rintro e w2 ⟨v, rfl, hs⟩); have HS := Lib.hid hs; clear hs))
  go_ret
  exact ⟨_, rfl, HS.out⟩
end Go.Proofs.YtnkmfgklmfmfeaaGreatDoor

/- YX: what is needed of it (by shake.py). -/

/- YX, as far as the seat goes. -/
/- graph.New: an empty graph. -/
namespace Go.Proofs.YtnkmfgklmfmfeaaGreatDoor
set_option linter.unusedVariables false
open Go.RowKit Go.Maps
theorem new_pg (w : World) : Calls Tryz.prog 7 #[] w fun e w' => e = .returned (.pointer (some ⟨w.heap.size + 1, 0, none⟩)) ∧ Mod (fun _ => False) w w' ∧ PG w' (w.heap.size + 1) w.heap.size [] ∧ w.heap.size + 1 < w'.heap.size := by
  refine (new_any w).mono ?_
  rintro e w' ⟨rfl, m, h⟩
  refine ⟨rfl, m, ⟨h.cell, ⟨h.map, fun _ h => by simp at h, fun _ h => by simp at h, fun _ h => by simp at h, fun _ h => by simp at h⟩, ?_⟩, lt_of_block h.cell⟩
  rintro (e | ⟨n, hn, _⟩)
  · omega
  · simp at hn
end Go.Proofs.YtnkmfgklmfmfeaaGreatDoor

/- G1: what is needed of it (by shake.py). -/

/- G1, as far as the seat goes. -/
/- Two tallies, each of its own; a vertex that lies at the bottom. -/
namespace Go.Proofs.YtnkmfgklmfmfeaaGreatDoor
set_option linter.unusedVariables false
open Go.RowKit Go.Maps
section
variable {w wx wy : World} {g1 h1 n1 g2 h2 n2 : Nat} {H1 H2 H' : Names} {m m' : Nat}
end
section
variable {w wx wy : World} {o : Array Value} {g1 h1 n1 g2 h2 n2 : Nat} {H1 H2 H' : Names} {m m' : Nat}
end
def gone (id : Nat) : Vtx := ⟨id, false, [], []⟩
end Go.Proofs.YtnkmfgklmfmfeaaGreatDoor

/- PA: what is needed of it (by shake.py). -/

/- PA, as far as the seat goes. -/
/- P1, P2 in one. -/
/- GhostPairs: both sides' counts come to the same (plain). -/
namespace Go.Proofs.YtnkmfgklmfmfeaaGreatDoor
set_option linter.unusedVariables false
set_option linter.unusedSimpArgs false
end Go.Proofs.YtnkmfgklmfmfeaaGreatDoor
/- GhostPairs: what comes in; requests one behind the other; a graph's vertices in two parts. -/
namespace Go.Proofs.YtnkmfgklmfmfeaaGreatDoor
set_option linter.unusedVariables false
set_option linter.unusedSimpArgs false
open Go.RowKit Go.ChangeShapes Go.WideShapes Go.ChangeAt
/-- A request as it lies in a list. -/
structure Qs where
  r : Rqt
  vo : Value
def Qs.cells (q : Qs) : List Value := [.int .u8 (q.r.kind : Int), q.vo, .int .u32 (q.r.v : Int), .int .i64 q.r.k, .int .i64 q.r.dest]
/-- What is known of a request's parts and size. -/
structure Qs.Small (q : Qs) : Prop where
  fits : q.r.Fits
  size : q.r.ops.length * 48 ≤ 140737488355328
structure QRd (w : World) (v : Value) (l : List Qs) : Prop where
  row : RdS w 5 v l.length (l.flatMap Qs.cells)
  each : ∀ q ∈ l, ORd w q.vo q.r.ops
  small : ∀ q ∈ l, q.Small
theorem QRd.keep {w w' : World} {v : Value} {l : List Qs} (h : QRd w v l) (m : Mod (fun _ => False) w w') : QRd w' v l := ⟨h.row.keep m, fun q hq => (h.each q hq).keep m, h.small⟩
theorem QRd.ent {w : World} {v : Value} {l : List Qs} (h : QRd w v l) {i : Nat} {x : Qs} (hi : l[i]? = some x) {a : Option Addr} {n c : Nat} (e : v = .slice a n c) :
    ∃ b off, a = some ⟨b, off, none⟩ ∧ b < w.heap.size ∧ w.cell? ⟨b, off + i * 5, none⟩ = some (.int .u8 (x.r.kind : Int)) ∧ w.cell? ⟨b, off + i * 5 + 1, none⟩ = some x.vo ∧ w.cell? ⟨b, off + i * 5 + 2, none⟩ = some (.int .u32 (x.r.v : Int)) ∧ w.cell? ⟨b, off + i * 5 + 3, none⟩ = some (.int .i64 x.r.k) ∧ w.cell? ⟨b, off + i * 5 + 4, none⟩ = some (.int .i64 x.r.dest) := by
  have g := fun j hj => flat_get Qs.cells (fun _ => rfl) l i j x hi (show j < 5 from hj)
  obtain ⟨a', c', e', -⟩ := h.row.shape
  rw [e] at e'
  injection e' with e1 e2 e3
  rw [e2] at e
  have k : ∀ j u, j < 5 → x.cells[j]? = some u → ∃ b off, a = some ⟨b, off, none⟩ ∧ b < w.heap.size ∧ w.cell? ⟨b, off + (i * 5 + j), none⟩ = some u := fun j u hj hu => h.row.cell a c e (i * 5 + j) u (by rw [g j hj]; exact hu)
  obtain ⟨b, off, ea, hb, h0⟩ := k 0 _ (by omega) rfl
  have r : ∀ j u, j < 5 → x.cells[j]? = some u → w.cell? ⟨b, off + (i * 5 + j), none⟩ = some u := fun j u hj hu => by
    obtain ⟨b1, off1, ea1, _, h1⟩ := k j u hj hu
    rw [ea] at ea1
    injection ea1 with e1; injection e1 with e1 e2
    subst e1 e2
    exact h1
  refine ⟨b, off, ea, hb, h0, ?_, ?_, ?_, ?_⟩
  · rw [Nat.add_assoc]; exact r 1 _ (by omega) rfl
  · rw [Nat.add_assoc]; exact r 2 _ (by omega) rfl
  · rw [Nat.add_assoc]; exact r 3 _ (by omega) rfl
  · rw [Nat.add_assoc]; exact r 4 _ (by omega) rfl
instance : Inhabited Opr := ⟨⟨0, 0, 0, 0, noVal⟩⟩
instance : Inhabited Qs := ⟨⟨⟨0, [], 0, 0, 0⟩, .slice none 0 0⟩⟩
section
variable {H : Type} {enc : TypeId × Value → H} {W : World} {base : Nat} {v : Value} {d : DataW H} {p : List MemPlace}
set_option maxRecDepth 100000 in
theorem in_op (n : Nat) (cs : List Value) (y : DataW H × List MemPlace) (hl : cs.length = 7) (h : DataW.trod enc Tryz.prog W 0 (fun _ => true) true n 101 cs = some y) (hw : okW 101 y.1) : ∃ x : Opr, cs = x.cells ∧ x.Fits := by
  obtain ⟨xs, n', _, _, _, hlen, hf⟩ := DataW.trod_struct Tryz.underlying101 h
  match cs, hl with
  | [c0, c1, c2, c3, c4, c5, c6], _ =>
    have c8 : Tryz.prog.cellsOf 5 = 1 := by kernel_rfl
    have cu : Tryz.prog.cellsOf 28 = 1 := by kernel_rfl
    have cv : Tryz.prog.cellsOf 55 = 3 := by kernel_rfl
    match xs, hlen with
    | [y0, y1, y2, y3, y4], _ =>
      have h0 : DataW.trod enc Tryz.prog W 0 (fun _ => true) true n' 5 ((List.drop 0 [c0, c1, c2, c3, c4, c5, c6]).take (Tryz.prog.cellsOf 5)) = some y0 := hf 0 _ rfl
      have h1 : DataW.trod enc Tryz.prog W 0 (fun _ => true) true n' 28 ((List.drop 1 [c0, c1, c2, c3, c4, c5, c6]).take (Tryz.prog.cellsOf 28)) = some y1 := hf 1 _ rfl
      have h2 : DataW.trod enc Tryz.prog W 0 (fun _ => true) true n' 28 ((List.drop 2 [c0, c1, c2, c3, c4, c5, c6]).take (Tryz.prog.cellsOf 28)) = some y2 := hf 2 _ rfl
      have h3 : DataW.trod enc Tryz.prog W 0 (fun _ => true) true n' 5 ((List.drop 3 [c0, c1, c2, c3, c4, c5, c6]).take (Tryz.prog.cellsOf 5)) = some y3 := hf 3 _ rfl
      have h4 : DataW.trod enc Tryz.prog W 0 (fun _ => true) true n' 55 ((List.drop 4 [c0, c1, c2, c3, c4, c5, c6]).take (Tryz.prog.cellsOf 55)) = some y4 := hf 4 _ rfl
      simp only [c8, cu, cv, List.drop_zero, List.take_succ_cons, List.take_zero, List.drop_succ_cons] at h0 h1 h2 h3 h4
      obtain ⟨a0, e0, _, w0⟩ := DataW.trod_int Tryz.underlying5 h0
      obtain ⟨a1, e1, _, w1⟩ := DataW.trod_int Tryz.underlying28 h1
      obtain ⟨a2, e2, _, w2⟩ := DataW.trod_int Tryz.underlying28 h2
      obtain ⟨a3, e3, _, w3⟩ := DataW.trod_int Tryz.underlying5 h3
      obtain ⟨v, e4, hv⟩ := in_val n' _ _ rfl h4
      simp only [List.cons.injEq, and_true] at e0 e1 e2 e3 e4
      have b0 := bounds_u8 w0
      have b1 := bounds_u32 w1
      have b2 := bounds_u32 w2
      have b3 := bounds_u8 w3
      obtain ⟨k0, rfl⟩ := Int.eq_ofNat_of_zero_le b0.1
      obtain ⟨k1, rfl⟩ := Int.eq_ofNat_of_zero_le b1.1
      obtain ⟨k2, rfl⟩ := Int.eq_ofNat_of_zero_le b2.1
      obtain ⟨k3, rfl⟩ := Int.eq_ofNat_of_zero_le b3.1
      obtain ⟨rfl, rfl, rfl⟩ := e4
      subst e0 e1 e2 e3
      exact ⟨⟨k0, k1, k2, k3, v⟩, rfl, by simp only; omega, by simp only; omega, by simp only; omega, by simp only; omega, hv⟩
set_option maxRecDepth 100000 in
theorem in_req (n : Nat) (cs : List Value) (y : DataW H × List MemPlace) (hl : cs.length = 5) (h : DataW.trod enc Tryz.prog W 0 (fun _ => true) true n 30 cs = some y) (hw : okW 30 y.1) : ∃ q : Qs, cs = q.cells ∧ ORd W q.vo q.r.ops ∧ q.Small := by
  obtain ⟨xs, n', _, hx, _, hlen, hf⟩ := DataW.trod_struct Tryz.underlying30 h
  match cs, hl with
  | [c0, c1, c2, c3, c4], _ =>
    have c8 : Tryz.prog.cellsOf 5 = 1 := by kernel_rfl
    have co : Tryz.prog.cellsOf 27 = 1 := by kernel_rfl
    have cu : Tryz.prog.cellsOf 28 = 1 := by kernel_rfl
    have ci : Tryz.prog.cellsOf 3 = 1 := by kernel_rfl
    match xs, hlen with
    | [y0, y1, y2, y3, y4], _ =>
      have h0 : DataW.trod enc Tryz.prog W 0 (fun _ => true) true n' 5 ((List.drop 0 [c0, c1, c2, c3, c4]).take (Tryz.prog.cellsOf 5)) = some y0 := hf 0 _ rfl
      have h1 : DataW.trod enc Tryz.prog W 0 (fun _ => true) true n' 27 ((List.drop 1 [c0, c1, c2, c3, c4]).take (Tryz.prog.cellsOf 27)) = some y1 := hf 1 _ rfl
      have h2 : DataW.trod enc Tryz.prog W 0 (fun _ => true) true n' 28 ((List.drop 2 [c0, c1, c2, c3, c4]).take (Tryz.prog.cellsOf 28)) = some y2 := hf 2 _ rfl
      have h3 : DataW.trod enc Tryz.prog W 0 (fun _ => true) true n' 3 ((List.drop 3 [c0, c1, c2, c3, c4]).take (Tryz.prog.cellsOf 3)) = some y3 := hf 3 _ rfl
      have h4 : DataW.trod enc Tryz.prog W 0 (fun _ => true) true n' 3 ((List.drop 4 [c0, c1, c2, c3, c4]).take (Tryz.prog.cellsOf 3)) = some y4 := hf 4 _ rfl
      simp only [c8, co, cu, ci, List.drop_zero, List.take_succ_cons, List.take_zero, List.drop_succ_cons] at h0 h1 h2 h3 h4
      have hy : y.1 = .agg ([y0, y1, y2, y3, y4].map (·.1)) := by rw [hx]
      rw [hy] at hw
      have w1 : okW 27 y1.1 := okW_part Tryz.underlying30 hw (j := 1) rfl rfl
      obtain ⟨a0, e0, _, u0⟩ := DataW.trod_int Tryz.underlying5 h0
      obtain ⟨a2, e2, _, u2⟩ := DataW.trod_int Tryz.underlying28 h2
      obtain ⟨a3, e3, _, u3⟩ := DataW.trod_int Tryz.underlying3 h3
      obtain ⟨a4, e4, _, u4⟩ := DataW.trod_int Tryz.underlying3 h4
      obtain ⟨os, ro, go, zo⟩ := in_slice Tryz.underlying27 (size := 7) (by kernel_rfl) (by omega) Opr.cells opr_cells Opr.Fits in_op h1 w1
      simp only [List.cons.injEq, and_true] at e0 e2 e3 e4
      have b0 := bounds_u8 u0
      have b2 := bounds_u32 u2
      have b3 := bounds_i64 u3
      have b4 := bounds_i64 u4
      have bo : Tryz.prog.bytesOf 101 = 48 := by kernel_rfl
      rw [bo] at zo
      have zo' : os.length * 48 ≤ 140737488355328 := Nat.le_trans zo (by decide)
      obtain ⟨k0, rfl⟩ := Int.eq_ofNat_of_zero_le b0.1
      obtain ⟨k2, rfl⟩ := Int.eq_ofNat_of_zero_le b2.1
      subst e0 e2 e3 e4
      exact ⟨⟨⟨k0, os, k2, a3, a4⟩, c1⟩, rfl, ⟨ro, go⟩, ⟨⟨by simp only; omega, by simp only; omega, by simp only; omega, by simp only; omega⟩, zo'⟩⟩
def InReqs (W : World) (v : Value) : Prop := ∃ l, QRd W v l
set_option maxRecDepth 100000 in
theorem in_reqs (hv : Value.okWide Tryz.prog W .any base 22 v) (h : DataW.Trod enc Tryz.prog W 0 (fun _ => true) true 22 v d p) (hs : okW 22 d) : InReqs W v := by
  obtain ⟨a0, len0, cap0, rfl⟩ := okWide_slice Tryz.underlying22 hv
  obtain ⟨fuel, hf⟩ := h
  obtain ⟨l, rl, gl, _⟩ := in_slice Tryz.underlying22 (size := 5) (by kernel_rfl) (by omega) Qs.cells (fun _ => rfl) (fun q => ORd W q.vo q.r.ops ∧ q.Small) in_req (u := .slice a0 len0 cap0) (y := (d, p)) (by simpa [Value.cells] using hf) hs
  exact ⟨l, rl, fun q hq => (gl q hq).1, fun q hq => (gl q hq).2⟩
end
/-- A vertex' slices lie in no block of vertices. -/
theorem VOwn.off_seg {w : World} {s : Vs} (h : VOwn w s) {v : Value} {size n : Nat} {xs : List Value} (hs : Seg w 44 size v n xs) : VOff (fun k => v.ownBlock = some k) s := by
  have key : ∀ b, v.ownBlock = some b → ∃ cur, w.heap[b]? = some (.cells cur 44 (0, 0)) := by
    intro b hb
    rcases hs.2.2 with ⟨rfl, _⟩ | ⟨g, off, cap, cur, rfl, hg, _⟩
    · simp [Value.ownBlock] at hb
    · simp [Value.ownBlock] at hb; subst hb; exact ⟨_, hg⟩
  have two : ∀ {t : TypeId} {u : Value} {m : Nat} {ys : List Value}, Seg w t 4 u m ys → t ≠ 44 → ∀ b, u.ownBlock = some b → ¬ v.ownBlock = some b := by
    intro t u m ys hu ht b hb e
    obtain ⟨cur, hc⟩ := key b e
    rcases hu.2.2 with ⟨rfl, _⟩ | ⟨g, off, cap, cur2, rfl, hg, _⟩
    · simp [Value.ownBlock] at hb
    · simp [Value.ownBlock] at hb
      subst hb
      rw [hc] at hg
      injection hg with hg
      injection hg with _ h2
      exact ht h2.symm
  exact ⟨two h.props (by decide), two h.halves (by decide)⟩
theorem VOwn.off_box {w : World} {s : Vs} (h : VOwn w s) {g : Nat} {cs : Array Value} {t : TypeId} (hg : w.heap[g]? = some (.cells cs t (0, 0))) (h1 : 86 ≠ t) (h2 : 57 ≠ t) : VOff (fun k => k = g) s := ⟨h.props.off_box hg h1, h.halves.off_box hg h2⟩
theorem LOwn.off_box {w : World} {v : Value} {l : List Vs} (h : LOwn w v l) {g : Nat} {cs : Array Value} {t : TypeId} (hg : w.heap[g]? = some (.cells cs t (0, 0))) (h0 : 44 ≠ t) (h1 : 86 ≠ t) (h2 : 57 ≠ t) : LOff (fun k => k = g) v l := ⟨h.row.off_box hg h0, fun s hs => (h.each s hs).off_box hg h1 h2⟩
theorem own_snoc {w wy : World} {v v' : Value} {l : List Vs} {s : Vs} (h : LOwn w v l) (hv : VOwn w s) (hs : Seg wy 44 4 v' (l.length + 1) (vcells l ++ s.cells)) (hg : w.grownBy wy v.ownBlock) : LOwn wy v' (l ++ [s]) := by
  have hm := mod_grown hg
  have he : ∀ t ∈ l ++ [s], VOwn wy t := fun t ht => by
    rcases List.mem_append.1 ht with ht | ht
    · exact (h.each t ht).mod hm (h.apart t ht)
    · rw [List.mem_singleton] at ht; subst ht; exact hv.mod hm (hv.off_seg h.row)
  have hs' : Seg wy 44 4 v' (l ++ [s]).length (vcells (l ++ [s])) := by rw [vcells_snoc, List.length_append]; exact hs
  exact ⟨hs', he, fun t ht => (he t ht).off_seg hs'⟩
end Go.Proofs.YtnkmfgklmfmfeaaGreatDoor

/- YBA: what is needed of it (by shake.py). -/

/- YBA, as far as the seat goes. -/
/- A graph of one's own on the way in a law: what it holds, who keeps what; a request over a copy; Do; List; Vertex. -/
namespace Go.Proofs.YtnkmfgklmfmfeaaGreatDoor
set_option linter.unusedVariables false
set_option linter.unusedSimpArgs false
open Go.RowKit Go.Maps
/-- What was there is there: cells, blocks of cells. -/
structure Kept (w w' : World) : Prop where
  size : w.heap.size ≤ w'.heap.size
  cell : ∀ {a : Addr} {v : Value}, w.cell? a = some v → w'.cell? a = some v
  box : ∀ {b : Nat} {cs : Array Value} {t : TypeId} {f : Nat × Nat}, w.heap[b]? = some (.cells cs t f) → w'.heap[b]? = some (.cells cs t f)
theorem Kept.refl (w : World) : Kept w w := ⟨Nat.le_refl _, fun h => h, fun h => h⟩
theorem Kept.of {w w' : World} {bm : Nat} {ns : List Node} (h : NM w bm ns) (m : Mod (FootM bm ns) w w') : Kept w w' := ⟨m.size, fun hc => h.cell m hc, fun hb => h.box m hb⟩
theorem Kept.mod {w w' : World} (m : Mod (fun _ => False) w w') : Kept w w' := ⟨m.size, fun h => m.cell h, fun h => m.heap h (fun f => f)⟩
theorem Kept.trans {w w1 w2 : World} (a : Kept w w1) (b : Kept w1 w2) : Kept w w2 := ⟨Nat.le_trans a.size b.size, fun h => b.cell (a.cell h), fun h => b.box (a.box h)⟩
theorem Kept.then {w w1 w2 : World} (a : Kept w w1) (m : Mod (fun _ => False) w1 w2) : Kept w w2 := a.trans (.mod m)
theorem Kept.seg {w w' : World} (h : Kept w w') {t : TypeId} {size n : Nat} {v : Value} {us : List Value} (hr : Seg w t size v n us) : Seg w' t size v n us := by
  refine ⟨hr.1, hr.2.1, ?_⟩
  rcases hr.2.2 with hn | ⟨g, off, cap, cur, rfl, hg, r⟩
  · exact .inl hn
  · exact .inr ⟨g, off, cap, cur, rfl, h.box hg, r⟩
/-- A graph on the way: what it holds; all of it is new memory since w. -/
structure GSt (w : World) (g bm : Nat) (L : Gr) (wr : World) : Prop where
  ex : ∃ ns, PG wr g bm ns ∧ ns.map Node.x = L ∧ ∀ b, FootN bm ns b → w.heap.size ≤ b
  good : Good L
  mod : Mod (fun _ => False) w wr
theorem GSt.keep {w wr wx : World} {g bm : Nat} {L : Gr} (h : GSt w g bm L wr) (m : Mod (fun _ => False) wr wx) : GSt w g bm L wx := by
  obtain ⟨ns, h1, h2, h3⟩ := h.ex
  exact ⟨⟨ns, h1.keep m, h2, h3⟩, h.good, h.mod.trans m⟩
/-- What is new memory may turn, where the graph isn't. -/
theorem GSt.more {S : Nat → Prop} {w wr wx : World} {g bm : Nat} {L : Gr} (h : GSt w g bm L wr) (m : Mod S wr wx) (hlo : ∀ b, S b → w.heap.size ≤ b) (hoff : ∀ b, S b → ∃ cs t f, wr.heap[b]? = some (.cells cs t f) ∧ t ≠ 84 ∧ t ≠ 68) : GSt w g bm L wx := by
  obtain ⟨ns, h1, h2, h3⟩ := h.ex
  refine ⟨⟨ns, h1.mod m (fun b hb s => ?_), h2, h3⟩, h.good, h.mod.trans' m (fun i hi s => by have := hlo i s; omega)⟩
  obtain ⟨cs, t, f, hc, e1, e2⟩ := hoff b s
  exact h1.off_box hc e1 e2 hb
theorem GSt.turned {w wr w' : World} {g bm : Nat} {L L' : Gr} {ns ns' : List Node} {off : Nat → Prop} (h : GSt w g bm L wr) (hlo : ∀ b, FootN bm ns b → w.heap.size ≤ b) (ht : Turned g bm ns L' off wr w' ns') (hL : Good L') : GSt w g bm L' w' := by
  have hs := h.mod.size
  refine ⟨⟨ns', ht.pg, ht.is, fun b hb => ?_⟩, hL, h.mod.trans' ht.mod (fun i hi f => ?_)⟩
  · rcases ht.new b hb with e | e
    · exact hlo b e
    · omega
  · have := hlo i f.foot; omega
/-- What Do does, of a graph on the way. -/
structure SDo (w : World) (g bm : Nat) (L : Gr) (r : Rqt) (wr : World) (vv vl : Value) (w' : World) : Prop where
  st : GSt w g bm (doG L r).1 w'
  kept : Kept wr w'
  vals : Seg w' 55 3 vv (doG L r).2.vals.length (vvcells (doG L r).2.vals)
  list : Seg w' 28 1 vl (doG L r).2.list.length ((doG L r).2.list.map (keyV .u32))
  newv : ∀ b, vv.ownBlock = some b → wr.heap.size ≤ b
  newl : ∀ b, vl.ownBlock = some b → wr.heap.size ≤ b
  pat : PatB valP w' vv
def SDoE (w : World) (g bm : Nat) (L : Gr) (r : Rqt) (wr : World) (e : Ending) (w' : World) : Prop :=
  ∃ vv vl, e = .returned (.agg #[.int .i64 ((doG L r).2.e : Nat), .int .i64 ((doG L r).2.at_ : Nat), vv, vl]) ∧ SDo w g bm L r wr vv vl w'
theorem DoA.sdo {w wr : World} {g bm : Nat} {L : Gr} {ns : List Node} {r : Rqt} (h : GSt w g bm L wr) (hp : PG wr g bm ns) (hx : ns.map Node.x = L) (hlo : ∀ b, FootN bm ns b → w.heap.size ≤ b) {e : Ending} {w' : World} (hd : DoA g bm ns r wr e w') : SDoE w g bm L r wr e w' := by
  subst hx
  obtain ⟨vv, vl, ns', rfl, ht, hv, hl, hnv, hnl, hpt⟩ := hd
  exact ⟨vv, vl, rfl, h.turned hlo ht (Good.do h.good _), .of hp.nm ht.mod, hv, hl, hnv, hnl, hpt⟩
theorem sgdo_any (g bm : Nat) (L : Gr) (r : Rqt) (vo : Value) (w wr : World) (h : GSt w g bm L wr) (ho : ORd wr vo r.ops) (hvb : r.v < 4294967296) (hg : ErrT w) :
    Calls Tryz.prog 8 #[.pointer (some ⟨g, 0, none⟩), rqV r vo] wr (SDoE w g bm L r wr) := by
  obtain ⟨ns, hp, hx, hlo⟩ := h.ex
  have hL : Good (ns.map Node.x) := by rw [hx]; exact h.good
  exact (gdo_any g bm ns r vo wr hp hL ho hvb (hg.keep h.mod (fun f => f))).mono (fun e w' hd => hd.sdo h hp hx hlo)
theorem slist_any (g bm : Nat) (L : Gr) (w wr : World) (h : GSt w g bm L wr) :
    Calls Tryz.prog 10 #[.pointer (some ⟨g, 0, none⟩)] wr fun e w' => ∃ v, e = .returned v ∧ SegN wr w' v (L.map Vtx.id) := by
  obtain ⟨ns, hp, hx, hlo⟩ := h.ex
  have hL : Good (ns.map Node.x) := by rw [hx]; exact h.good
  have := list_any g bm ns wr hp hL
  rwa [hx] at this
theorem svertex_any (g bm : Nat) (L : Gr) (id : Nat) (w wr : World) (h : GSt w g bm L wr) (hid : id < 4294967296) :
    Calls Tryz.prog 11 #[.pointer (some ⟨g, 0, none⟩), .int .u32 (id : Int)] wr (Twins wr (tellV L id)) := by
  obtain ⟨ns, hp, hx, hlo⟩ := h.ex
  have hL : Good (ns.map Node.x) := by rw [hx]; exact h.good
  have := gvertex_any g bm ns id wr hp hL hid
  rwa [hx] at this
theorem snew_any (w wr : World) (m : Mod (fun _ => False) w wr) : Calls Tryz.prog 7 #[] wr fun e w' => e = .returned (.pointer (some ⟨wr.heap.size + 1, 0, none⟩)) ∧ Mod (fun _ => False) wr w' ∧ GSt w (wr.heap.size + 1) wr.heap.size [] w' ∧ wr.heap.size + 1 < w'.heap.size := by
  refine (new_pg wr).mono ?_
  rintro e w' ⟨rfl, m1, hp, hz⟩
  have := m.size
  refine ⟨rfl, m1, ⟨⟨[], hp, rfl, fun b hb => ?_⟩, Good.nil, m.trans m1⟩, hz⟩
  rcases hb with rfl | ⟨n, hn, _⟩
  · exact this
  · simp at hn
/-- Vertex told of one that is there. -/
theorem tellV_mem {L : Gr} (hr : Rising Vtx.id L) {x : Vtx} (hx : x ∈ L) : tellV L x.id = x := by
  unfold tellV
  rw [(findV_iff hr).2 ⟨hx, rfl⟩]
  rfl
end Go.Proofs.YtnkmfgklmfmfeaaGreatDoor

/- YBG: what is needed of it (by shake.py). -/

/- YBG, as far as the seat goes. -/
/- A list of vertices that a law collects; operations as an argument; a transaction in the laws' words. (Printed by gen_gall.py.) -/
namespace Go.Proofs.YtnkmfgklmfmfeaaGreatDoor
set_option linter.unusedVariables false
set_option linter.unusedSimpArgs false
open Go.RowKit Go.Maps
/-- A list of vertices of one's own. -/
structure BfAt (w2 : World) (v : Value) (bl : List Vs) (wr : World) : Prop where
  mod : Mod (fun _ => False) w2 wr
  la : LOwn wr v bl
  oa : ∀ b, v.ownBlock = some b → w2.heap.size ≤ b
theorem BfAt.start (w2 : World) : BfAt w2 (.slice none 0 0) [] w2 := ⟨Mod.refl _ _, LOwn.nil _, fun b hb => by simp [Value.ownBlock] at hb⟩
theorem BfAt.keep {w2 wr wx : World} {v : Value} {bl : List Vs} (h : BfAt w2 v bl wr) (m : Mod (fun _ => False) wr wx) : BfAt w2 v bl wx := ⟨h.mod.trans m, h.la.mod m ⟨fun _ _ f => f, fun _ _ => ⟨fun _ _ f => f, fun _ _ f => f⟩⟩, h.oa⟩
theorem bf_snoc {w wy : World} {v v' : Value} {l : List Vs} {s : Vs} (h : LOwn w v l) (hv : VOwn w s) (hs : Seg wy 44 4 v' (l.length + 1) (vcells l ++ s.cells)) (hg : w.grownBy wy v.ownBlock) : LOwn wy v' (l ++ [s]) := own_snoc h hv hs hg
theorem BfAt.next {w2 w5 w3 : World} {v v3 : Value} {bl : List Vs} {s : Vs} (h : BfAt w2 v bl w5) (hv : VOwn w5 s) (hs : Seg w3 44 4 v3 (bl.length + 1) (vcells bl ++ s.cells)) (hg : w5.grownBy w3 v.ownBlock) (ho : v3.ownBlock = v.ownBlock ∨ v3.ownBlock = some w5.heap.size) : BfAt w2 v3 (bl ++ [s]) w3 := by
  refine ⟨h.mod.grown hg (fun b hb hlt => by have := h.oa b hb; omega), bf_snoc h.la hv hs hg, fun b hb => ?_⟩
  rcases ho with e | e
  · exact h.oa b (e ▸ hb)
  · rw [e] at hb; injection hb with hb
    have := h.mod.size; omega
section
open Go.ChangeShapes Go.WideShapes Go.ChangeAt
variable {H : Type} {enc : TypeId × Value → H} {W : World} {base : Nat} {v : Value} {d : DataW H} {p : List MemPlace}
end
theorem ocells_take (l : List Opr) (k : Nat) : (ocells l).take (k * 7) = ocells (l.take k) := by
  induction l generalizing k with
  | nil => simp [ocells]
  | cons s r ih =>
    cases k with
    | zero => simp [ocells]
    | succ k =>
      have : ocells (s :: r) = s.cells ++ ocells r := by simp [ocells]
      have h2 : ocells (s :: r.take k) = s.cells ++ ocells (r.take k) := by simp [ocells]
      rw [this, show (k + 1) * 7 = s.cells.length + k * 7 by rw [opr_cells s]; omega, List.take_length_add_append, List.take_succ_cons, h2, ih]
/-- The first operations of a list. -/
theorem ORd.to {w : World} {v : Value} {l : List Opr} (h : ORd w v l) {k : Nat} (hk : k ≤ l.length) (kk : IntKind) :
    ∃ a c, (∀ wx, (Instr.slice 27 v none (some (.int kk k)) none).run Tryz.prog wx = .ok (.slice a k c) wx) ∧ ORd w (.slice a k c) (l.take k) := by
  obtain ⟨v', h1, h2, _⟩ := h.row.cut (by omega) (lo := 0) (hi := k) (Nat.zero_le _) hk Tryz.underlying27 (e := 101) (by kernel_rfl) kk kk none (some (.int kk k)) (.inr ⟨rfl, rfl⟩) (.inl rfl)
  obtain ⟨a, c, rfl, -⟩ := h2.shape
  refine ⟨a, c, by simpa using h1, ?_, fun o ho => h.fits o (List.mem_of_mem_take ho)⟩
  rw [ocells_take] at h2
  simpa [List.length_take, Nat.min_eq_left hk] using h2
end Go.Proofs.YtnkmfgklmfmfeaaGreatDoor
