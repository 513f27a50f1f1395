/- Lemmas for the claim, in one text: YBR, YAC, YAD. -/
import Derived.Test.YtbgjbikpenefoaaGreatDoorM42
import Derived.Test.YtbgjbikpenefoaaGreatDoorM37
import Derived.Test.YtbgjbikpenefoaaGreatDoorM40

/- YBR: what is needed of it (by shake.py). -/

/- YBR, as far as the seat goes. -/
/- Slices of one's own whose elements are turned, one field of each; what stands behind that. -/
namespace Go.Proofs.YtbgjbikpenefoaaGreatDoor
set_option linter.unusedVariables false
set_option linter.unusedSimpArgs false
open Go.RowKit Go.Maps
/-- A slice of one's own of which one field of each element is turned. -/
structure TL (W : World) (t : TypeId) (size n fld : Nat) (ok : Value → Prop) (vv : Value) (wx : World) : Prop where
  mod : Mod (fun k => vv.ownBlock = some k) W wx
  seg : ∃ us, Seg wx t size vv n us ∧ ∀ j, j < n → ∃ u, us[j * size + fld]? = some u ∧ ok u
theorem TL.start {W : World} {t : TypeId} {size n fld : Nat} {ok : Value → Prop} {vv : Value} {us : List Value} (h : Seg W t size vv n us) (hok : ∀ j, j < n → ∃ u, us[j * size + fld]? = some u ∧ ok u) : TL W t size n fld ok vv W := ⟨Mod.refl _ _, us, h, hok⟩
theorem TL.keep {W : World} {t : TypeId} {size n fld : Nat} {ok : Value → Prop} {vv : Value} {wx wy : World} (h : TL W t size n fld ok vv wx) (m : Mod (fun _ => False) wx wy) : TL W t size n fld ok vv wy := by
  obtain ⟨us, hs, ho⟩ := h.seg
  exact ⟨h.mod.trans (m.mono (fun _ _ f => f.elim)), us, hs.mod m (fun _ _ f => f), ho⟩
theorem TL.at {W : World} {t : TypeId} {size n fld : Nat} {ok : Value → Prop} {vv : Value} {wx : World} (h : TL W t size n fld ok vv wx) {j : Nat} (hj : j < n) (hf : fld < size) :
    ∃ b off cap u, vv = .slice (some ⟨b, off, none⟩) n cap ∧ n ≤ cap ∧ cap ≤ maxLen ∧ wx.cell? ⟨b, off + (j * size + fld), none⟩ = some u ∧ ok u ∧ wx.frozen? ⟨b, off + (j * size + fld), none⟩ = false ∧ b < wx.heap.size ∧ (∃ cur, wx.heap[b]? = some (.cells cur t (0, 0))) ∧
      ∀ u', ok u' → u'.oneCell' = true → TL W t size n fld ok vv (wx.setCell ⟨b, off + (j * size + fld), none⟩ u') := by
  obtain ⟨us, hs, ho⟩ := h.seg
  obtain ⟨g, off, cap, rfl, h1, h2, h3, h4⟩ := hs.open (by omega)
  have hlt : j * size + fld < n * size := by
    have : (j + 1) * size ≤ n * size := Nat.mul_le_mul_right _ hj
    have e : (j + 1) * size = j * size + size := by rw [Nat.add_mul, Nat.one_mul]
    omega
  obtain ⟨u, hu, hok⟩ := ho j hj
  refine ⟨g, off, cap, u, rfl, h1, h2, (h4 _ hlt).1.trans hu, hok, (h4 _ hlt).2, h3, seg_box hs rfl, fun u' ok' one => ⟨h.mod.setCell (p := ⟨g, off + (j * size + fld), none⟩) (fun _ => rfl) u', us.set (j * size + fld) u', hs.set hlt u' one, fun j' hj' => ?_⟩⟩
  obtain ⟨x, hx, hox⟩ := ho j' hj'
  rw [List.getElem?_set]
  by_cases e : j * size + fld = j' * size + fld
  · rw [if_pos e, if_pos (by have := (List.getElem?_eq_some_iff.1 hu).1; exact this)]
    exact ⟨u', rfl, ok'⟩
  · rw [if_neg e]
    exact ⟨x, hx, hox⟩
abbrev okI (k : IntKind) (u : Value) : Prop := ∃ i, u = .int k i
theorem vvcells_at : ∀ (l : List Val) (j : Nat), j < l.length → ∃ u, (vvcells l)[j * 3 + 1]? = some u ∧ okI .i64 u
  | [], j, h => by simp at h
  | x :: r, 0, h => ⟨.int .i64 x.n, by simp [vvcells, Val.cells], _, rfl⟩
  | x :: r, j + 1, h => by
    obtain ⟨u, hu, ho⟩ := vvcells_at r j (by simpa using h)
    refine ⟨u, ?_, ho⟩
    show (x.cells ++ vvcells r)[(j + 1) * 3 + 1]? = some u
    rw [List.getElem?_append_right (by simp [Val.cells]; omega), show (j + 1) * 3 + 1 - x.cells.length = j * 3 + 1 by simp [Val.cells]; omega]
    exact hu
theorem numcells_at (k : IntKind) (l : List Nat) (j : Nat) (h : j < l.length) : ∃ u, (l.map (keyV k))[j * 1 + 0]? = some u ∧ okI k u := by
  refine ⟨.int k (l[j] : Int), ?_, _, rfl⟩
  rw [Nat.mul_one, Nat.add_zero, List.getElem?_map, List.getElem?_eq_getElem h]
  rfl
theorem entcells_at (k : IntKind) : ∀ (l : List Ent) (j : Nat), j < l.length → ∃ u, (cellsOf k l)[j * 4 + 0]? = some u ∧ okI k u
  | [], j, h => by simp at h
  | x :: r, 0, h => ⟨_, by simp [cellsOf, Ent.cells]; rfl, _, rfl⟩
  | x :: r, j + 1, h => by
    obtain ⟨u, hu, ho⟩ := entcells_at k r j (by simpa using h)
    refine ⟨u, ?_, ho⟩
    show (x.cells k ++ cellsOf k r)[(j + 1) * 4 + 0]? = some u
    rw [List.getElem?_append_right (by simp [Ent.cells]; omega), show (j + 1) * 4 + 0 - (x.cells k).length = j * 4 + 0 by simp [Ent.cells]; omega]
    exact hu
theorem Kept.after {S : Nat → Prop} {w w1 w2 : World} (k : Kept w w1) (m : Mod S w1 w2) (hS : ∀ b, S b → w.heap.size ≤ b) : Kept w w2 := by
  refine ⟨Nat.le_trans k.size m.size, fun {p v} h => ?_, fun {b cs t f} h => ?_⟩
  · have hb : p.block < w.heap.size := World.block_lt_of_cell? _ _ h
    exact (World.cell?_of_block (w := w1) (m.block p.block (Nat.lt_of_lt_of_le hb k.size) (fun e => by have := hS _ e; omega))).trans (k.cell h)
  · have hb := lt_of_block h
    exact m.heap (k.box h) (fun e => by have := hS _ e; omega)
/-- Values of one's own are turned: both graphs are as they were. -/
theorem Py.vals {w wr wx : World} {g bm gr n : Nat} {L : Gr} {vv : Value} {us : List Value} (h : Py w g bm gr L wr) (hs : Seg wr 44 3 vv n us) (hp : PatB valP wr vv) (hn : ∀ b, vv.ownBlock = some b → w.heap.size ≤ b) (m : Mod (fun k => vv.ownBlock = some k) wr wx) : Py w g bm gr L wx := by
  refine ⟨h.st.more2 m hn (fun b hb hlt => ?_), ?_, h.lo⟩
  · obtain ⟨cur, hc⟩ := seg_box hs hb
    exact ⟨_, _, _, hc, by decide, by decide⟩
  · obtain ⟨gv, l, hg, hl⟩ := h.rf
    rcases hs.2.2 with ⟨rfl, _⟩ | ⟨b, off, cap, cur, rfl, hb, _⟩
    · exact ⟨gv, l, hg.keep (m.mono (fun k _ e => by simp [Value.ownBlock] at e)), hl⟩
    · obtain ⟨-, cur', t, hb', hpt⟩ := hp b off n cap rfl
      have m' : Mod (fun k => k = b) wr wx := m.mono (fun k _ e => by simp [Value.ownBlock] at e; exact e.symm)
      refine ⟨gv, l, ⟨m'.heap hg.box (fun e => ?_), hg.lst.offC hb' (noRow_vals hpt) m'⟩, hl⟩
      have hx := hg.box
      rw [e, hb] at hx
      injection hx with hx
      injection hx with _ hx _
      exact absurd hx (by decide)
/-- A list of one's own is turned: where there is one, nothing has turned with the document's graph. -/
theorem Py.list {w wr wx W0 : World} {g bm gr n : Nat} {L0 L : Gr} {vl : Value} {us : List Value} (h : Py w g bm gr L wr) (hs : Seg wr 23 1 vl n us) (hn : ∀ b, vl.ownBlock = some b → W0.heap.size ≤ b) (h0 : Py w g bm gr L0 W0) (hk : 0 < n → L0 = L ∧ Kept W0 wr) (hz : n = 0 → wx = wr) (m : Mod (fun k => vl.ownBlock = some k) wr wx) : Py w g bm gr L wx := by
  rcases Nat.eq_zero_or_pos n with hn0 | hn0
  · rw [hz hn0]; exact h
  · obtain ⟨rfl, k⟩ := hk hn0
    have hw := h0.st.mod.size
    exact ⟨h.st.more2 m (fun b hb => Nat.le_trans hw (hn b hb)) (fun b hb hlt => by
      obtain ⟨cur, hc⟩ := seg_box hs hb
      exact ⟨_, _, _, hc, by decide, by decide⟩), rf_kept h0.rf (k.after m hn), h.lo⟩
theorem Pz.keep {w W0 wx wy : World} {g bm gr : Nat} {L : Gr} {r : Rqt} {b8 b9 b10 b11 : Nat} {o8 o9 : Array Value} {vv vl vv' vl' : Value} (h : Pz w g bm gr L r W0 b8 b9 o8 o9 b10 b11 vv vl vv' vl' wx) (m : Mod (fun _ => False) wx wy) : Pz w g bm gr L r W0 b8 b9 o8 o9 b10 b11 vv vl vv' vl' wy :=
  ⟨h.py.keep m, m.heap h.b8 (fun f => f), m.heap h.b9 (fun f => f), m.heap h.b10 (fun f => f), m.heap h.b11 (fun f => f), h.vals.mod m (fun _ _ f => f), h.list.mod m (fun _ _ f => f), h.pat.mod m (fun _ _ f => f), h.vals2.keep m, h.list2.keep m, h.newv, h.newl, h.mod.trans m, fun hne => (h.old hne).then m, fun v l ho => (h.ord v l ho).keep m⟩
theorem own_offT {w : World} {t t' : TypeId} {size n b : Nat} {v : Value} {us : List Value} {cs : Array Value} (hs : Seg w t size v n us) (hb : w.heap[b]? = some (.cells cs t' (0, 0))) (hne : t ≠ t') : ¬ v.ownBlock = some b := fun e => by
  obtain ⟨cur, hc⟩ := seg_box hs e
  rw [hb] at hc
  injection hc with hc
  injection hc with _ hc _
  exact hne hc.symm
/-- Behind the values' turning. -/
structure Pa (w : World) (g bm gr : Nat) (L : Gr) (r : Rqt) (W0 : World) (b8 : Nat) (o8 : Array Value) (b10 : Nat) (vv vl : Value) (wx : World) : Prop where
  py : Py w g bm gr (doG L r).1 wx
  b8 : wx.heap[b8]? = some (.cells o8 29 (0, 0))
  b10 : wx.heap[b10]? = some (.cells (ansC ((doG L r).2.e : Nat) ((doG L r).2.at_ : Nat) vv vl) 34 (0, 0))
  list : Seg wx 23 1 vl (doG L r).2.list.length ((doG L r).2.list.map (keyV .u32))
  newl : ∀ b, vl.ownBlock = some b → W0.heap.size ≤ b
  old : (doG L r).2.list ≠ [] → Kept W0 wx
theorem Pz.pa {w W0 wx wy : World} {g bm gr : Nat} {L : Gr} {r : Rqt} {b8 b9 b10 b11 : Nat} {o8 o9 : Array Value} {vv vl vv' vl' : Value} (h : Pz w g bm gr L r W0 b8 b9 o8 o9 b10 b11 vv vl vv' vl' wx) (hw : w.heap.size ≤ W0.heap.size) (m : Mod (fun k => vv.ownBlock = some k) wx wy) : Pa w g bm gr L r W0 b8 o8 b10 vv vl wy :=
  ⟨h.py.vals h.vals h.pat (fun b hb => Nat.le_trans hw (h.newv b hb)) m, m.heap h.b8 (own_offT h.vals h.b8 (by decide)), m.heap h.b10 (own_offT h.vals h.b10 (by decide)), h.list.mod m (fun b hb s => by
    obtain ⟨cur, hc⟩ := seg_box h.list hb
    exact own_offT h.vals hc (by decide) s), h.newl, fun hne => (h.old hne).after m h.newv⟩
theorem Pa.done {w W0 wx wy : World} {g bm gr : Nat} {L : Gr} {r : Rqt} {b8 b10 : Nat} {o8 : Array Value} {vv vl : Value} (h : Pa w g bm gr L r W0 b8 o8 b10 vv vl wx) (h0 : Py w g bm gr L W0) (m : Mod (fun k => vl.ownBlock = some k) wx wy) (hz : (doG L r).2.list.length = 0 → wy = wx) : Py w g bm gr (doG L r).1 wy ∧ wy.heap[b8]? = some (.cells o8 29 (0, 0)) :=
  ⟨h.py.list h.list h.newl h0 (fun hn => by
    have hne : (doG L r).2.list ≠ [] := fun e => by rw [e] at hn; exact absurd hn (by decide)
    exact ⟨(doG_list hne).2.symm, h.old hne⟩) hz m, m.heap h.b8 (own_offT h.list h.b8 (by decide))⟩
/-- A vertex of one's own is turned; nothing that was is. -/
theorem turned_own {w w1 w2 : World} {v : Value} (m : Mod (fun _ => False) w w1) (m2 : Mod (fun k => v.ownBlock = some k) w1 w2) (hn : ∀ b, v.ownBlock = some b → w.heap.size ≤ b) : Mod (fun _ => False) w w2 :=
  m.trans' m2 (fun i hi e => by have := hn i e; omega)
end Go.Proofs.YtbgjbikpenefoaaGreatDoor

/- YAC: what is needed of it (by shake.py). -/

/- YAC, as far as the seat goes. -/
/- gussetlaw03.awake: what its two requests answer, in plain Lean. -/
namespace Go.Proofs.YtbgjbikpenefoaaGreatDoor
set_option linter.unusedVariables false
set_option linter.unusedSimpArgs false
open Go.RowKit
def aX : Val := ⟨2, 0, ⟨#[120]⟩⟩
def aFive : Val := ⟨1, 5, ⟨#[]⟩⟩
def aOps1 : List Opr := [⟨1, 1, 0, 0, noVal⟩, ⟨1, 2, 0, 0, noVal⟩, ⟨5, 1, 2, 0, aX⟩, ⟨3, 1, 0, 0, aFive⟩]
def aOps2 : List Opr := [⟨4, 1, 0, 0, noVal⟩, ⟨7, 2, 1, 0, noVal⟩]
theorem awake1 : (doG [] ⟨1, aOps1, 0, 0, 0⟩).2 = ⟨0, 0, [], []⟩ := by kernel_rfl
theorem awake2 : (doG (doG [] ⟨1, aOps1, 0, 0, 0⟩).1 ⟨1, aOps2, 0, 0, 0⟩).2 = ⟨0, 0, [aFive, aX], []⟩ := by kernel_rfl
end Go.Proofs.YtbgjbikpenefoaaGreatDoor

/- YAD: what is needed of it (by shake.py). -/

/- YAD, as far as the seat goes. -/
/- gussetlaw03.awake, walked. -/
namespace Go.Proofs.YtbgjbikpenefoaaGreatDoor
set_option linter.unusedVariables false
set_option linter.unusedSimpArgs false
open Go.RowKit
def aC1 : Array Value := (ocells aOps1).toArray
def aC2 : Array Value := (ocells aOps2).toArray
theorem lit_ops (cs : Array Value) (l : List Opr) (w : World) (hc : cs.toList = ocells l) (hs : cs.size = l.length * 7) (h1 : l.length ≤ maxLen) (hf : ∀ o ∈ l, o.Fits) : ORd (w.alloc (.cells cs 71)) (.slice (some ⟨w.heap.size, 0, none⟩) l.length l.length) l := by
  have h := Seg.lit (e := 71) (size := 7) w cs l.length hs h1 (by rw [hc]; exact ocells_ones l)
  rw [hc] at h
  exact ⟨h.rdS, hf⟩
theorem aFits1 : ∀ o ∈ aOps1, o.Fits := by
  intro o ho
  simp only [aOps1, List.mem_cons, List.mem_nil_iff, or_false] at ho
  rcases ho with rfl | rfl | rfl | rfl <;> exact ⟨by decide, by decide, by decide, by decide, ⟨by decide, by decide, by decide⟩⟩
theorem aFits2 : ∀ o ∈ aOps2, o.Fits := by
  intro o ho
  simp only [aOps2, List.mem_cons, List.mem_nil_iff, or_false] at ho
  rcases ho with rfl | rfl <;> exact ⟨by decide, by decide, by decide, by decide, ⟨by decide, by decide, by decide⟩⟩
theorem ado1 (g bm n0 : Nat) (W : World) (hp : PG W g bm []) (hg : ErrT W) (hn : W.heap.size = n0) : Calls Tryz.prog 13 #[.pointer (some ⟨g, 0, none⟩), .agg #[.int .u8 1, .slice (some ⟨n0, 0, none⟩) 4 4, .int .u32 0, .int .i64 0, .int .i64 0]] (W.alloc (.cells aC1 71)) (DoA g bm [] ⟨1, aOps1, 0, 0, 0⟩ (W.alloc (.cells aC1 71))) := by
  subst hn
  have ho := lit_ops aC1 aOps1 W rfl rfl (by decide) aFits1
  exact gdo_any g bm [] ⟨1, aOps1, 0, 0, 0⟩ _ _ (hp.keep ((Mod.refl _ _).alloc _)) Good.nil ho (by decide) (hg.keep ((Mod.refl (fun _ => False) _).alloc _) (fun f => f))
theorem ado2 (g bm n0 : Nat) (ns : List Node) (hns : ns.map Node.x = (doG [] ⟨1, aOps1, 0, 0, 0⟩).1) (hG : Good (ns.map Node.x)) (W : World) (hp : PG W g bm ns) (hg : ErrT W) (hn : W.heap.size = n0) : Calls Tryz.prog 13 #[.pointer (some ⟨g, 0, none⟩), .agg #[.int .u8 1, .slice (some ⟨n0, 0, none⟩) 2 2, .int .u32 0, .int .i64 0, .int .i64 0]] (W.alloc (.cells aC2 71)) (DoA g bm ns ⟨1, aOps2, 0, 0, 0⟩ (W.alloc (.cells aC2 71))) := by
  subst hn
  have ho := lit_ops aC2 aOps2 W rfl rfl (by decide) aFits2
  exact gdo_any g bm ns ⟨1, aOps2, 0, 0, 0⟩ _ _ (hp.keep ((Mod.refl _ _).alloc _)) hG ho (by decide) (hg.keep ((Mod.refl (fun _ => False) _).alloc _) (fun f => f))
theorem ado1' (g bm n0 : Nat) (W : World) (hp : PG W g bm []) (hg : ErrT W) (hn : W.heap.size = n0) : Calls Tryz.prog 13 #[.pointer (some ⟨g, 0, none⟩), .agg #[.int .u8 1, .slice (some ⟨n0, 0, none⟩) 4 4, .int .u32 0, .int .i64 0, .int .i64 0]] (W.alloc (.cells aC1 71)) (fun e w' => ∃ vv vl ns', e = .returned (.agg #[.int .i64 0, .int .i64 0, vv, vl]) ∧ Turned g bm [] (doG [] ⟨1, aOps1, 0, 0, 0⟩).1 (fun _ => False) (W.alloc (.cells aC1 71)) w' ns' ∧ Seg w' 44 3 vv 0 [] ∧ Seg w' 23 1 vl 0 []) := by
  refine (ado1 g bm n0 W hp hg hn).mono ?_
  rintro e w' ⟨vv, vl, ns', rfl, h1, h2, h3, -, -⟩
  have e1 : (doG (([] : List Node).map Node.x) ⟨1, aOps1, 0, 0, 0⟩).2 = ⟨0, 0, [], []⟩ := awake1
  rw [e1] at h2 h3 ⊢
  exact ⟨vv, vl, ns', rfl, h1, h2, h3⟩
theorem ado2' (g bm n0 : Nat) (ns : List Node) (hns : ns.map Node.x = (doG [] ⟨1, aOps1, 0, 0, 0⟩).1) (hG : Good (ns.map Node.x)) (W : World) (hp : PG W g bm ns) (hg : ErrT W) (hn : W.heap.size = n0) : Calls Tryz.prog 13 #[.pointer (some ⟨g, 0, none⟩), .agg #[.int .u8 1, .slice (some ⟨n0, 0, none⟩) 2 2, .int .u32 0, .int .i64 0, .int .i64 0]] (W.alloc (.cells aC2 71)) (fun e w' => ∃ bv ov cv vl ns', e = .returned (.agg #[.int .i64 0, .int .i64 0, .slice (some ⟨bv, ov, none⟩) 2 cv, vl]) ∧ Turned g bm ns (doG (ns.map Node.x) ⟨1, aOps2, 0, 0, 0⟩).1 (fun _ => False) (W.alloc (.cells aC2 71)) w' ns' ∧ bv < w'.heap.size ∧ (∀ (j : Nat) (u : Value), (vvcells [aFive, aX])[j]? = some u → w'.cell? ⟨bv, ov + j, none⟩ = some u) ∧ Seg w' 23 1 vl 0 [] ∧ 2 ≤ cv) := by
  refine (ado2 g bm n0 ns hns hG W hp hg hn).mono ?_
  rintro e w' ⟨vv, vl, ns', rfl, h1, h2, h3, -, -⟩
  have e1 : (doG (ns.map Node.x) ⟨1, aOps2, 0, 0, 0⟩).2 = ⟨0, 0, [aFive, aX], []⟩ := by rw [hns]; exact awake2
  rw [e1] at h2 h3 ⊢
  obtain ⟨a, c, hv, hc1, hc2, -⟩ := h2.rdS.shape
  obtain ⟨bv, ov, ea, hb, -⟩ := h2.rdS.cell a c hv 0 _ rfl
  subst ea
  refine ⟨bv, ov, c, vl, ns', by rw [hv]; rfl, h1, hb, fun j u hu => ?_, h3, hc1⟩
  obtain ⟨b', o', ea, -, h4⟩ := h2.rdS.cell _ c hv j u hu
  injection ea with ea
  injection ea with e1 e2 _
  rw [e1, e2]
  exact h4
set_option maxRecDepth 100000 in
set_option maxHeartbeats 4000000 in
theorem awake_any (w : World) (hg : ErrT w) : Calls Tryz.prog 10 #[] w fun e w' => e = .returned (.bool true) ∧ Mod (fun _ => False) w w' := by
  have HE := Lib.hid hg
  clear hg
  go_enter Tryz.func10, Tryz.ntmps10
  go_upto_region 7 with (first
    | (go_at_call 11; refine (new_pg _).mono ?_; (rintro e w1 ⟨rfl, hm, hp, hz⟩); have HM1 := Lib.hid hm; have HP1 := Lib.hid hp; clear hm hp)
    | (go_at_call 13; go_loud (refine (ado1' (w.heap.size + 1) w.heap.size (w1.heap.size + 1 + 1) _ (HP1.out.keep (((Mod.refl _ w1).alloc _).alloc _)) (HE.out.keep ((HM1.out.alloc _).alloc _) (fun f => f)) (by simp)).mono ?_; (rintro e w3 ⟨vv, vl, ns3, rfl, ht, hv, hl⟩); have HT3 := Lib.hid (And.intro ht (And.intro hv hl)); (obtain ⟨a3, c3, n3, rfl⟩ : ∃ a c n, vv = .slice a n c := (by obtain ⟨a, c, e, _⟩ := hv.shape; exact ⟨_, _, _, e⟩)); (obtain ⟨a4, c4, n4, rfl⟩ : ∃ a c n, vl = .slice a n c := (by obtain ⟨a, c, e, _⟩ := hl.shape; exact ⟨_, _, _, e⟩)); clear ht hv hl)))
  have e1 := awake1
  have HG3 : Hid (Good (ns3.map Node.x)) := Lib.hid (by rw [HT3.out.1.is]; exact Good.do Good.nil _)
  obtain ⟨W5, hW5⟩ : ∃ W5, W5 = ((w1.alloc (.cells #[.int .u8 2, .int .i64 0, .string ⟨#[120]⟩] 44)).alloc (.cells #[.int .u8 1, .int .i64 5, .string ⟨#[]⟩] 44)).alloc (.cells aC1 71) := ⟨_, rfl⟩
  have hx0 : W5.heap[w1.heap.size]? = some (.cells #[.int .u8 2, .int .i64 0, .string ⟨#[120]⟩] 44 (0, 0)) := by rw [hW5]; exact heap_alloc_old (heap_alloc_old (heap_alloc_new' w1 _))
  have hf0 : W5.heap[w1.heap.size + 1]? = some (.cells #[.int .u8 1, .int .i64 5, .string ⟨#[]⟩] 44 (0, 0)) := by
    rw [hW5]
    have h := heap_alloc_new' (w1.alloc (.cells #[.int .u8 2, .int .i64 0, .string ⟨#[120]⟩] 44)) (.cells #[.int .u8 1, .int .i64 5, .string ⟨#[]⟩] 44)
    exact heap_alloc_old (by simpa using h)
  have hp5 : PG W5 (w.heap.size + 1) w.heap.size [] := by rw [hW5]; exact HP1.out.keep ((((Mod.refl _ w1).alloc _).alloc _).alloc _)
  have hm5 : Mod (fun _ => False) w W5 := by rw [hW5]; exact ((HM1.out.alloc _).alloc _).alloc _
  have ht3 := HT3.out.1
  rw [show ((w1.alloc (.cells #[.int .u8 2, .int .i64 0, .string ⟨#[120]⟩] 44)).alloc (.cells #[.int .u8 1, .int .i64 5, .string ⟨#[]⟩] 44)).alloc (.cells aC1 71) = W5 from hW5.symm] at ht3
  have hx3 := hp5.nm.box ht3.mod hx0
  have hf3 := hp5.nm.box ht3.mod hf0
  have HX3 := Lib.hid (And.intro hx3 (And.intro hf3 hm5))
  have hE5 : ErrT W5 := HE.out.keep hm5 (fun f => f)
  have HE3 : Hid (ErrT w3) := Lib.hid (hp5.nm.cell ht3.mod hE5)
  have HP3 := Lib.hid ht3.pg
  have HIS := Lib.hid ht3.is
  clear ht3 hx3 hf3 hE5 hx0 hf0 hp5 hm5 e1
  go_upto_region 8 with (go_at_call 13; go_loud (refine (ado2' (w.heap.size + 1) w.heap.size (w3.heap.size + 1) ns3 HIS.out HG3.out _ (HP3.out.keep ((Mod.refl _ w3).alloc _)) (HE3.out.keep ((Mod.refl (fun _ => False) w3).alloc _) (fun f => f)) (by simp)).mono ?_; (rintro e w7 ⟨bv, ov, cv, vl, ns7, rfl, ht, hbv, hv, hl, hcv⟩); have HT7 := Lib.hid ht; have HV7 := Lib.hid hv; (obtain ⟨a6, c6, n6, rfl⟩ : ∃ a c n, vl = .slice a n c := (by obtain ⟨a, c, e, _⟩ := hl.shape; exact ⟨_, _, _, e⟩)); clear ht hv hl))
  obtain ⟨W6, hW6⟩ : ∃ W6, W6 = (w3.alloc (.cells #[.int .i64 0, .int .i64 0, .slice a3 n3 c3, .slice a4 n4 c4] 34)).alloc (.cells aC2 71) := ⟨_, rfl⟩
  have ht7 := HT7.out
  rw [show (w3.alloc (.cells #[.int .i64 0, .int .i64 0, .slice a3 n3 c3, .slice a4 n4 c4] 34)).alloc (.cells aC2 71) = W6 from hW6.symm] at ht7
  have m36 : Mod (fun _ => False) w3 W6 := by rw [hW6]; exact ((Mod.refl _ _).alloc _).alloc _
  have ha6 : W6.heap[w3.heap.size]? = some (.cells #[.int .i64 0, .int .i64 0, .slice a3 n3 c3, .slice a4 n4 c4] 34 (0, 0)) := by rw [hW6]; exact heap_alloc_old (heap_alloc_new' w3 _)
  have hp6 := HP3.out.keep m36
  have ha7 := hp6.nm.box ht7.mod ha6
  have hx7 := hp6.nm.box ht7.mod (m36.heap HX3.out.1 (fun f => f))
  have hf7 := hp6.nm.box ht7.mod (m36.heap HX3.out.2.1 (fun f => f))
  have q0 := cell_of_row ha7 0
  have q1 := cell_of_row ha7 1
  have q2 := cell_of_row ha7 2
  have q3 := cell_of_row ha7 3
  have x0 := cell_of_row hx7 0
  have x1 := cell_of_row hx7 1
  have x2 := cell_of_row hx7 2
  have y0 := cell_of_row hf7 0
  have y1 := cell_of_row hf7 1
  have y2 := cell_of_row hf7 2
  have zq := lt_of_block ha7
  have zx := lt_of_block hx7
  have zy := lt_of_block hf7
  have v0 := HV7.out 0 _ rfl
  have v1 := HV7.out 1 _ rfl
  have v2 := HV7.out 2 _ rfl
  have v3 := HV7.out 3 _ rfl
  have v4 := HV7.out 4 _ rfl
  have v5 := HV7.out 5 _ rfl
  simp at q0 q1 q2 q3 x0 x1 x2 y0 y1 y2
  simp [aFive, aX] at v0 v1 v2 v3 v4 v5
  have HM7 : Hid (Mod (fun _ => False) w w7) := Lib.hid (by
    have mA := HP1.out.lt
    have m57 : Mod (fun b => w.heap.size ≤ b) w3 w7 := (m36.mono (fun _ _ f => f.elim)).trans (ht7.mod.mono (fun b _ f => by
      rcases HT3.out.1.newM b (by exact f) with h | h
      · rcases h with rfl | ⟨n, hn, _⟩
        · exact Nat.le_refl _
        · simp at hn
      · have := hW5 ▸ HX3.out.2.2.size
        exact Nat.le_trans this h))
    have m35 : Mod (fun b => w.heap.size ≤ b) W5 w3 := by
      have h := HT3.out.1.mod
      rw [← hW5] at h
      exact h.mono (fun b _ f => by
        rcases f with rfl | ⟨n, hn, _⟩
        · exact Nat.le_refl _
        · simp at hn)
    exact ((HX3.out.2.2.mono (T := fun b => w.heap.size ≤ b) (fun _ _ f => f.elim)).trans (m35.trans m57)).mono (fun i hi s => by omega))
  clear ha7 hx7 hf7 ha6 hp6 ht7 m36 hW5 hW6 hz
  go_wp2_with fail
  go_big_region
  all_goals
    go_wp2
    go_ret
    exact ⟨rfl, (HM7.out.alloc _).drew⟩
end Go.Proofs.YtbgjbikpenefoaaGreatDoor
