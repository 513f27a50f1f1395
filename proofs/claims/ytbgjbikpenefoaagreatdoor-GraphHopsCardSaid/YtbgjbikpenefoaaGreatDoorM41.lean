/- Lemmas for the claim, in one text: YBA, YAC, YAD. -/
import Derived.Test.YtbgjbikpenefoaaGreatDoorM36
import Derived.Test.YtbgjbikpenefoaaGreatDoorYW
import Derived.Test.YtbgjbikpenefoaaGreatDoorM40
import Derived.Test.YtbgjbikpenefoaaGreatDoorM13

/- YBA: what is needed of it (by shake.py). -/

/- YBA, as far as the seat goes. -/
/- A graph of one's own on the way in a law: what it holds, who keeps what; a request over a copy; Do; List; Vertex. -/
namespace Go.Proofs.YtbgjbikpenefoaaGreatDoor
set_option linter.unusedVariables false
set_option linter.unusedSimpArgs false
open Go.RowKit Go.Maps
/-- What was there is there: cells, blocks of cells. -/
structure Kept (w w' : World) : Prop where
  size : w.heap.size ≤ w'.heap.size
  cell : ∀ {a : Addr} {v : Value}, w.cell? a = some v → w'.cell? a = some v
  box : ∀ {b : Nat} {cs : Array Value} {t : TypeId} {f : Nat × Nat}, w.heap[b]? = some (.cells cs t f) → w'.heap[b]? = some (.cells cs t f)
theorem Kept.refl (w : World) : Kept w w := ⟨Nat.le_refl _, fun h => h, fun h => h⟩
theorem Kept.of {w w' : World} {bm : Nat} {ns : List Node} (h : NM w bm ns) (m : Mod (FootM bm ns) w w') : Kept w w' := ⟨m.size, fun hc => h.cell m hc, fun hb => h.box m hb⟩
theorem Kept.mod {w w' : World} (m : Mod (fun _ => False) w w') : Kept w w' := ⟨m.size, fun h => m.cell h, fun h => m.heap h (fun f => f)⟩
theorem Kept.trans {w w1 w2 : World} (a : Kept w w1) (b : Kept w1 w2) : Kept w w2 := ⟨Nat.le_trans a.size b.size, fun h => b.cell (a.cell h), fun h => b.box (a.box h)⟩
theorem Kept.then {w w1 w2 : World} (a : Kept w w1) (m : Mod (fun _ => False) w1 w2) : Kept w w2 := a.trans (.mod m)
theorem Kept.rds {w w' : World} (h : Kept w w') {size n : Nat} {v : Value} {us : List Value} (hr : RdS w size v n us) : RdS w' size v n us :=
  ⟨hr.len, hr.shape, fun a c e j u hu => by
    obtain ⟨b, off, e1, hb, hc⟩ := hr.cell a c e j u hu
    exact ⟨b, off, e1, Nat.lt_of_lt_of_le hb h.size, h.cell hc⟩⟩
theorem Kept.seg {w w' : World} (h : Kept w w') {t : TypeId} {size n : Nat} {v : Value} {us : List Value} (hr : Seg w t size v n us) : Seg w' t size v n us := by
  refine ⟨hr.1, hr.2.1, ?_⟩
  rcases hr.2.2 with hn | ⟨g, off, cap, cur, rfl, hg, r⟩
  · exact .inl hn
  · exact .inr ⟨g, off, cap, cur, rfl, h.box hg, r⟩
theorem Kept.vrd {w w' : World} (h : Kept w w') {vp vh : Value} {x : Vtx} (hr : VRd w vp vh x) : VRd w' vp vh x := ⟨hr.fits, h.rds hr.props, h.rds hr.halves⟩
/-- A graph on the way: what it holds; all of it is new memory since w. -/
structure GSt (w : World) (g bm : Nat) (L : Gr) (wr : World) : Prop where
  ex : ∃ ns, PG wr g bm ns ∧ ns.map Node.x = L ∧ ∀ b, FootN bm ns b → w.heap.size ≤ b
  good : Good L
  mod : Mod (fun _ => False) w wr
theorem GSt.keep {w wr wx : World} {g bm : Nat} {L : Gr} (h : GSt w g bm L wr) (m : Mod (fun _ => False) wr wx) : GSt w g bm L wx := by
  obtain ⟨ns, h1, h2, h3⟩ := h.ex
  exact ⟨⟨ns, h1.keep m, h2, h3⟩, h.good, h.mod.trans m⟩
/-- What is new memory may turn, where the graph isn't. -/
theorem GSt.more {S : Nat → Prop} {w wr wx : World} {g bm : Nat} {L : Gr} (h : GSt w g bm L wr) (m : Mod S wr wx) (hlo : ∀ b, S b → w.heap.size ≤ b) (hoff : ∀ b, S b → ∃ cs t f, wr.heap[b]? = some (.cells cs t f) ∧ t ≠ 93 ∧ t ≠ 81) : GSt w g bm L wx := by
  obtain ⟨ns, h1, h2, h3⟩ := h.ex
  refine ⟨⟨ns, h1.mod m (fun b hb s => ?_), h2, h3⟩, h.good, h.mod.trans' m (fun i hi s => by have := hlo i s; omega)⟩
  obtain ⟨cs, t, f, hc, e1, e2⟩ := hoff b s
  exact h1.off_box hc e1 e2 hb
theorem GSt.turned {w wr w' : World} {g bm : Nat} {L L' : Gr} {ns ns' : List Node} {off : Nat → Prop} (h : GSt w g bm L wr) (hlo : ∀ b, FootN bm ns b → w.heap.size ≤ b) (ht : Turned g bm ns L' off wr w' ns') (hL : Good L') : GSt w g bm L' w' := by
  have hs := h.mod.size
  refine ⟨⟨ns', ht.pg, ht.is, fun b hb => ?_⟩, hL, h.mod.trans' ht.mod (fun i hi f => ?_)⟩
  · rcases ht.new b hb with e | e
    · exact hlo b e
    · omega
  · have := hlo i f.foot; omega
/-- What Do does, of a graph on the way. -/
structure SDo (w : World) (g bm : Nat) (L : Gr) (r : Rqt) (wr : World) (vv vl : Value) (w' : World) : Prop where
  st : GSt w g bm (doG L r).1 w'
  kept : Kept wr w'
  vals : Seg w' 44 3 vv (doG L r).2.vals.length (vvcells (doG L r).2.vals)
  list : Seg w' 23 1 vl (doG L r).2.list.length ((doG L r).2.list.map (keyV .u32))
  newv : ∀ b, vv.ownBlock = some b → wr.heap.size ≤ b
  newl : ∀ b, vl.ownBlock = some b → wr.heap.size ≤ b
def SDoE (w : World) (g bm : Nat) (L : Gr) (r : Rqt) (wr : World) (e : Ending) (w' : World) : Prop :=
  ∃ vv vl, e = .returned (.agg #[.int .i64 ((doG L r).2.e : Nat), .int .i64 ((doG L r).2.at_ : Nat), vv, vl]) ∧ SDo w g bm L r wr vv vl w'
theorem DoA.sdo {w wr : World} {g bm : Nat} {L : Gr} {ns : List Node} {r : Rqt} (h : GSt w g bm L wr) (hp : PG wr g bm ns) (hx : ns.map Node.x = L) (hlo : ∀ b, FootN bm ns b → w.heap.size ≤ b) {e : Ending} {w' : World} (hd : DoA g bm ns r wr e w') : SDoE w g bm L r wr e w' := by
  subst hx
  obtain ⟨vv, vl, ns', rfl, ht, hv, hl, hnv, hnl⟩ := hd
  exact ⟨vv, vl, rfl, h.turned hlo ht (Good.do h.good _), .of hp.nm ht.mod, hv, hl, hnv, hnl⟩
theorem sdo_any (g bm : Nat) (L : Gr) (r : Rqt) (vo : Value) (w wr : World) (h : GSt w g bm L wr) (ho : ORd wr vo r.ops) (hvb : r.v < 4294967296) (hg : ErrT w) (hn : r.ops.length * 48 ≤ 140737488355328) :
    Calls Tryz.prog 12 #[.pointer (some ⟨g, 0, none⟩), rqV r vo] wr (SDoE w g bm L r wr) := by
  obtain ⟨ns, hp, hx, hlo⟩ := h.ex
  have hL : Good (ns.map Node.x) := by rw [hx]; exact h.good
  exact (ldo_any g bm ns r vo wr hp hL ho hvb (hg.keep h.mod (fun f => f)) hn).mono (fun e w' hd => hd.sdo h hp hx hlo)
theorem sgdo_any (g bm : Nat) (L : Gr) (r : Rqt) (vo : Value) (w wr : World) (h : GSt w g bm L wr) (ho : ORd wr vo r.ops) (hvb : r.v < 4294967296) (hg : ErrT w) :
    Calls Tryz.prog 13 #[.pointer (some ⟨g, 0, none⟩), rqV r vo] wr (SDoE w g bm L r wr) := by
  obtain ⟨ns, hp, hx, hlo⟩ := h.ex
  have hL : Good (ns.map Node.x) := by rw [hx]; exact h.good
  exact (gdo_any g bm ns r vo wr hp hL ho hvb (hg.keep h.mod (fun f => f))).mono (fun e w' hd => hd.sdo h hp hx hlo)
theorem slist_any (g bm : Nat) (L : Gr) (w wr : World) (h : GSt w g bm L wr) :
    Calls Tryz.prog 25 #[.pointer (some ⟨g, 0, none⟩)] wr fun e w' => ∃ v, e = .returned v ∧ SegN wr w' v (L.map Vtx.id) := by
  obtain ⟨ns, hp, hx, hlo⟩ := h.ex
  have hL : Good (ns.map Node.x) := by rw [hx]; exact h.good
  have := list_any g bm ns wr hp hL
  rwa [hx] at this
theorem svertex_any (g bm : Nat) (L : Gr) (id : Nat) (w wr : World) (h : GSt w g bm L wr) (hid : id < 4294967296) :
    Calls Tryz.prog 14 #[.pointer (some ⟨g, 0, none⟩), .int .u32 (id : Int)] wr (Twins wr (tellV L id)) := by
  obtain ⟨ns, hp, hx, hlo⟩ := h.ex
  have hL : Good (ns.map Node.x) := by rw [hx]; exact h.good
  have := vertex_any g bm ns id wr hp hL hid
  rwa [hx] at this
theorem snew_any (w wr : World) (m : Mod (fun _ => False) w wr) : Calls Tryz.prog 11 #[] wr fun e w' => e = .returned (.pointer (some ⟨wr.heap.size + 1, 0, none⟩)) ∧ Mod (fun _ => False) wr w' ∧ GSt w (wr.heap.size + 1) wr.heap.size [] w' ∧ wr.heap.size + 1 < w'.heap.size := by
  refine (new_pg wr).mono ?_
  rintro e w' ⟨rfl, m1, hp, hz⟩
  have := m.size
  refine ⟨rfl, m1, ⟨⟨[], hp, rfl, fun b hb => ?_⟩, Good.nil, m.trans m1⟩, hz⟩
  rcases hb with rfl | ⟨n, hn, _⟩
  · exact this
  · simp at hn
/-- Vertex told of one that is there. -/
theorem tellV_mem {L : Gr} (hr : Rising Vtx.id L) {x : Vtx} (hx : x ∈ L) : tellV L x.id = x := by
  unfold tellV
  rw [(findV_iff hr).2 ⟨hx, rfl⟩]
  rfl
theorem fld_there (i : Int) (b : Bool) (vp vh : Value) (w : World) : (Instr.field 40 (.agg #[.int .u32 i, .bool b, vp, vh]) 1).run Tryz.prog w = .ok (.bool b) w := by
  simp [Instr.field, run_underlying Tryz.underlying40, go_sem, asAgg]
theorem fld_e (i : Int) (b vp vh : Value) (w : World) : (Instr.field 34 (.agg #[.int .i64 i, b, vp, vh]) 0).run Tryz.prog w = .ok (.int .i64 i) w := by
  simp [Instr.field, run_underlying Tryz.underlying34, go_sem, asAgg]
end Go.Proofs.YtbgjbikpenefoaaGreatDoor

/- YAC: what is needed of it (by shake.py). -/

/- YAC, as far as the seat goes. -/
/- gussetlaw03.awake: what its two requests answer, in plain Lean. -/
namespace Go.Proofs.YtbgjbikpenefoaaGreatDoor
set_option linter.unusedVariables false
set_option linter.unusedSimpArgs false
open Go.RowKit
def aX : Val := ⟨2, 0, ⟨#[120]⟩⟩
def aFive : Val := ⟨1, 5, ⟨#[]⟩⟩
def aOps1 : List Opr := [⟨1, 1, 0, 0, noVal⟩, ⟨1, 2, 0, 0, noVal⟩, ⟨5, 1, 2, 0, aX⟩, ⟨3, 1, 0, 0, aFive⟩]
def aOps2 : List Opr := [⟨4, 1, 0, 0, noVal⟩, ⟨7, 2, 1, 0, noVal⟩]
theorem awake1 : (doG [] ⟨1, aOps1, 0, 0, 0⟩).2 = ⟨0, 0, [], []⟩ := by kernel_rfl
theorem awake2 : (doG (doG [] ⟨1, aOps1, 0, 0, 0⟩).1 ⟨1, aOps2, 0, 0, 0⟩).2 = ⟨0, 0, [aFive, aX], []⟩ := by kernel_rfl
end Go.Proofs.YtbgjbikpenefoaaGreatDoor

/- YAD: what is needed of it (by shake.py). -/

/- YAD, as far as the seat goes. -/
/- gussetlaw03.awake, walked. -/
namespace Go.Proofs.YtbgjbikpenefoaaGreatDoor
set_option linter.unusedVariables false
set_option linter.unusedSimpArgs false
open Go.RowKit
def aC1 : Array Value := (ocells aOps1).toArray
def aC2 : Array Value := (ocells aOps2).toArray
theorem lit_ops (cs : Array Value) (l : List Opr) (w : World) (hc : cs.toList = ocells l) (hs : cs.size = l.length * 7) (h1 : l.length ≤ maxLen) (hf : ∀ o ∈ l, o.Fits) : ORd (w.alloc (.cells cs 71)) (.slice (some ⟨w.heap.size, 0, none⟩) l.length l.length) l := by
  have h := Seg.lit (e := 71) (size := 7) w cs l.length hs h1 (by rw [hc]; exact ocells_ones l)
  rw [hc] at h
  exact ⟨h.rdS, hf⟩
theorem aFits1 : ∀ o ∈ aOps1, o.Fits := by
  intro o ho
  simp only [aOps1, List.mem_cons, List.mem_nil_iff, or_false] at ho
  rcases ho with rfl | rfl | rfl | rfl <;> exact ⟨by decide, by decide, by decide, by decide, ⟨by decide, by decide, by decide⟩⟩
theorem aFits2 : ∀ o ∈ aOps2, o.Fits := by
  intro o ho
  simp only [aOps2, List.mem_cons, List.mem_nil_iff, or_false] at ho
  rcases ho with rfl | rfl <;> exact ⟨by decide, by decide, by decide, by decide, ⟨by decide, by decide, by decide⟩⟩
theorem ado1 (g bm n0 : Nat) (W : World) (hp : PG W g bm []) (hg : ErrT W) (hn : W.heap.size = n0) : Calls Tryz.prog 13 #[.pointer (some ⟨g, 0, none⟩), .agg #[.int .u8 1, .slice (some ⟨n0, 0, none⟩) 4 4, .int .u32 0, .int .i64 0, .int .i64 0]] (W.alloc (.cells aC1 71)) (DoA g bm [] ⟨1, aOps1, 0, 0, 0⟩ (W.alloc (.cells aC1 71))) := by
  subst hn
  have ho := lit_ops aC1 aOps1 W rfl rfl (by decide) aFits1
  exact gdo_any g bm [] ⟨1, aOps1, 0, 0, 0⟩ _ _ (hp.keep ((Mod.refl _ _).alloc _)) Good.nil ho (by decide) (hg.keep ((Mod.refl (fun _ => False) _).alloc _) (fun f => f))
theorem ado2 (g bm n0 : Nat) (ns : List Node) (hns : ns.map Node.x = (doG [] ⟨1, aOps1, 0, 0, 0⟩).1) (hG : Good (ns.map Node.x)) (W : World) (hp : PG W g bm ns) (hg : ErrT W) (hn : W.heap.size = n0) : Calls Tryz.prog 13 #[.pointer (some ⟨g, 0, none⟩), .agg #[.int .u8 1, .slice (some ⟨n0, 0, none⟩) 2 2, .int .u32 0, .int .i64 0, .int .i64 0]] (W.alloc (.cells aC2 71)) (DoA g bm ns ⟨1, aOps2, 0, 0, 0⟩ (W.alloc (.cells aC2 71))) := by
  subst hn
  have ho := lit_ops aC2 aOps2 W rfl rfl (by decide) aFits2
  exact gdo_any g bm ns ⟨1, aOps2, 0, 0, 0⟩ _ _ (hp.keep ((Mod.refl _ _).alloc _)) hG ho (by decide) (hg.keep ((Mod.refl (fun _ => False) _).alloc _) (fun f => f))
theorem ado1' (g bm n0 : Nat) (W : World) (hp : PG W g bm []) (hg : ErrT W) (hn : W.heap.size = n0) : Calls Tryz.prog 13 #[.pointer (some ⟨g, 0, none⟩), .agg #[.int .u8 1, .slice (some ⟨n0, 0, none⟩) 4 4, .int .u32 0, .int .i64 0, .int .i64 0]] (W.alloc (.cells aC1 71)) (fun e w' => ∃ vv vl ns', e = .returned (.agg #[.int .i64 0, .int .i64 0, vv, vl]) ∧ Turned g bm [] (doG [] ⟨1, aOps1, 0, 0, 0⟩).1 (fun _ => False) (W.alloc (.cells aC1 71)) w' ns' ∧ Seg w' 44 3 vv 0 [] ∧ Seg w' 23 1 vl 0 []) := by
  refine (ado1 g bm n0 W hp hg hn).mono ?_
  rintro e w' ⟨vv, vl, ns', rfl, h1, h2, h3, -, -⟩
  have e1 : (doG (([] : List Node).map Node.x) ⟨1, aOps1, 0, 0, 0⟩).2 = ⟨0, 0, [], []⟩ := awake1
  rw [e1] at h2 h3 ⊢
  exact ⟨vv, vl, ns', rfl, h1, h2, h3⟩
theorem ado2' (g bm n0 : Nat) (ns : List Node) (hns : ns.map Node.x = (doG [] ⟨1, aOps1, 0, 0, 0⟩).1) (hG : Good (ns.map Node.x)) (W : World) (hp : PG W g bm ns) (hg : ErrT W) (hn : W.heap.size = n0) : Calls Tryz.prog 13 #[.pointer (some ⟨g, 0, none⟩), .agg #[.int .u8 1, .slice (some ⟨n0, 0, none⟩) 2 2, .int .u32 0, .int .i64 0, .int .i64 0]] (W.alloc (.cells aC2 71)) (fun e w' => ∃ bv ov cv vl ns', e = .returned (.agg #[.int .i64 0, .int .i64 0, .slice (some ⟨bv, ov, none⟩) 2 cv, vl]) ∧ Turned g bm ns (doG (ns.map Node.x) ⟨1, aOps2, 0, 0, 0⟩).1 (fun _ => False) (W.alloc (.cells aC2 71)) w' ns' ∧ bv < w'.heap.size ∧ (∀ (j : Nat) (u : Value), (vvcells [aFive, aX])[j]? = some u → w'.cell? ⟨bv, ov + j, none⟩ = some u) ∧ Seg w' 23 1 vl 0 [] ∧ 2 ≤ cv) := by
  refine (ado2 g bm n0 ns hns hG W hp hg hn).mono ?_
  rintro e w' ⟨vv, vl, ns', rfl, h1, h2, h3, -, -⟩
  have e1 : (doG (ns.map Node.x) ⟨1, aOps2, 0, 0, 0⟩).2 = ⟨0, 0, [aFive, aX], []⟩ := by rw [hns]; exact awake2
  rw [e1] at h2 h3 ⊢
  obtain ⟨a, c, hv, hc1, hc2, -⟩ := h2.rdS.shape
  obtain ⟨bv, ov, ea, hb, -⟩ := h2.rdS.cell a c hv 0 _ rfl
  subst ea
  refine ⟨bv, ov, c, vl, ns', by rw [hv]; rfl, h1, hb, fun j u hu => ?_, h3, hc1⟩
  obtain ⟨b', o', ea, -, h4⟩ := h2.rdS.cell _ c hv j u hu
  injection ea with ea
  injection ea with e1 e2 _
  rw [e1, e2]
  exact h4
set_option maxRecDepth 100000 in
set_option maxHeartbeats 4000000 in
theorem awake_any (w : World) (hg : ErrT w) : Calls Tryz.prog 10 #[] w fun e w' => e = .returned (.bool true) ∧ Mod (fun _ => False) w w' := by
  have HE := Lib.hid hg
  clear hg
  go_enter Tryz.func10, Tryz.ntmps10
  go_upto_region 7 with (first
    | (go_at_call 11; refine (new_pg _).mono ?_; (rintro e w1 ⟨rfl, hm, hp, hz⟩); have HM1 := Lib.hid hm; have HP1 := Lib.hid hp; clear hm hp)
    | (go_at_call 13; go_loud (refine (ado1' (w.heap.size + 1) w.heap.size (w1.heap.size + 1 + 1) _ (HP1.out.keep (((Mod.refl _ w1).alloc _).alloc _)) (HE.out.keep ((HM1.out.alloc _).alloc _) (fun f => f)) (by simp)).mono ?_; (rintro e w3 ⟨vv, vl, ns3, rfl, ht, hv, hl⟩); have HT3 := Lib.hid (And.intro ht (And.intro hv hl)); (obtain ⟨a3, c3, n3, rfl⟩ : ∃ a c n, vv = .slice a n c := (by obtain ⟨a, c, e, _⟩ := hv.shape; exact ⟨_, _, _, e⟩)); (obtain ⟨a4, c4, n4, rfl⟩ : ∃ a c n, vl = .slice a n c := (by obtain ⟨a, c, e, _⟩ := hl.shape; exact ⟨_, _, _, e⟩)); clear ht hv hl)))
  have e1 := awake1
  have HG3 : Hid (Good (ns3.map Node.x)) := Lib.hid (by rw [HT3.out.1.is]; exact Good.do Good.nil _)
  obtain ⟨W5, hW5⟩ : ∃ W5, W5 = ((w1.alloc (.cells #[.int .u8 2, .int .i64 0, .string ⟨#[120]⟩] 44)).alloc (.cells #[.int .u8 1, .int .i64 5, .string ⟨#[]⟩] 44)).alloc (.cells aC1 71) := ⟨_, rfl⟩
  have hx0 : W5.heap[w1.heap.size]? = some (.cells #[.int .u8 2, .int .i64 0, .string ⟨#[120]⟩] 44 (0, 0)) := by rw [hW5]; exact heap_alloc_old (heap_alloc_old (heap_alloc_new' w1 _))
  have hf0 : W5.heap[w1.heap.size + 1]? = some (.cells #[.int .u8 1, .int .i64 5, .string ⟨#[]⟩] 44 (0, 0)) := by
    rw [hW5]
    have h := heap_alloc_new' (w1.alloc (.cells #[.int .u8 2, .int .i64 0, .string ⟨#[120]⟩] 44)) (.cells #[.int .u8 1, .int .i64 5, .string ⟨#[]⟩] 44)
    exact heap_alloc_old (by simpa using h)
  have hp5 : PG W5 (w.heap.size + 1) w.heap.size [] := by rw [hW5]; exact HP1.out.keep ((((Mod.refl _ w1).alloc _).alloc _).alloc _)
  have hm5 : Mod (fun _ => False) w W5 := by rw [hW5]; exact ((HM1.out.alloc _).alloc _).alloc _
  have ht3 := HT3.out.1
  rw [show ((w1.alloc (.cells #[.int .u8 2, .int .i64 0, .string ⟨#[120]⟩] 44)).alloc (.cells #[.int .u8 1, .int .i64 5, .string ⟨#[]⟩] 44)).alloc (.cells aC1 71) = W5 from hW5.symm] at ht3
  have hx3 := hp5.nm.box ht3.mod hx0
  have hf3 := hp5.nm.box ht3.mod hf0
  have HX3 := Lib.hid (And.intro hx3 (And.intro hf3 hm5))
  have hE5 : ErrT W5 := HE.out.keep hm5 (fun f => f)
  have HE3 : Hid (ErrT w3) := Lib.hid (hp5.nm.cell ht3.mod hE5)
  have HP3 := Lib.hid ht3.pg
  have HIS := Lib.hid ht3.is
  clear ht3 hx3 hf3 hE5 hx0 hf0 hp5 hm5 e1
  go_upto_region 8 with (go_at_call 13; go_loud (refine (ado2' (w.heap.size + 1) w.heap.size (w3.heap.size + 1) ns3 HIS.out HG3.out _ (HP3.out.keep ((Mod.refl _ w3).alloc _)) (HE3.out.keep ((Mod.refl (fun _ => False) w3).alloc _) (fun f => f)) (by simp)).mono ?_; (rintro e w7 ⟨bv, ov, cv, vl, ns7, rfl, ht, hbv, hv, hl, hcv⟩); have HT7 := Lib.hid ht; have HV7 := Lib.hid hv; (obtain ⟨a6, c6, n6, rfl⟩ : ∃ a c n, vl = .slice a n c := (by obtain ⟨a, c, e, _⟩ := hl.shape; exact ⟨_, _, _, e⟩)); clear ht hv hl))
  obtain ⟨W6, hW6⟩ : ∃ W6, W6 = (w3.alloc (.cells #[.int .i64 0, .int .i64 0, .slice a3 n3 c3, .slice a4 n4 c4] 34)).alloc (.cells aC2 71) := ⟨_, rfl⟩
  have ht7 := HT7.out
  rw [show (w3.alloc (.cells #[.int .i64 0, .int .i64 0, .slice a3 n3 c3, .slice a4 n4 c4] 34)).alloc (.cells aC2 71) = W6 from hW6.symm] at ht7
  have m36 : Mod (fun _ => False) w3 W6 := by rw [hW6]; exact ((Mod.refl _ _).alloc _).alloc _
  have ha6 : W6.heap[w3.heap.size]? = some (.cells #[.int .i64 0, .int .i64 0, .slice a3 n3 c3, .slice a4 n4 c4] 34 (0, 0)) := by rw [hW6]; exact heap_alloc_old (heap_alloc_new' w3 _)
  have hp6 := HP3.out.keep m36
  have ha7 := hp6.nm.box ht7.mod ha6
  have hx7 := hp6.nm.box ht7.mod (m36.heap HX3.out.1 (fun f => f))
  have hf7 := hp6.nm.box ht7.mod (m36.heap HX3.out.2.1 (fun f => f))
  have q0 := cell_of_row ha7 0
  have q1 := cell_of_row ha7 1
  have q2 := cell_of_row ha7 2
  have q3 := cell_of_row ha7 3
  have x0 := cell_of_row hx7 0
  have x1 := cell_of_row hx7 1
  have x2 := cell_of_row hx7 2
  have y0 := cell_of_row hf7 0
  have y1 := cell_of_row hf7 1
  have y2 := cell_of_row hf7 2
  have zq := lt_of_block ha7
  have zx := lt_of_block hx7
  have zy := lt_of_block hf7
  have v0 := HV7.out 0 _ rfl
  have v1 := HV7.out 1 _ rfl
  have v2 := HV7.out 2 _ rfl
  have v3 := HV7.out 3 _ rfl
  have v4 := HV7.out 4 _ rfl
  have v5 := HV7.out 5 _ rfl
  simp at q0 q1 q2 q3 x0 x1 x2 y0 y1 y2
  simp [aFive, aX] at v0 v1 v2 v3 v4 v5
  have HM7 : Hid (Mod (fun _ => False) w w7) := Lib.hid (by
    have mA := HP1.out.lt
    have m57 : Mod (fun b => w.heap.size ≤ b) w3 w7 := (m36.mono (fun _ _ f => f.elim)).trans (ht7.mod.mono (fun b _ f => by
      rcases HT3.out.1.newM b (by exact f) with h | h
      · rcases h with rfl | ⟨n, hn, _⟩
        · exact Nat.le_refl _
        · simp at hn
      · have := hW5 ▸ HX3.out.2.2.size
        exact Nat.le_trans this h))
    have m35 : Mod (fun b => w.heap.size ≤ b) W5 w3 := by
      have h := HT3.out.1.mod
      rw [← hW5] at h
      exact h.mono (fun b _ f => by
        rcases f with rfl | ⟨n, hn, _⟩
        · exact Nat.le_refl _
        · simp at hn)
    exact ((HX3.out.2.2.mono (T := fun b => w.heap.size ≤ b) (fun _ _ f => f.elim)).trans (m35.trans m57)).mono (fun i hi s => by omega))
  clear ha7 hx7 hf7 ha6 hp6 ht7 m36 hW5 hW6 hz
  go_wp2_with fail
  go_big_region
  all_goals
    go_wp2
    go_ret
    exact ⟨rfl, (HM7.out.alloc _).drew⟩
end Go.Proofs.YtbgjbikpenefoaaGreatDoor
