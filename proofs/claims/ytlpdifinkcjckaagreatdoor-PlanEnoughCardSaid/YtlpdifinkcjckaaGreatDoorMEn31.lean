import Derived.Test.YtlpdifinkcjckaaGreatDoorMEn17
import Derived.Test.YtlpdifinkcjckaaGreatDoorMEn30
set_option linter.unusedVariables false
set_option linter.unusedSimpArgs false
namespace Go.Proofs.YtlpdifinkcjckaaGreatDoor
open Go.RowKit Go.Maps
structure Kept (w w' : World) : Prop where
 size : w.heap.size ≤ w'.heap.size
 cell : ∀ {a : Addr} {v : Value}, w.cell? a = some v → w'.cell? a = some v
 box : ∀ {b : Nat} {cs : Array Value} {t : TypeId} {f : Nat × Nat}, w.heap[b]? = some (.cells cs t f) → w'.heap[b]? = some (.cells cs t f)
theorem Kept.refl (w : World) : Kept w w := ⟨Nat.le_refl _, fun h => h, fun h => h⟩
theorem Kept.of {w w' : World} {bm : Nat} {ns : List Node} (h : NM w bm ns) (m : Mod (FootM bm ns) w w') : Kept w w' := ⟨m.size, fun hc => h.cell m hc, fun hb => h.box m hb⟩
theorem Kept.mod {w w' : World} (m : Mod (fun _ => False) w w') : Kept w w' := ⟨m.size, fun h => m.cell h, fun h => m.heap h (fun f => f)⟩
theorem Kept.trans {w w1 w2 : World} (a : Kept w w1) (b : Kept w1 w2) : Kept w w2 := ⟨Nat.le_trans a.size b.size, fun h => b.cell (a.cell h), fun h => b.box (a.box h)⟩
theorem Kept.then {w w1 w2 : World} (a : Kept w w1) (m : Mod (fun _ => False) w1 w2) : Kept w w2 := a.trans (.mod m)
theorem Kept.rds {w w' : World} (h : Kept w w') {size n : Nat} {v : Value} {us : List Value} (hr : RdS w size v n us) : RdS w' size v n us :=
 ⟨hr.len, hr.shape, fun a c e j u hu => by
   obtain ⟨b, off, e1, hb, hc⟩ := hr.cell a c e j u hu
   exact ⟨b, off, e1, Nat.lt_of_lt_of_le hb h.size, h.cell hc⟩⟩
theorem Kept.seg {w w' : World} (h : Kept w w') {t : TypeId} {size n : Nat} {v : Value} {us : List Value} (hr : Seg w t size v n us) : Seg w' t size v n us := by
 refine ⟨hr.1, hr.2.1, ?_⟩
 rcases hr.2.2 with hn | ⟨g, off, cap, cur, rfl, hg, r⟩
 · exact .inl hn
 · exact .inr ⟨g, off, cap, cur, rfl, h.box hg, r⟩
theorem Kept.vrd {w w' : World} (h : Kept w w') {vp vh : Value} {x : Vtx} (hr : VRd w vp vh x) : VRd w' vp vh x := ⟨hr.fits, h.rds hr.props, h.rds hr.halves⟩
structure GSt (w : World) (g bm : Nat) (L : Gr) (wr : World) : Prop where
 ex : ∃ ns, PG wr g bm ns ∧ ns.map Node.x = L ∧ ∀ b, FootN bm ns b → w.heap.size ≤ b
 good : Good L
 mod : Mod (fun _ => False) w wr
theorem GSt.keep {w wr wx : World} {g bm : Nat} {L : Gr} (h : GSt w g bm L wr) (m : Mod (fun _ => False) wr wx) : GSt w g bm L wx := by
 obtain ⟨ns, h1, h2, h3⟩ := h.ex
 exact ⟨⟨ns, h1.keep m, h2, h3⟩, h.good, h.mod.trans m⟩
theorem GSt.more {S : Nat → Prop} {w wr wx : World} {g bm : Nat} {L : Gr} (h : GSt w g bm L wr) (m : Mod S wr wx) (hlo : ∀ b, S b → w.heap.size ≤ b) (hoff : ∀ b, S b → ∃ cs t f, wr.heap[b]? = some (.cells cs t f) ∧ t ≠ 104 ∧ t ≠ 86) : GSt w g bm L wx := by
 obtain ⟨ns, h1, h2, h3⟩ := h.ex
 refine ⟨⟨ns, h1.mod m (fun b hb s => ?_), h2, h3⟩, h.good, h.mod.trans' m (fun i hi s => by have := hlo i s; omega)⟩
 obtain ⟨cs, t, f, hc, e1, e2⟩ := hoff b s
 exact h1.off_box hc e1 e2 hb
theorem GSt.turned {w wr w' : World} {g bm : Nat} {L L' : Gr} {ns ns' : List Node} {off : Nat → Prop} (h : GSt w g bm L wr) (hlo : ∀ b, FootN bm ns b → w.heap.size ≤ b) (ht : Turned g bm ns L' off wr w' ns') (hL : Good L') : GSt w g bm L' w' := by
 have hs := h.mod.size
 refine ⟨⟨ns', ht.pg, ht.is, fun b hb => ?_⟩, hL, h.mod.trans' ht.mod (fun i hi f => ?_)⟩
 · rcases ht.new b hb with e | e
   · exact hlo b e
   · omega
 · have := hlo i f.foot; omega
structure SDo (w : World) (g bm : Nat) (L : Gr) (r : Rqt) (wr : World) (vv vl : Value) (w' : World) : Prop where
 st : GSt w g bm (doG L r).1 w'
 kept : Kept wr w'
 vals : Seg w' 68 3 vv (doG L r).2.vals.length (vvcells (doG L r).2.vals)
 list : Seg w' 27 1 vl (doG L r).2.list.length ((doG L r).2.list.map (keyV .u32))
 newv : ∀ b, vv.ownBlock = some b → wr.heap.size ≤ b
 newl : ∀ b, vl.ownBlock = some b → wr.heap.size ≤ b
 pat : PatB valP w' vv
def SDoE (w : World) (g bm : Nat) (L : Gr) (r : Rqt) (wr : World) (e : Ending) (w' : World) : Prop :=
 ∃ vv vl, e = .returned (.agg #[.int .i64 ((doG L r).2.e : Nat), .int .i64 ((doG L r).2.at_ : Nat), vv, vl]) ∧ SDo w g bm L r wr vv vl w'
theorem DoA.sdo {w wr : World} {g bm : Nat} {L : Gr} {ns : List Node} {r : Rqt} (h : GSt w g bm L wr) (hp : PG wr g bm ns) (hx : ns.map Node.x = L) (hlo : ∀ b, FootN bm ns b → w.heap.size ≤ b) {e : Ending} {w' : World} (hd : DoA g bm ns r wr e w') : SDoE w g bm L r wr e w' := by
 subst hx
 obtain ⟨vv, vl, ns', rfl, ht, hv, hl, hnv, hnl, hpt⟩ := hd
 exact ⟨vv, vl, rfl, h.turned hlo ht (Good.do h.good _), .of hp.nm ht.mod, hv, hl, hnv, hnl, hpt⟩
theorem sgdo_any (g bm : Nat) (L : Gr) (r : Rqt) (vo : Value) (w wr : World) (h : GSt w g bm L wr) (ho : ORd wr vo r.ops) (hvb : r.v < 4294967296) (hg : ErrT w) :
   Calls Tryz.prog 10 #[.pointer (some ⟨g, 0, none⟩), rqV r vo] wr (SDoE w g bm L r wr) := by
 obtain ⟨ns, hp, hx, hlo⟩ := h.ex
 have hL : Good (ns.map Node.x) := by rw [hx]; exact h.good
 exact (gdo_any g bm ns r vo wr hp hL ho hvb (hg.keep h.mod (fun f => f))).mono (fun e w' hd => hd.sdo h hp hx hlo)
theorem svertex_any (g bm : Nat) (L : Gr) (id : Nat) (w wr : World) (h : GSt w g bm L wr) (hid : id < 4294967296) :
   Calls Tryz.prog 14 #[.pointer (some ⟨g, 0, none⟩), .int .u32 (id : Int)] wr (Twins wr (tellV L id)) := by
 obtain ⟨ns, hp, hx, hlo⟩ := h.ex
 have hL : Good (ns.map Node.x) := by rw [hx]; exact h.good
 have := gvertex_any g bm ns id wr hp hL hid
 rwa [hx] at this
theorem snew_any (w wr : World) (m : Mod (fun _ => False) w wr) : Calls Tryz.prog 9 #[] wr fun e w' => e = .returned (.pointer (some ⟨wr.heap.size + 1, 0, none⟩)) ∧ Mod (fun _ => False) wr w' ∧ GSt w (wr.heap.size + 1) wr.heap.size [] w' ∧ wr.heap.size + 1 < w'.heap.size := by
 refine (new_pg wr).mono ?_
 rintro e w' ⟨rfl, m1, hp, hz⟩
 have := m.size
 refine ⟨rfl, m1, ⟨⟨[], hp, rfl, fun b hb => ?_⟩, Good.nil, m.trans m1⟩, hz⟩
 rcases hb with rfl | ⟨n, hn, _⟩
 · exact this
 · simp at hn
open Go.RowKit
structure BoAt (w : World) (o o' : Array Value) (wr : World) : Prop where
 mod : Mod (fun _ => False) w wr
 one : wr.heap[w.heap.size]? = some (.cells o 47 (0, 0))
 two : wr.heap[w.heap.size + 1]? = some (.cells o' 47 (0, 0))
theorem BoAt.more {w wx wy : World} {o o' : Array Value} (h : BoAt w o o' wx) (m : Mod (fun _ => False) wx wy) : BoAt w o o' wy := ⟨h.mod.trans m, m.heap h.one (fun f => f), m.heap h.two (fun f => f)⟩
theorem BoAt.begin (w : World) (o o' : Array Value) : BoAt w o o' ((w.alloc (.cells o 47)).alloc (.cells o' 47)) :=
 ⟨((Mod.refl _ w).alloc _).alloc _, heap_alloc_old (heap_alloc_new' w _), by have := heap_alloc_new' (w.alloc (.cells o 47)) (.cells o' 47); simpa using this⟩
open Go.RowKit Go.Maps
structure BfAt (w2 : World) (v : Value) (bl : List Vs) (wr : World) : Prop where
 mod : Mod (fun _ => False) w2 wr
 la : LOwn wr v bl
 oa : ∀ b, v.ownBlock = some b → w2.heap.size ≤ b
theorem BfAt.start (w2 : World) : BfAt w2 (.slice none 0 0) [] w2 := ⟨Mod.refl _ _, LOwn.nil _, fun b hb => by simp [Value.ownBlock] at hb⟩
theorem BfAt.keep {w2 wr wx : World} {v : Value} {bl : List Vs} (h : BfAt w2 v bl wr) (m : Mod (fun _ => False) wr wx) : BfAt w2 v bl wx := ⟨h.mod.trans m, h.la.mod m ⟨fun _ _ f => f, fun _ _ => ⟨fun _ _ f => f, fun _ _ f => f⟩⟩, h.oa⟩
theorem bf_snoc {w wy : World} {v v' : Value} {l : List Vs} {s : Vs} (h : LOwn w v l) (hv : VOwn w s) (hs : Seg wy 47 4 v' (l.length + 1) (vcells l ++ s.cells)) (hg : w.grownBy wy v.ownBlock) : LOwn wy v' (l ++ [s]) := own_snoc h hv hs hg
theorem BfAt.next {w2 w5 w3 : World} {v v3 : Value} {bl : List Vs} {s : Vs} (h : BfAt w2 v bl w5) (hv : VOwn w5 s) (hs : Seg w3 47 4 v3 (bl.length + 1) (vcells bl ++ s.cells)) (hg : w5.grownBy w3 v.ownBlock) (ho : v3.ownBlock = v.ownBlock ∨ v3.ownBlock = some w5.heap.size) : BfAt w2 v3 (bl ++ [s]) w3 := by
 refine ⟨h.mod.grown hg (fun b hb hlt => by have := h.oa b hb; omega), bf_snoc h.la hv hs hg, fun b hb => ?_⟩
 rcases ho with e | e
 · exact h.oa b (e ▸ hb)
 · rw [e] at hb; injection hb with hb
   have := h.mod.size; omega
theorem Kept.lrd {w w' : World} (h : Kept w w') {v : Value} {l : List Vs} (hr : LRd w v l) : LRd w' v l := ⟨h.rds hr.row, fun s hs => h.vrd (hr.each s hs)⟩
def InOps (W : World) (v : Value) : Prop := ∃ l : List Opr, ORd W v l ∧ l.length * 48 ≤ 140737488355328
section
open Go.ChangeShapes Go.WideShapes Go.ChangeAt
variable {H : Type} {enc : TypeId × Value → H} {W : World} {base : Nat} {v : Value} {d : DataW H} {p : List MemPlace}
set_option maxRecDepth 100000 in
theorem in_ops (hv : Value.okWide Tryz.prog W .any base 23 v) (h : DataW.Trod enc Tryz.prog W 0 (fun _ => true) true 23 v d p) (hs : okW 23 d) : InOps W v := by
 obtain ⟨a0, len0, cap0, rfl⟩ := okWide_slice Tryz.underlying23 hv
 obtain ⟨fuel, hf⟩ := h
 obtain ⟨l, rl, gl, zl⟩ := in_slice Tryz.underlying23 (size := 7) (by kernel_rfl) (by omega) Opr.cells opr_cells Opr.Fits in_op (u := .slice a0 len0 cap0) (y := (d, p)) (by simpa [Value.cells] using hf) hs
 have bo : Tryz.prog.bytesOf 82 = 48 := by kernel_rfl
 rw [bo] at zl
 exact ⟨l, ⟨rl, gl⟩, Nat.le_trans zl (by decide)⟩
end
theorem ocells_take (l : List Opr) (k : Nat) : (ocells l).take (k * 7) = ocells (l.take k) := by
 induction l generalizing k with
 | nil => simp [ocells]
 | cons s r ih =>
   cases k with
   | zero => simp [ocells]
   | succ k =>
     have : ocells (s :: r) = s.cells ++ ocells r := by simp [ocells]
     have h2 : ocells (s :: r.take k) = s.cells ++ ocells (r.take k) := by simp [ocells]
     rw [this, show (k + 1) * 7 = s.cells.length + k * 7 by rw [opr_cells s]; omega, List.take_length_add_append, List.take_succ_cons, h2, ih]
theorem ORd.to {w : World} {v : Value} {l : List Opr} (h : ORd w v l) {k : Nat} (hk : k ≤ l.length) (kk : IntKind) :
   ∃ a c, (∀ wx, (Instr.slice 23 v none (some (.int kk k)) none).run Tryz.prog wx = .ok (.slice a k c) wx) ∧ ORd w (.slice a k c) (l.take k) := by
 obtain ⟨v', h1, h2, _⟩ := h.row.cut (by omega) (lo := 0) (hi := k) (Nat.zero_le _) hk Tryz.underlying23 (e := 82) (by kernel_rfl) kk kk none (some (.int kk k)) (.inr ⟨rfl, rfl⟩) (.inl rfl)
 obtain ⟨a, c, rfl, -⟩ := h2.shape
 refine ⟨a, c, by simpa using h1, ?_, fun o ho => h.fits o (List.mem_of_mem_take ho)⟩
 rw [ocells_take] at h2
 simpa [List.length_take, Nat.min_eq_left hk] using h2
end Go.Proofs.YtlpdifinkcjckaaGreatDoor
