import Derived.Test.YtlpdifinkcjckaaGreatDoorMFw25
import Derived.Test.YtlpdifinkcjckaaGreatDoorMNRun06
set_option linter.unusedVariables false
set_option linter.unusedSimpArgs false
namespace Go.Proofs.YtlpdifinkcjckaaGreatDoor
open Go.RowKit
def DoP (g : Nat) (l : List Vs) (r : Rqt) (w : World) (e : Ending) (w' : World) : Prop :=
 Mod (fun k => k = g) w w' ∧ ∃ vv vl v' l', e = .returned (.agg #[.int .i64 ((doG (l.map Vs.x) r).2.e : Nat), .int .i64 ((doG (l.map Vs.x) r).2.at_ : Nat), vv, vl]) ∧ GrAt w' g v' l' ∧ l'.map Vs.x = (doG (l.map Vs.x) r).1 ∧
   RdS w' 3 vv (doG (l.map Vs.x) r).2.vals.length (vvcells (doG (l.map Vs.x) r).2.vals) ∧ RdS w' 1 vl (doG (l.map Vs.x) r).2.list.length ((doG (l.map Vs.x) r).2.list.map (keyV .u32))
theorem DoP.stay {g : Nat} {v vl : Value} {l : List Vs} {r : Rqt} {w w' : World} {z i : Nat} {li : List Nat} (hg : GrAt w g v l) (m : Mod (fun _ => False) w w') (he : doG (l.map Vs.x) r = (l.map Vs.x, ⟨z, i, [], li⟩)) (hl : RdS w' 1 vl li.length (li.map (keyV .u32))) :
   DoP g l r w (.returned (.agg #[.int .i64 (z : Int), .int .i64 (i : Int), .slice none 0 0, vl])) w' := by
 refine ⟨m.mono (fun _ _ f => f.elim), .slice none 0 0, vl, v, l, by rw [he], hg.keep m, by rw [he], by rw [he]; exact RdS.none _ _, by rw [he]; exact hl⟩
open Go.RowKit
structure NoRow (cur : Array Value) : Prop where
 row : ∀ (j : Nat) (n : Int), cur[j]? ≠ some (.int .u32 n) ∨ ∀ b, cur[j + 1]? ≠ some (.bool b)
 ent : ∀ (j : Nat) (k : IntKind) (n m : Int) (s : ByteArray), ¬ (cur[j]? = some (.int k n) ∧ cur[j + 1]? = some (.int .u8 m) ∧ cur[j + 3]? = some (.string s))
theorem RdS.offC {w w' : World} {kk : IntKind} {g : Nat} {cur : Array Value} {t : TypeId} {v : Value} {l : List Ent} (hg : w.heap[g]? = some (.cells cur t (0, 0))) (hc : NoRow cur) (h : RdS w 4 v l.length (cellsOf kk l)) (m : Mod (fun k => k = g) w w') : RdS w' 4 v l.length (cellsOf kk l) := by
 refine ⟨h.len, h.shape, fun a c e j u' hu' => ?_⟩
 obtain ⟨b, off, ea, hb, hcl⟩ := h.cell a c e j u' hu'
 refine ⟨b, off, ea, Nat.lt_of_lt_of_le hb m.size, m.cellS hcl (fun hbg => ?_)⟩
 have hbg : b = g := hbg
 have hj : 0 < l.length := by
   rcases Nat.eq_zero_or_pos l.length with h0 | h0
   · have := List.length_eq_zero_iff.1 h0
     subst this
     simp [cellsOf] at hu'
   · exact h0
 obtain ⟨x, hx⟩ : ∃ x, l[0]? = some x := ⟨_, List.getElem?_eq_getElem hj⟩
 obtain ⟨b1, off1, ea1, _, h0, h1, _, h3⟩ := h.ent hx (a := a) (c := c) e
 rw [ea] at ea1
 injection ea1 with e1
 injection e1 with e1 e2
 subst e1 e2 hbg
 rw [cell_of_row hg] at h0 h1 h3
 simp only [Nat.zero_mul, Nat.add_zero] at h0 h1 h3
 exact hc.ent _ _ _ _ _ ⟨h0, h1, h3⟩
theorem VRd.offC {w w' : World} {g : Nat} {cur : Array Value} {t : TypeId} {vp vh : Value} {x : Vtx} (h : VRd w vp vh x) (hg : w.heap[g]? = some (.cells cur t (0, 0))) (hc : NoRow cur) (m : Mod (fun k => k = g) w w') : VRd w' vp vh x :=
 ⟨h.fits, h.props.offC hg hc m, h.halves.offC hg hc m⟩
theorem LRd.offC {w w' : World} {g : Nat} {cur : Array Value} {t : TypeId} {v : Value} {l : List Vs} (h : LRd w v l) (hg : w.heap[g]? = some (.cells cur t (0, 0))) (hc : NoRow cur) (m : Mod (fun k => k = g) w w') : LRd w' v l := by
 refine ⟨⟨h.row.len, h.row.shape, fun a c e j u' hu' => ?_⟩, fun s hs => (h.each s hs).offC hg hc m⟩
 obtain ⟨b, off, ea, hb, hcl⟩ := h.row.cell a c e j u' hu'
 refine ⟨b, off, ea, Nat.lt_of_lt_of_le hb m.size, m.cellS hcl (fun hbg => ?_)⟩
 have hbg : b = g := hbg
 have hj : 0 < l.length := by
   rcases Nat.eq_zero_or_pos l.length with h0 | h0
   · have := List.length_eq_zero_iff.1 h0
     subst this
     simp [vcells] at hu'
   · exact h0
 obtain ⟨x, hx⟩ : ∃ x, l[0]? = some x := ⟨_, List.getElem?_eq_getElem hj⟩
 obtain ⟨b1, off1, ea1, _, h0, h1, _, h3⟩ := h.ent hx (a := a) (c := c) e
 rw [ea] at ea1
 injection ea1 with e1
 injection e1 with e1 e2
 subst e1 e2 hbg
 rw [cell_of_row hg] at h0 h1
 simp only [Nat.zero_mul, Nat.add_zero] at h0 h1
 rcases hc.row off x.x.id with c | c
 · exact c h0
 · exact c _ h1
theorem noRow_vals {cur : Array Value} (h : ∀ (j : Nat) (u : Value), cur[j]? = some u → valP j u) : NoRow cur := by
 refine ⟨fun j n => .inl fun e => ?_, fun j k n m s ⟨h0, h1, h3⟩ => ?_⟩
 · rcases h j _ e with ⟨_, _, h⟩ | ⟨_, _, h⟩ | ⟨_, _, h⟩ <;> cases h
 · have a0 := h j _ h0
   have a1 := h (j + 1) _ h1
   rcases a1 with ⟨c1, _⟩ | ⟨_, _, c⟩ | ⟨_, _, c⟩
   · rcases a0 with ⟨c0, _⟩ | ⟨c0, _⟩ | ⟨_, _, c⟩
     · omega
     · omega
     · cases c
   · cases c
   · cases c
theorem noRow_answer (x y : Int) (a b : Option Addr) (n c n2 c2 : Nat) : NoRow #[.int .i64 x, .int .i64 y, .slice a n c, .slice b n2 c2] := by
 refine ⟨fun j n => .inl fun e => ?_, fun j k n m s ⟨h0, h1, h3⟩ => ?_⟩
 · rcases j with _ | _ | _ | _ | j <;> simp at e
 · rcases j with _ | j <;> simp at h3
open Go.RowKit
structure DoLp (w : World) (x0 x1 x2 x3 x4 : Value) (hb ab : Nat) (L : Gr) (ops : List Opr) (k : Nat) (L' : Gr) (vals : List Val) (vv : Value) (wr : World) : Prop where
 at_ : DoAt w x0 x1 x2 x3 x4 wr
 hlo : w.heap.size + 2 ≤ hb
 alo : w.heap.size + 2 ≤ ab
 ne : ab ≠ hb
 gr : ∃ v l, GrAt wr hb v l ∧ l.map Vs.x = L'
 run : okRun L (ops.take k) = some (L', vals)
 len : vals.length ≤ k
 abx : wr.heap[ab]? = some (.cells #[.int .i64 0, .int .i64 0, vv, .slice none 0 0] 34 (0, 0))
 seg : Seg wr 68 3 vv vals.length (vvcells vals)
 pat : PatB valP wr vv
 own : ∀ b, vv.ownBlock = some b → w.heap.size + 2 ≤ b
theorem DoLp.start {w w1 w2 : World} {x0 x1 x2 x3 x4 v : Value} {hb : Nat} {l : List Vs} {L : Gr} (ops : List Opr) (h : DoAt w x0 x1 x2 x3 x4 w1) (m : Mod (fun _ => False) w1 w2) (hg : GrAt w2 hb v l) (hl : l.map Vs.x = L) (hlo : w1.heap.size ≤ hb) :
   DoLp w x0 x1 x2 x3 x4 hb w2.heap.size L ops 0 L [] (.slice none 0 0) (w2.alloc (.cells #[.int .i64 0, .int .i64 0, .slice none 0 0, .slice none 0 0] 34)) := by
 have ma : Mod (fun _ => False) w2 (w2.alloc (.cells #[.int .i64 0, .int .i64 0, .slice none 0 0, .slice none 0 0] 34)) := (Mod.refl _ _).alloc _
 have hs := h.size
 have hb2 := lt_of_block hg.box
 have hm := m.size
 exact ⟨(h.next m (fun _ f => f.elim)).next ma (fun _ f => f.elim), by omega, by omega, by omega, ⟨v, l, hg.keep ma, hl⟩, rfl, Nat.le_refl _, heap_alloc_new' _ _, Seg.nil _ _ _, PatB.nil _ _, fun b hb => by simp [Value.ownBlock] at hb⟩
theorem DoLp.app {w wr wq w5 w6 : World} {x0 x1 x2 x3 x4 vv v5 v6 : Value} {hb ab k : Nat} {L L' G : Gr} {ops : List Opr} {vals vs1 : List Val} {l5 : List Vs} (h : DoLp w x0 x1 x2 x3 x4 hb ab L ops k L' vals vv wr) {o : Opr} (ho : ops[k]? = some o) (hon : oneG L' o = ⟨0, G, vs1⟩)
   (mq : Mod (fun _ => False) wr wq) (m5 : Mod (fun k => k = hb) wq w5) (hg5 : GrAt w5 hb v5 l5) (hl5 : l5.map Vs.x = G)
   (hs6 : Seg w6 68 3 v6 (vals.length + vs1.length) (vvcells vals ++ vvcells vs1)) (hp6 : PatB valP w6 v6) (hgr : w5.grownBy w6 vv.ownBlock) (ho6 : v6.ownBlock = vv.ownBlock ∨ v6.ownBlock = some w5.heap.size) :
   w6.heap[ab]? = some (.cells #[.int .i64 0, .int .i64 0, vv, .slice none 0 0] 34 (0, 0)) ∧ DoLp w x0 x1 x2 x3 x4 hb ab L ops (k + 1) G (vals ++ vs1) v6 (w6.setCell ⟨ab, 2, none⟩ v6) := by
 obtain ⟨vr, lr, hgr0, -⟩ := h.gr
 have off : ∀ b, vv.ownBlock = some b → ¬ b = hb := h.seg.off_box hgr0.box (by decide)
 have offa : ∀ b, vv.ownBlock = some b → ¬ b = ab := h.seg.off_box h.abx (by decide)
 have abx5 := m5.heap (mq.heap h.abx (fun f => f)) h.ne
 have mg := mod_grown hgr
 have seg5 : Seg w5 68 3 vv vals.length (vvcells vals) := (h.seg.mod mq (fun _ _ f => f)).mod m5 off
 have pat5 : PatB valP w5 vv := (h.pat.mod mq (fun _ _ f => f)).mod m5 off
 have abx6 := mg.heap abx5 (fun e => offa _ e rfl)
 have at5 := (h.at_.next mq (fun _ f => f.elim)).next m5 (fun k e => by have := h.hlo; omega)
 have at6 := at5.next mg (fun k e => h.own k e)
 have m7 : Mod (fun k => k = ab) w6 (w6.setCell ⟨ab, 2, none⟩ v6) := (Mod.refl (fun k => k = ab) w6).setCell (p := ⟨ab, 2, none⟩) (fun _ => rfl) v6
 have at7 := at6.next m7 (fun k e => by have := h.alo; omega)
 have lst6 : LRd w6 v5 l5 := by
   rcases seg5.2.2 with ⟨rfl, _⟩ | ⟨b, off0, cap, cur, rfl, hb5, _⟩
   · exact hg5.lst.keep (mg.mono (fun k _ e => by simp [Value.ownBlock] at e))
   · obtain ⟨-, cur2, t2, hb2, hpt⟩ := pat5 _ _ _ _ rfl
     exact hg5.lst.offC hb2 (noRow_vals hpt) (mg.mono (fun k _ e => by simp [Value.ownBlock] at e; exact e.symm))
 have gr6 : GrAt w6 hb v5 l5 := ⟨mg.heap hg5.box (fun e => off _ e rfl), lst6⟩
 obtain ⟨av, cv, nv, rfl⟩ : ∃ a c n, vv = .slice a n c := by
   obtain ⟨a, c, e, _⟩ := h.seg.shape
   exact ⟨_, _, _, e⟩
 have gr7 : GrAt (w6.setCell ⟨ab, 2, none⟩ v6) hb v5 l5 := ⟨m7.heap gr6.box (fun e => h.ne e.symm), gr6.lst.offC abx6 (noRow_answer _ _ _ _ _ _ _ _) m7⟩
 have seg7 := hs6.mod m7 (hs6.off_box abx6 (by decide))
 have pat7 := hp6.mod m7 (hs6.off_box abx6 (by decide))
 have hv1 := one_vals L' o
 rw [hon] at hv1
 refine ⟨abx6, at7, h.hlo, h.alo, h.ne, ⟨v5, l5, gr7, hl5⟩, ?_, ?_, ?_, ?_, pat7, ?_⟩
 · have := okRun_next h.run ho (by rw [hon])
   rw [hon] at this
   exact this
 · rw [List.length_append]
   have := h.len
   simp only at hv1
   omega
 · simpa using row_setCell abx6 2 v6
 · rw [List.length_append, vv_append]; exact seg7
 · intro b hb
   rcases ho6 with e | e
   · exact h.own b (e ▸ hb)
   · rw [e] at hb
     injection hb with hb
     have := at5.size
     omega
theorem DoLp.mid {w wr wq w5 : World} {x0 x1 x2 x3 x4 vv : Value} {hb ab k : Nat} {L L' : Gr} {ops : List Opr} {vals : List Val} (h : DoLp w x0 x1 x2 x3 x4 hb ab L ops k L' vals vv wr) (mq : Mod (fun _ => False) wr wq) (m5 : Mod (fun k => k = hb) wq w5) :
   w5.heap[ab]? = some (.cells #[.int .i64 0, .int .i64 0, vv, .slice none 0 0] 34 (0, 0)) ∧ Seg w5 68 3 vv vals.length (vvcells vals) ∧ PatB valP w5 vv := by
 obtain ⟨vr, lr, hgr0, -⟩ := h.gr
 have off : ∀ b, vv.ownBlock = some b → ¬ b = hb := h.seg.off_box hgr0.box (by decide)
 exact ⟨m5.heap (mq.heap h.abx (fun f => f)) h.ne, (h.seg.mod mq (fun _ _ f => f)).mod m5 off, (h.pat.mod mq (fun _ _ f => f)).mod m5 off⟩
theorem DoLp.finish {w wr : World} {x0 x1 x2 x3 x4 vv gv vh : Value} {g hb ab k : Nat} {L L' : Gr} {ops : List Opr} {vals : List Val} {l lh : List Vs} (h : DoLp w x0 x1 x2 x3 x4 hb ab L ops k L' vals vv wr) (hg : GrAt w g gv l) (hgh : GrAt wr hb vh lh) :
   Mod (fun k => k = g) w (doEnd (wr.setCell ⟨g, 0, none⟩ vh) (w.heap.size + 1) (.int .i64 0) (.int .i64 0) vv (.slice none 0 0)) ∧
   GrAt (doEnd (wr.setCell ⟨g, 0, none⟩ vh) (w.heap.size + 1) (.int .i64 0) (.int .i64 0) vv (.slice none 0 0)) g vh lh ∧
   Seg (doEnd (wr.setCell ⟨g, 0, none⟩ vh) (w.heap.size + 1) (.int .i64 0) (.int .i64 0) vv (.slice none 0 0)) 68 3 vv vals.length (vvcells vals) := by
 have hgl := lt_of_block hg.box
 have box1 := h.at_.mod.heap hg.box (fun f => f)
 obtain ⟨g1, m1⟩ := GrAt.put box1 hgh.lst
 have ret1 := m1.heap h.at_.ret (fun e => by omega)
 have m2 : Mod (fun k => k = w.heap.size + 1) (wr.setCell ⟨g, 0, none⟩ vh) (doEnd (wr.setCell ⟨g, 0, none⟩ vh) (w.heap.size + 1) (.int .i64 0) (.int .i64 0) vv (.slice none 0 0)) :=
   ((((Mod.refl (fun k => k = w.heap.size + 1) _).setCell (p := ⟨w.heap.size + 1, 0, none⟩) (fun _ => rfl) _).setCell (p := ⟨w.heap.size + 1, 1, none⟩) (fun _ => rfl) _).setCell (p := ⟨w.heap.size + 1, 2, none⟩) (fun _ => rfl) _).setCell (p := ⟨w.heap.size + 1, 3, none⟩) (fun _ => rfl) _
 have s1 := h.seg.mod m1 (h.seg.off_box box1 (by decide))
 refine ⟨((h.at_.mod.mono (fun _ _ f => f.elim)).trans m1).trans' m2 (fun i hi e => by omega), ⟨m2.heap g1.box (fun e => by omega), g1.lst.offC ret1 (noRow_answer _ _ _ _ _ _ _ _) m2⟩, s1.mod m2 (s1.off_box ret1 (by decide))⟩
open Go.RowKit Go.Maps
theorem infoU32h : (Tryz.prog.info? 27).map (fun i => (i.zero, i.size, i.bytes)) = some (some (.int .u32 0), 1, 4) := by kernel_rfl
open Go.RowKit Go.Maps
theorem DoA.stay {g bm : Nat} {vl : Value} {ns : List Node} {r : Rqt} {w w' : World} {z i : Nat} {li : List Nat} (hp : PG w g bm ns) (m : Mod (fun _ => False) w w') (he : doG (ns.map Node.x) r = (ns.map Node.x, ⟨z, i, [], li⟩)) (hl : Seg w' 27 1 vl li.length (li.map (keyV .u32))) (hn : ∀ b, vl.ownBlock = some b → w.heap.size ≤ b) :
   DoA g bm ns r w (.returned (.agg #[.int .i64 (z : Int), .int .i64 (i : Int), .slice none 0 0, vl])) w' := by
 refine ⟨.slice none 0 0, vl, ns, by rw [he], by rw [he]; exact Turned.idle hp m _, by rw [he]; exact Seg.nil _ _ _, by rw [he]; exact hl, fun b hb => by simp [Value.ownBlock] at hb, hn, PatB.nil _ _⟩
end Go.Proofs.YtlpdifinkcjckaaGreatDoor
