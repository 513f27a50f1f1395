/- YBK: what is needed of it (by shake.py). -/
import Derived.Test.YtbgjbikpenefoaaGreatDoorM43

/- YBK, as far as the seat goes. -/
/- Two graphs side by side. (Printed by gen_gparts.py.) -/
namespace Go.Proofs.YtbgjbikpenefoaaGreatDoor
set_option linter.unusedVariables false
set_option linter.unusedSimpArgs false
open Go.RowKit Go.Maps
structure G2 (w : World) (ga ba gb bb : Nat) (La Lb : Gr) (wr : World) : Prop where
  ex : ∃ na nb, PG wr ga ba na ∧ na.map Node.x = La ∧ (∀ b, FootN ba na b → w.heap.size ≤ b) ∧ PG wr gb bb nb ∧ nb.map Node.x = Lb ∧ (∀ b, FootN bb nb b → w.heap.size ≤ b) ∧ ∀ b, Foot ga ba na b → ¬ Foot gb bb nb b
  ga : Good La
  gb : Good Lb
  mod : Mod (fun _ => False) w wr
theorem G2.a {w wr : World} {ga ba gb bb : Nat} {La Lb : Gr} (h : G2 w ga ba gb bb La Lb wr) : GSt w ga ba La wr := by
  obtain ⟨na, nb, h1, h2, h3, -, -, -, -⟩ := h.ex
  exact ⟨⟨na, h1, h2, h3⟩, h.ga, h.mod⟩
theorem G2.swap {w wr : World} {ga ba gb bb : Nat} {La Lb : Gr} (h : G2 w ga ba gb bb La Lb wr) : G2 w gb bb ga ba Lb La wr := by
  obtain ⟨na, nb, h1, h2, h3, h4, h5, h6, h7⟩ := h.ex
  exact ⟨⟨nb, na, h4, h5, h6, h1, h2, h3, fun b hb ha => h7 b ha hb⟩, h.gb, h.ga, h.mod⟩
theorem G2.b {w wr : World} {ga ba gb bb : Nat} {La Lb : Gr} (h : G2 w ga ba gb bb La Lb wr) : GSt w gb bb Lb wr := h.swap.a
theorem G2.keep {w wr wx : World} {ga ba gb bb : Nat} {La Lb : Gr} (h : G2 w ga ba gb bb La Lb wr) (m : Mod (fun _ => False) wr wx) : G2 w ga ba gb bb La Lb wx := by
  obtain ⟨na, nb, h1, h2, h3, h4, h5, h6, h7⟩ := h.ex
  exact ⟨⟨na, nb, h1.keep m, h2, h3, h4.keep m, h5, h6, h7⟩, h.ga, h.gb, h.mod.trans m⟩
theorem G2.more {S : Nat → Prop} {w wr wx : World} {ga ba gb bb : Nat} {La Lb : Gr} (h : G2 w ga ba gb bb La Lb wr) (m : Mod S wr wx) (hlo : ∀ b, S b → w.heap.size ≤ b) (hoff : ∀ b, S b → ∃ cs t f, wr.heap[b]? = some (.cells cs t f) ∧ t ≠ 93 ∧ t ≠ 81) : G2 w ga ba gb bb La Lb wx := by
  obtain ⟨na, nb, h1, h2, h3, h4, h5, h6, h7⟩ := h.ex
  refine ⟨⟨na, nb, h1.mod m (fun b hb s => ?_), h2, h3, h4.mod m (fun b hb s => ?_), h5, h6, h7⟩, h.ga, h.gb, h.mod.trans' m (fun i hi s => by have := hlo i s; omega)⟩
  · obtain ⟨cs, t, f, hc, e1, e2⟩ := hoff b s
    exact h1.off_box hc e1 e2 hb
  · obtain ⟨cs, t, f, hc, e1, e2⟩ := hoff b s
    exact h4.off_box hc e1 e2 hb
theorem G2.turned {w wr w' : World} {ga ba gb bb : Nat} {Lb La' : Gr} {na nb na' : List Node} {off : Nat → Prop} (hg : Good La') (gb' : Good Lb) (m0 : Mod (fun _ => False) w wr) (h3 : ∀ b, FootN ba na b → w.heap.size ≤ b) (h4 : PG wr gb bb nb) (h1 : PG wr ga ba na) (h5 : nb.map Node.x = Lb) (h6 : ∀ b, FootN bb nb b → w.heap.size ≤ b) (h7 : ∀ b, Foot ga ba na b → ¬ Foot gb bb nb b) (ht : Turned ga ba na La' off wr w' na') : G2 w ga ba gb bb La' Lb w' := by
  have hs := m0.size
  have hn : ∀ b, Foot ga ba na' b → ¬ Foot gb bb nb b := by
    rintro b (rfl | hb)
    · exact h7 _ (.inl rfl)
    · rcases ht.new b hb with e | e
      · exact h7 b (.inr e)
      · intro hf; have := h4.lt b hf; omega
  refine ⟨⟨na', nb, ht.pg, ht.is, fun b hb => ?_, h4.mod ht.mod (fun b hb f => h7 b (.inr f.foot) hb), h5, h6, hn⟩, hg, gb', m0.trans' ht.mod (fun i hi f => by have := h3 i f.foot; omega)⟩
  rcases ht.new b hb with e | e
  · exact h3 b e
  · omega
/-- What a request does to the first graph. -/
def D2 (w : World) (ga ba gb bb : Nat) (La Lb : Gr) (r : Rqt) (wr : World) (e : Ending) (w' : World) : Prop :=
  ∃ vv vl, e = .returned (.agg #[.int .i64 ((doG La r).2.e : Nat), .int .i64 ((doG La r).2.at_ : Nat), vv, vl]) ∧ G2 w ga ba gb bb (doG La r).1 Lb w' ∧ Kept wr w' ∧
    Seg w' 44 3 vv (doG La r).2.vals.length (vvcells (doG La r).2.vals) ∧ Seg w' 23 1 vl (doG La r).2.list.length ((doG La r).2.list.map (keyV .u32)) ∧ (∀ b, vv.ownBlock = some b → wr.heap.size ≤ b)
theorem DoA.two {w wr : World} {ga ba gb bb : Nat} {La Lb : Gr} {na nb : List Node} {r : Rqt} (h : G2 w ga ba gb bb La Lb wr) (h1 : PG wr ga ba na) (h2 : na.map Node.x = La) (h3 : ∀ b, FootN ba na b → w.heap.size ≤ b) (h4 : PG wr gb bb nb) (h5 : nb.map Node.x = Lb) (h6 : ∀ b, FootN bb nb b → w.heap.size ≤ b) (h7 : ∀ b, Foot ga ba na b → ¬ Foot gb bb nb b) {e : Ending} {w' : World} (hd : DoA ga ba na r wr e w') : D2 w ga ba gb bb La Lb r wr e w' := by
  subst h2
  obtain ⟨vv, vl, ns', rfl, ht, hv, hl, hnv, hnl, -⟩ := hd
  exact ⟨vv, vl, rfl, G2.turned (Good.do h.ga _) h.gb h.mod h3 h4 h1 h5 h6 h7 ht, .of h1.nm ht.mod, hv, hl, hnv⟩
theorem ldo2_any (ga ba gb bb : Nat) (La Lb : Gr) (r : Rqt) (vo : Value) (w wr : World) (h : G2 w ga ba gb bb La Lb wr) (ho : ORd wr vo r.ops) (hvb : r.v < 4294967296) (hg : ErrT w) (hn : r.ops.length * 48 ≤ 140737488355328) :
    Calls Tryz.prog 12 #[.pointer (some ⟨ga, 0, none⟩), rqV r vo] wr (D2 w ga ba gb bb La Lb r wr) := by
  obtain ⟨na, nb, h1, h2, h3, h4, h5, h6, h7⟩ := h.ex
  have hL : Good (na.map Node.x) := by rw [h2]; exact h.ga
  exact (ldo_any ga ba na r vo wr h1 hL ho hvb (hg.keep h.mod (fun f => f)) hn).mono (fun e w' hd => hd.two h h1 h2 h3 h4 h5 h6 h7)
theorem gdo2_any (ga ba gb bb : Nat) (La Lb : Gr) (r : Rqt) (vo : Value) (w wr : World) (h : G2 w ga ba gb bb La Lb wr) (ho : ORd wr vo r.ops) (hvb : r.v < 4294967296) (hg : ErrT w) :
    Calls Tryz.prog 13 #[.pointer (some ⟨ga, 0, none⟩), rqV r vo] wr (D2 w ga ba gb bb La Lb r wr) := by
  obtain ⟨na, nb, h1, h2, h3, h4, h5, h6, h7⟩ := h.ex
  have hL : Good (na.map Node.x) := by rw [h2]; exact h.ga
  exact (gdo_any ga ba na r vo wr h1 hL ho hvb (hg.keep h.mod (fun f => f))).mono (fun e w' hd => hd.two h h1 h2 h3 h4 h5 h6 h7)
/-- A second empty graph. -/
theorem new2_any (w wr : World) (ga ba : Nat) (h : GSt w ga ba [] wr) (hga : ga < wr.heap.size) : Calls Tryz.prog 11 #[] wr fun e w' => e = .returned (.pointer (some ⟨wr.heap.size + 1, 0, none⟩)) ∧ G2 w ga ba (wr.heap.size + 1) wr.heap.size [] [] w' := by
  refine (new_pg wr).mono ?_
  rintro e w' ⟨rfl, m1, hp, hz⟩
  obtain ⟨ns, h1, h2, h3⟩ := h.ex
  have hsz := h.mod.size
  refine ⟨rfl, ⟨ns, [], h1.keep m1, h2, h3, hp, rfl, fun b hb => ?_, fun b hb hc => ?_⟩, Good.nil, Good.nil, h.mod.trans m1⟩
  · rcases hb with rfl | ⟨n, hn, _⟩
    · exact hsz
    · simp at hn
  · have := h1.lt b hb
    rcases hc with rfl | rfl | ⟨n, hn, _⟩
    · omega
    · omega
    · simp at hn
theorem okRun_len {L L' : Gr} {vs : List Val} : ∀ {ops : List Opr}, okRun L ops = some (L', vs) → vs.length ≤ ops.length := by
  have key : ∀ (ops : List Opr) (L L' : Gr) (us vs : List Val), ops.foldl okStep (some (L, us)) = some (L', vs) → vs.length ≤ us.length + ops.length := by
    intro ops
    induction ops with
    | nil => intro L L' us vs h; simp at h; obtain ⟨-, rfl⟩ := h; simp
    | cons o r ih =>
      intro L L' us vs h
      obtain ⟨-, h2⟩ := ok_step.1 h
      have h3 := ih _ _ _ _ h2
      have h4 := one_vals L o
      simp only [List.length_append, List.length_cons] at h3 ⊢
      omega
  intro ops h
  have := key ops L L' [] vs h
  simpa using this
theorem vvcells_one (l : List Val) : ∀ u ∈ vvcells l, u.oneCell' = true := by
  intro u hu
  unfold vvcells at hu
  obtain ⟨x, _, hx⟩ := List.mem_flatMap.1 hu
  simp [Val.cells] at hx
  rcases hx with rfl | rfl | rfl <;> rfl
theorem vvcells_app (a b : List Val) : vvcells (a ++ b) = vvcells a ++ vvcells b := by simp [vvcells]
theorem RdS.zero {w w' : World} {size : Nat} {v : Value} (h : RdS w size v 0 []) : RdS w' size v 0 [] := ⟨h.len, h.shape, fun a c e j u hu => by simp at hu⟩
theorem SameAnsRd.of {w w' : World} {v : Value} {l : List Val} (h : RdS w 3 v l.length (vvcells l)) (k : Kept w w') : RdS w' 3 v l.length (vvcells l) := k.rds h
/-- The loop over the operations. -/
structure PtLoop (w : World) (ga ba gb bb : Nat) (La : Gr) (ba10 : Nat) (bx : Array Value) (vA : Value) (valsA : List Val) (Lb : Gr) (u : Value) (vk : List Val) (wr : World) : Prop where
  two : G2 w ga ba gb bb La Lb wr
  box : wr.heap[ba10]? = some (.cells bx 34 (0, 0))
  ra : RdS wr 3 vA valsA.length (vvcells valsA)
  seg : Seg wr 44 3 u vk.length (vvcells vk)
  own : ∀ b, u.ownBlock = some b → w.heap.size ≤ b
  offA : ∀ b, u.ownBlock = some b → vA.ownBlock ≠ some b
theorem PtLoop.go {w : World} {ga ba gb bb : Nat} {La Lb Lb' : Gr} {b10 : Nat} {bx : Array Value} {vA u : Value} {valsA vk : List Val} {wr wx : World} (h : PtLoop w ga ba gb bb La b10 bx vA valsA Lb u vk wr) (t : G2 w ga ba gb bb La Lb' wx) (k : Kept wr wx) : PtLoop w ga ba gb bb La b10 bx vA valsA Lb' u vk wx :=
  ⟨t, k.box h.box, k.rds h.ra, k.seg h.seg, h.own, h.offA⟩
theorem PtLoop.keep {w : World} {ga ba gb bb : Nat} {La Lb : Gr} {b10 : Nat} {bx : Array Value} {vA u : Value} {valsA vk : List Val} {wr wx : World} (h : PtLoop w ga ba gb bb La b10 bx vA valsA Lb u vk wr) (m : Mod (fun _ => False) wr wx) : PtLoop w ga ba gb bb La b10 bx vA valsA Lb u vk wx := h.go (h.two.keep m) (.mod m)
theorem PtLoop.next {w : World} {ga ba gb bb : Nat} {La Lb : Gr} {b10 : Nat} {bx : Array Value} {vA u u' : Value} {valsA vk us : List Val} {wr wx : World} (h : PtLoop w ga ba gb bb La b10 bx vA valsA Lb u vk wr) (hA : ∀ b, vA.ownBlock = some b → b < wr.heap.size)
    (hs : Seg wx 44 3 u' (vk.length + us.length) (vvcells vk ++ vvcells us)) (hg : wr.grownBy wx u.ownBlock) (ho : u'.ownBlock = u.ownBlock ∨ u'.ownBlock = some wr.heap.size) : PtLoop w ga ba gb bb La b10 bx vA valsA Lb u' (vk ++ us) wx := by
  have m := mod_grown hg
  have hsz := h.two.mod.size
  refine ⟨h.two.more m h.own (fun b hb => ?_), m.heap h.box (fun e => h.seg.off_box h.box (by decide) _ e rfl), h.ra.mod m (fun b hb e => h.offA b e hb), ?_, fun b hb => ?_, fun b hb he => ?_⟩
  · obtain ⟨cur, hc⟩ := seg_box h.seg hb
    exact ⟨_, _, _, hc, by decide, by decide⟩
  · rw [List.length_append, vvcells_app]; exact hs
  · rcases ho with e | e
    · exact h.own b (e ▸ hb)
    · rw [e] at hb; injection hb with hb; omega
  · rcases ho with e | e
    · exact h.offA b (e ▸ hb) he
    · rw [e] at hb; injection hb with hb
      have := hA b he; omega
end Go.Proofs.YtbgjbikpenefoaaGreatDoor
