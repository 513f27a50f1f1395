/- The walk of CreditEnds. -/
import Derived.Test.YtabhddbfjfomeaaW5
import Derived.Test.YtabhddbfjfomeaaP6
import Derived.Deep.RegionLaw
namespace Go.Proofs.Ytabhddbfjfomeaa
set_option linter.unusedVariables false
open Go.RowKit Go.Maps

theorem u64Law : Keyed Try.prog 22 := int_keyed Try.underlying22
theorem boolZero (w : World) : (zeroValue 4).run Try.prog w = .ok (.bool false) w := by kernel_rfl

/-- Which numbers have been worked on: the map in block db. -/
def DoneAt (w : World) (db n : Nat) (isDone : Nat → Bool) : Prop :=
  ∃ M : DataW Unit, w.ownsMap Try.prog 22 (plainElem Try.prog 4) db n M ∧ ∀ a : Nat, a < 18446744073709551616 → M.atKey (.int .u64 a) (.lit (.bool false)) = .lit (.bool (isDone a))
theorem DoneAt.mod {S : Nat → Prop} {w w' : World} {db n : Nat} {f : Nat → Bool} (h : DoneAt w db n f) (m : Mod S w w') (hs : ¬ S db) : DoneAt w' db n f := let ⟨M, h1, h2⟩ := h; ⟨M, m.ownsMap h1 hs, h2⟩
theorem DoneAt.alloc {w : World} {db n : Nat} {f : Nat → Bool} (h : DoneAt w db n f) (o : Obj) : DoneAt (w.alloc o) db n f := let ⟨M, h1, h2⟩ := h; ⟨M, h1.alloc o, h2⟩
theorem DoneAt.lt {w : World} {db n : Nat} {f : Nat → Bool} (h : DoneAt w db n f) : db < w.heap.size := let ⟨_, h1, _⟩ := h; h1.lt
theorem DoneAt.made (w : World) : DoneAt (w.alloc (.map #[] 0)) w.heap.size 0 (fun _ => false) := ⟨.map [], World.ownsMap_made w _ _ _, fun _ _ => rfl⟩
theorem DoneAt.look {w : World} {db n : Nat} {f : Nat → Bool} (h : DoneAt w db n f) {a : Nat} (ha : a < 18446744073709551616) : (Instr.lookup 36 (.map (some db)) (.int .u64 a) false).run Try.prog w = .ok (.bool (f a)) w := by
  obtain ⟨M, h1, h2⟩ := h
  obtain ⟨v, ps, hrun, hv⟩ := h1.lookup u64Law Try.underlying36 (boolZero w) (plainElem_bool Try.underlying4 false) (keyOf_int_mk Try.underlying22 (wf_u64 ha))
  rw [h2 a ha] at hv
  rw [hrun]
  unfold plainElem at hv
  rw [Try.underlying4] at hv
  cases v <;> simp at hv
  obtain ⟨rfl, _⟩ := hv
  rfl
theorem DoneAt.put {w : World} {db n : Nat} {f : Nat → Bool} (h : DoneAt w db n f) {a : Nat} (ha : a < 18446744073709551616) (hn : n < maxLen) : ∃ w', (Instr.mapUpdate 36 (.map (some db)) (.int .u64 a) (.bool true)).run Try.prog w = .ok () w' ∧ DoneAt w' db (n + 1) (fun b => b == a || f b) ∧ w.mapTurned w' db := by
  obtain ⟨M, h1, h2⟩ := h
  obtain ⟨w', hrun, hown, ht⟩ := h1.store u64Law Try.underlying36 hn (keyOf_int_mk Try.underlying22 (wf_u64 ha)) (plainElem_bool Try.underlying4 true)
  refine ⟨w', hrun, ⟨_, hown, fun b hb => ?_⟩, ht⟩
  by_cases e : b = a
  · subst e
    rw [atKey_put_same h1.isMap (u64Law.key (keyOf_int_mk Try.underlying22 (wf_u64 ha)))]
    simp
  · rw [atKey_put_other (fun e2 => e (by injection e2; omega)), h2 b hb]
    have : (b == a) = false := by simpa using e
    simp [this]

structure EndsAt (w0 w : World) (pb mb db : Nat) (v : Value) (bag live : List Msg) (next k : Nat) (isDone : Nat → Bool) (cnt dn : Nat) (D : DataW Unit) (out : Int) : Prop where
  pool : PoolAt w pb mb out cnt D
  seg : Seg w 34 3 v bag.length (flat bag)
  own : ∀ b, v.ownBlock = some b → w0.heap.size ≤ b ∧ b ≠ pb ∧ b ≠ mb ∧ b ≠ db
  done : DoneAt w db dn isDone
  mod : Mod (fun _ => False) w0 w
  hp : w0.heap.size ≤ pb
  hm : w0.heap.size ≤ mb
  hd : w0.heap.size ≤ db ∧ db ≠ pb ∧ db ≠ mb
  hk : k ≤ 200
  hcnt : cnt ≤ k
  hdn : dn ≤ k
  hlen : bag.length ≤ 1 + 5 * k
  hnext : next ≤ 1 + 4 * k
  inv : BInv bag live next isDone D out

theorem EndsAt.keep {w0 w w' : World} {pb mb db : Nat} {v : Value} {bag live : List Msg} {next k : Nat} {isDone : Nat → Bool} {cnt dn : Nat} {D : DataW Unit} {out : Int} (h : EndsAt w0 w pb mb db v bag live next k isDone cnt dn D out) (m : Mod (fun _ => False) w w') :
    EndsAt w0 w' pb mb db v bag live next k isDone cnt dn D out :=
  ⟨h.pool.mod m (fun f => f) (fun f => f), h.seg.mod m (fun _ _ f => f), h.own, h.done.mod m (fun f => f), h.mod.trans m, h.hp, h.hm, h.hd, h.hk, h.hcnt, h.hdn, h.hlen, h.hnext, h.inv⟩
/-- In the midst of a message y, which lies in block xb. -/
structure EMid (w0 w : World) (pb mb db xb : Nat) (y : Msg) (v : Value) (bag : List Msg) (isDone : Nat → Bool) (cnt dn : Nat) (D : DataW Unit) (out : Int) : Prop where
  pool : PoolAt w pb mb out cnt D
  seg : Seg w 34 3 v bag.length (flat bag)
  own : ∀ b, v.ownBlock = some b → w0.heap.size ≤ b ∧ b ≠ pb ∧ b ≠ mb ∧ b ≠ db ∧ b ≠ xb
  done : DoneAt w db dn isDone
  mod : Mod (fun _ => False) w0 w
  row : w.heap[xb]? = some (.cells #[.int .u64 y.num, .int .u64 y.credit, .int .i64 y.depth] 34 (0, 0))
  hx : w0.heap.size ≤ xb ∧ xb ≠ pb ∧ xb ≠ mb ∧ xb ≠ db
  hd : db ≠ pb ∧ db ≠ mb ∧ w0.heap.size ≤ db
theorem EndsAt.mid {w0 w : World} {pb mb db : Nat} {v : Value} {bag live : List Msg} {next k : Nat} {isDone : Nat → Bool} {cnt dn : Nat} {D : DataW Unit} {out : Int} (h : EndsAt w0 w pb mb db v bag live next k isDone cnt dn D out) (y : Msg) :
    EMid w0 (w.alloc (.cells #[.int .u64 y.num, .int .u64 y.credit, .int .i64 y.depth] 34)) pb mb db w.heap.size y v bag isDone cnt dn D out := by
  have hpb := lt_of_block h.pool.row
  have hmb := h.pool.map.lt
  have hdb := h.done.lt
  exact ⟨h.pool.alloc _, h.seg.alloc _, fun b hb => by have := h.own b hb; have := h.seg.lt b hb; omega, h.done.alloc _, h.mod.alloc _, heap_alloc_new' _ _, ⟨h.mod.size, by omega, by omega, by omega⟩, ⟨h.hd.2.1, h.hd.2.2, h.hd.1⟩⟩
/-- Another list in another slice: nothing else has been touched. -/
theorem EMid.turn {w0 w w' : World} {pb mb db xb : Nat} {y : Msg} {v v' : Value} {bag bag' : List Msg} {isDone : Nat → Bool} {cnt dn : Nat} {D : DataW Unit} {out : Int} (h : EMid w0 w pb mb db xb y v bag isDone cnt dn D out)
    (hs : Seg w' 34 3 v' bag'.length (flat bag')) (hm : Mod (fun b => some b = v.ownBlock) w w') (ho : ∀ b, v'.ownBlock = some b → v.ownBlock = some b ∨ w.heap.size ≤ b) :
    EMid w0 w' pb mb db xb y v' bag' isDone cnt dn D out := by
  have hpb := lt_of_block h.pool.row
  have hmb := h.pool.map.lt
  have hdb := h.done.lt
  have hxb := lt_of_block h.row
  refine ⟨h.pool.mod hm (fun e => (h.own pb e.symm).2.1 rfl) (fun e => (h.own mb e.symm).2.2.1 rfl), hs, ?_, h.done.mod hm (fun e => (h.own db e.symm).2.2.2.1 rfl), h.mod.trans' hm (fun i hi e => by have := (h.own i e.symm).1; omega),
    hm.heap h.row (fun e => (h.own xb e.symm).2.2.2.2 rfl), h.hx, h.hd⟩
  intro b hb
  rcases ho b hb with h1 | h1
  · exact h.own b h1
  · have := h.mod.size; omega
theorem EMid.copied {w0 w w' : World} {pb mb db xb : Nat} {y : Msg} {v v' : Value} {bag : List Msg} {isDone : Nat → Bool} {cnt dn : Nat} {D : DataW Unit} {out : Int} (h : EMid w0 w pb mb db xb y v bag isDone cnt dn D out)
    (hs : Seg w' 34 3 v' (bag.length + 1) (flat bag ++ (#[.int .u64 y.num, .int .u64 y.credit, .int .i64 y.depth] : Array Value).toList))
    (hg : (w.alloc (.cells #[.int .u64 y.num, .int .u64 y.credit, .int .i64 y.depth] 34)).grownBy w' v.ownBlock)
    (ho : v'.ownBlock = v.ownBlock ∨ v'.ownBlock = some (w.alloc (.cells #[.int .u64 y.num, .int .u64 y.credit, .int .i64 y.depth] 34)).heap.size) :
    EMid w0 w' pb mb db xb y v' (bag ++ [y]) isDone cnt dn D out := by
  refine h.turn ?_ (((Mod.refl _ w).alloc _).grown hg (fun b hb _ => hb.symm)) (fun b hb => ?_)
  · rw [flat_append, List.length_append]; exact hs
  · rcases ho with ho | ho
    · exact Or.inl (ho ▸ hb)
    · rw [ho] at hb; simp at hb; omega
theorem flat_take (l : List Msg) (p : Nat) : flat (l.take p) = (flat l).take (p * 3) := by
  induction l generalizing p with
  | nil => simp [flat]
  | cons x r ih =>
    cases p with
    | zero => simp [flat]
    | succ p =>
      have e : ∀ r : List Msg, flat (x :: r) = [.int .u64 x.num, .int .u64 x.credit, .int .i64 x.depth] ++ flat r := fun _ => rfl
      rw [List.take_succ_cons, e, e, ih, show (p + 1) * 3 = p * 3 + 1 + 1 + 1 by omega]; simp
theorem flat_drop (l : List Msg) (p : Nat) : flat (l.drop p) = (flat l).drop (p * 3) := by
  induction l generalizing p with
  | nil => simp [flat]
  | cons x r ih =>
    cases p with
    | zero => simp [flat]
    | succ p =>
      have e : flat (x :: r) = [.int .u64 x.num, .int .u64 x.credit, .int .i64 x.depth] ++ flat r := rfl
      rw [List.drop_succ_cons, e, ih, show (p + 1) * 3 = p * 3 + 1 + 1 + 1 by omega]; simp
theorem take_any {bag : List Msg} {q : Nat} {y : Msg} (h : bag[q]? = some y) (p : Msg → Bool) : (bag.take (q + 1)).any p = ((bag.take q).any p || p y) := by
  obtain ⟨hlt, e⟩ := List.getElem?_eq_some_iff.1 h
  rw [List.take_succ_eq_append_getElem hlt, List.any_append, e]; simp
theorem flat_cell {bag : List Msg} {q : Nat} {y : Msg} (h : bag[q]? = some y) : (flat bag)[q * 3]? = some (.int .u64 y.num) ∧ (flat bag)[q * 3 + 1]? = some (.int .u64 y.credit) ∧ (flat bag)[q * 3 + 2]? = some (.int .i64 y.depth) := by
  induction bag generalizing q with
  | nil => simp at h
  | cons z r ih =>
    cases q with
    | zero => simp at h; subst h; exact ⟨rfl, rfl, rfl⟩
    | succ q =>
      simp at h
      have e : flat (z :: r) = [.int .u64 z.num, .int .u64 z.credit, .int .i64 z.depth] ++ flat r := rfl
      have h1 := ih h
      rw [e]
      refine ⟨?_, ?_, ?_⟩
      · rw [List.getElem?_append_right (by simp; omega)]; simpa [Nat.add_mul] using h1.1
      · rw [List.getElem?_append_right (by simp; omega)]; simp only [List.length_cons, List.length_nil]; rw [show (q + 1) * 3 + 1 - (0 + 1 + 1 + 1) = q * 3 + 1 by omega]; exact h1.2.1
      · rw [List.getElem?_append_right (by simp; omega)]; simp only [List.length_cons, List.length_nil]; rw [show (q + 1) * 3 + 2 - (0 + 1 + 1 + 1) = q * 3 + 2 by omega]; exact h1.2.2

theorem Seg.msg {w : World} {bag : List Msg} {g off cap : Nat} (h : Seg w 34 3 (.slice (some ⟨g, off, none⟩) bag.length cap) bag.length (flat bag)) {q : Nat} {y : Msg} (hq : bag[q]? = some y) :
    w.cell? ⟨g, off + q * 3, none⟩ = some (.int .u64 y.num) ∧ w.cell? ⟨g, off + q * 3 + 1, none⟩ = some (.int .u64 y.credit) ∧ w.cell? ⟨g, off + q * 3 + 2, none⟩ = some (.int .i64 y.depth) ∧ g < w.heap.size := by
  have hlt := (List.getElem?_eq_some_iff.1 hq).1
  obtain ⟨g', off', cap', e, _, _, hg, hc⟩ := h.open (by omega)
  simp at e
  obtain ⟨⟨rfl, rfl⟩, rfl⟩ := e
  obtain ⟨h1, h2, h3⟩ := flat_cell hq
  have e0 := (hc (q * 3) (by omega)).1
  have e1 := (hc (q * 3 + 1) (by omega)).1
  have e2 := (hc (q * 3 + 2) (by omega)).1
  rw [← Nat.add_assoc] at e1 e2
  exact ⟨e0.trans h1, e1.trans h2, e2.trans h3, hg⟩

theorem EMid.cutted {w0 w w4 w5 : World} {pb mb db xb : Nat} {y : Msg} {v v4 v5 : Value} {bag : List Msg} {p n5 : Nat} {xs5 : List Value} {isDone : Nat → Bool} {cnt dn : Nat} {D : DataW Unit} {out : Int} (h : EMid w0 w pb mb db xb y v bag isDone cnt dn D out)
    (hg4 : (w.alloc (.cells #[] 34)).drew.grownBy w4 (some w.heap.size)) (ho4 : v4.ownBlock = Value.ownBlock (.slice (some ⟨w.heap.size, 0, none⟩) 0 0) ∨ v4.ownBlock = some (w.alloc (.cells #[] 34)).drew.heap.size)
    (hs5 : Seg w5 34 3 v5 n5 xs5) (hg5 : w4.grownBy w5 v4.ownBlock) (ho5 : v5.ownBlock = v4.ownBlock ∨ v5.ownBlock = some w4.heap.size)
    (e1 : xs5 = (flat bag).take (p * 3) ++ (flat bag).drop ((p + 1) * 3)) (e2 : n5 = p + (bag.length - (p + 1))) (hp : p < bag.length) : EMid w0 w5 pb mb db xb y v5 (bag.take p ++ bag.drop (p + 1)) isDone cnt dn D out := by
  have hm4 : Mod (fun b => w.heap.size ≤ b) w w4 := (((Mod.refl _ w).alloc _).drew).grown hg4 (fun b hb hlt => by injection hb with hb; omega)
  have hsz : w.heap.size ≤ w4.heap.size := hm4.size
  have ho4' : ∀ b, v4.ownBlock = some b → w.heap.size ≤ b := fun b hb => by
    rcases ho4 with e | e
    · rw [e] at hb; simp [Value.ownBlock] at hb; omega
    · rw [e] at hb; simp at hb; omega
  have hm5 : Mod (fun b => w.heap.size ≤ b) w w5 := hm4.grown hg5 (fun b hb hlt => by have := ho4' b hb; omega)
  refine h.turn ?_ (hm5.mono (fun k hk hge => by omega)) (fun b hb => Or.inr ?_)
  · have e3 : flat (bag.take p ++ bag.drop (p + 1)) = xs5 := by
      rw [flat_append, e1]
      congr 1
      · exact flat_take bag p
      · exact flat_drop bag (p + 1)
    rw [e3, List.length_append, List.length_take, List.length_drop, Nat.min_eq_left (by omega), ← e2]
    exact hs5
  · rcases ho5 with e | e
    · exact ho4' b (e ▸ hb)
    · rw [e] at hb; injection hb with hb; omega
theorem EMid.marked {w0 w w' : World} {pb mb db xb : Nat} {y : Msg} {v : Value} {bag : List Msg} {isDone f : Nat → Bool} {cnt dn : Nat} {D : DataW Unit} {out : Int} (h : EMid w0 w pb mb db xb y v bag isDone cnt dn D out)
    (hd : DoneAt w' db (dn + 1) f) (ht : w.mapTurned w' db) : EMid w0 w' pb mb db xb y v bag f cnt (dn + 1) D out := by
  have hm : Mod (fun b => b = db) w w' := (Mod.refl _ w).turned ht (fun _ => rfl)
  have hdb : db ≠ pb ∧ db ≠ mb ∧ w0.heap.size ≤ db := h.hd
  exact ⟨h.pool.mod hm (fun e => hdb.1 e.symm) (fun e => hdb.2.1 e.symm), h.seg.mod hm (fun b hb e => (h.own b hb).2.2.2.1 e), h.own, hd, h.mod.trans' hm (fun i hi e => by omega), hm.heap h.row (fun e => h.hx.2.2.2 e), h.hx, h.hd⟩
theorem EMid.again {w0 wo w w' : World} {pb mb db xb : Nat} {y : Msg} {v v0 : Value} {bag bag0 live : List Msg} {next k : Nat} {isDone : Nat → Bool} {cnt dn : Nat} {D : DataW Unit} {out : Int} (h : EMid w0 w pb mb db xb y v bag isDone cnt dn D out)
    (hA : EndsAt w0 wo pb mb db v0 bag0 live next k isDone cnt dn D out) (hM : Mod (fun _ => False) w w') (hI : BInv bag live next isDone D out) (hk : k < 200) (hl : bag.length ≤ 1 + 5 * k) : EndsAt w0 w' pb mb db v bag live next (k + 1) isDone cnt dn D out := by
  have h1 := hA.hcnt
  have h2 := hA.hdn
  have h3 := hA.hnext
  exact ⟨h.pool.mod hM (fun f => f) (fun f => f), h.seg.mod hM (fun _ _ f => f), fun b hb => by have := h.own b hb; omega, h.done.mod hM (fun f => f), h.mod.trans hM, hA.hp, hA.hm, hA.hd, by omega, by omega, by omega, by omega, by omega, hI⟩
theorem EMid.next {w0 w w' : World} {pb mb db xb : Nat} {x : Msg} {v v' : Value} {bg : List Msg} {next q : Nat} {S : Int} {isDone : Nat → Bool} {cnt dn : Nat} {D : DataW Unit} {out : Int} (h : EMid w0 w pb mb db xb x v (bg ++ kids next q S (x.depth + 1)) isDone cnt dn D out)
    (hs : Seg w' 34 3 v' ((bg ++ kids next q S (x.depth + 1)).length + 1) (flat (bg ++ kids next q S (x.depth + 1)) ++ (#[.int .u64 ((next + q : Nat) : Int), .int .u64 S, .int .i64 ((x.depth : Int) + 1)] : Array Value).toList))
    (hg : (w.alloc (.cells #[.int .u64 ((next + q : Nat) : Int), .int .u64 S, .int .i64 ((x.depth : Int) + 1)] 34)).grownBy w' v.ownBlock)
    (ho : v'.ownBlock = v.ownBlock ∨ v'.ownBlock = some (w.alloc (.cells #[.int .u64 ((next + q : Nat) : Int), .int .u64 S, .int .i64 ((x.depth : Int) + 1)] 34)).heap.size) :
    EMid w0 w' pb mb db xb x v' (bg ++ kids next (q + 1) S (x.depth + 1)) isDone cnt dn D out := by
  refine h.turn ?_ (((Mod.refl _ w).alloc _).grown hg (fun b hb _ => hb.symm)) (fun b hb => ?_)
  · rw [kids_succ, ← List.append_assoc, flat_append, List.length_append]
    exact hs
  · rcases ho with ho | ho
    · exact Or.inl (ho ▸ hb)
    · rw [ho] at hb; simp at hb; omega
theorem EMid.finish {w0 wo w w' : World} {pb mb db xb : Nat} {y : Msg} {v v0 : Value} {bag bag0 live live0 : List Msg} {next k m : Nat} {isDone isDone0 : Nat → Bool} {cnt dn : Nat} {D D' D0 : DataW Unit} {out out' out0 : Int} (h : EMid w0 w pb mb db xb y v bag isDone cnt (dn + 1) D out)
    (hA : EndsAt w0 wo pb mb db v0 bag0 live0 next k isDone0 cnt dn D0 out0) (hP : PoolAt w' pb mb out' (cnt + 1) D') (hM : Mod (fun b => b = pb ∨ b = mb) w w') (hI : BInv bag live (next + m) isDone D' out') (hk : k < 200) (hm : m ≤ 4) (hl : bag.length ≤ 1 + 5 * k + m) :
    EndsAt w0 w' pb mb db v bag live (next + m) (k + 1) isDone (cnt + 1) (dn + 1) D' out' := by
  have h1 := hA.hcnt
  have h2 := hA.hdn
  have h3 := hA.hnext
  have h4 := hA.hd
  have h5 := hA.hp
  have h6 := hA.hm
  exact ⟨hP, h.seg.mod hM (fun b hb e => by have := h.own b hb; omega), fun b hb => by have := h.own b hb; omega, h.done.mod hM (fun e => by omega), h.mod.trans' hM (fun i hi e => by omega), hA.hp, hA.hm, hA.hd, by omega, by omega, by omega, by omega, by omega, hI⟩
theorem cut_empty (w : World) : Seg (w.alloc (.cells #[] 34)).drew 34 3 (.slice (some ⟨w.heap.size, 0, none⟩) 0 0) 0 [] := by
  have := Seg.lit (e := 34) (size := 3) w #[] 0 rfl (by decide) (by simp)
  exact this.drew
theorem cut_head {w : World} {bag : List Msg} {g off cap p : Nat} (h : Seg w 34 3 (.slice (some ⟨g, off, none⟩) bag.length cap) bag.length (flat bag)) (hp : p < bag.length) :
    Src (w.alloc (.cells #[] 34)).drew 3 (.slice (some ⟨g, off, none⟩) p cap) p ((flat bag).take (p * 3)) := ((h.alloc _).drew.to_lit (by omega)).src
theorem cut_kept {w w4 : World} {bag : List Msg} {g off cap : Nat} (h : Seg w 34 3 (.slice (some ⟨g, off, none⟩) bag.length cap) bag.length (flat bag))
    (hg : (w.alloc (.cells #[] 34)).drew.grownBy w4 (some w.heap.size)) : Seg w4 34 3 (.slice (some ⟨g, off, none⟩) bag.length cap) bag.length (flat bag) := by
  have hlt := h.lt g rfl
  exact (h.alloc (.cells #[] 34)).drew.mod ((Mod.refl (fun b => b = w.heap.size) _).grown hg (fun b hb _ => by injection hb with hb; exact hb.symm)) (fun k hk e => by simp [Value.ownBlock] at hk; omega)
theorem cut_grown {w w4 : World} (hg : (w.alloc (.cells #[] 34)).drew.grownBy w4 (Value.ownBlock (.slice (some ⟨w.heap.size, 0, none⟩) 0 0))) : (w.alloc (.cells #[] 34)).drew.grownBy w4 (some w.heap.size) := hg
theorem cut_last {w : World} {bag : List Msg} {g off p : Nat} (h : Seg w 34 3 (.slice (some ⟨g, off, none⟩) bag.length (p + 1)) bag.length (flat bag)) (hp : p < bag.length) :
    ∀ w4, (w.alloc (.cells #[] 34)).drew.grownBy w4 (some w.heap.size) → Src w4 3 (.slice (some ⟨g, off, none⟩) 0 0) 0 ((flat bag).drop ((p + 1) * 3)) := by
  intro w4 hg
  have hk := cut_kept h hg
  obtain ⟨g', off', cap', e, h1, _⟩ := h.open (by omega)
  simp at e
  have e0 : bag.length = p + 1 := by omega
  have e1 : (flat bag).drop ((p + 1) * 3) = [] := List.drop_eq_nil_of_le (by rw [flat_length, e0]; exact Nat.le_refl _)
  rw [e1]
  exact (hk.none_lit e0.symm).src
theorem cut_more {w : World} {bag : List Msg} {g off cap p : Nat} (h : Seg w 34 3 (.slice (some ⟨g, off, none⟩) bag.length cap) bag.length (flat bag)) (hp : p < bag.length) (hc : ¬ cap = p + 1) :
    ∀ w4, (w.alloc (.cells #[] 34)).drew.grownBy w4 (some w.heap.size) → Src w4 3 (.slice (some ⟨g, off + (p + 1) * 3, none⟩) (bag.length - (p + 1)) (cap - (p + 1))) (bag.length - (p + 1)) ((flat bag).drop ((p + 1) * 3)) := by
  intro w4 hg
  exact ((cut_kept h hg).from_lit (by omega) hc).src

set_option maxRecDepth 100000 in
set_option maxHeartbeats 16000000 in
theorem ends_walk (a : Option Addr) (len cap : Nat) (f : Nat → Int) (a2 : Option Addr) (len2 cap2 : Nat) (f2 : Nat → Int) (w : World) (hr : RowAt .u8 w a len f) (hr2 : RowAt .u8 w a2 len2 f2) :
    Calls Try.prog 4 #[.slice a len cap, .slice a2 len2 cap2] w fun e w' => e = .returned (.bool true) ∧ Mod (fun _ => False) w w' := by
  have hlen := hr.len_le
  have hlen2 := hr2.len_le
  have HR := Lib.hid hr
  have HR2 := Lib.hid hr2
  clear hr hr2
  have hmm := @run_makeMap Try.prog
  go_enter Try.func4, Try.ntmps4
  go_wp2_with fail
  refine (awake_any _).mono ?_
  rintro e w1 ⟨rfl, hM1⟩
  have HM1 := Lib.hid hM1
  clear hM1
  go_wp2_with fail
  refine (new_any _).mono ?_
  rintro e w' ⟨rfl, rfl⟩
  have hP := new_pool w1
  have hM : Mod (fun _ => False) w ((w1.alloc (.map #[] 0)).alloc (.cells #[.int .u64 1152921504606846976, .map (some w1.heap.size)] 45)) := ((HM1.out.alloc _).alloc _)
  have hsz := HM1.out.size
  have hsz2 : ((w1.alloc (.map #[] 0)).alloc (.cells #[.int .u64 1152921504606846976, .map (some w1.heap.size)] 45)).heap.size = w1.heap.size + 2 := by simp
  generalize (w1.alloc (.map #[] 0)).alloc (.cells #[.int .u64 1152921504606846976, .map (some w1.heap.size)] 45) = w2 at hP hM hsz2 ⊢
  have hseg := Seg.lit (e := 34) (size := 3) w2 #[.int .u64 (0 : Nat), .int .u64 1152921504606846976, .int .i64 (0 : Nat)] 1 rfl (by decide) (by simp [Value.oneCell'])
  have hdone := DoneAt.made (w2.alloc (.cells #[.int .u64 (0 : Nat), .int .u64 1152921504606846976, .int .i64 (0 : Nat)] 34))
  have hD : EndsAt w ((w2.alloc (.cells #[.int .u64 (0 : Nat), .int .u64 1152921504606846976, .int .i64 (0 : Nat)] 34)).alloc (.map #[] 0)) (w1.heap.size + 1) w1.heap.size (w2.heap.size + 1) (.slice (some ⟨w2.heap.size, 0, none⟩) 1 1) [⟨0, 1152921504606846976, 0⟩] [⟨0, 1152921504606846976, 0⟩] 1 0 (fun _ => false) 0 0 (.map []) 1152921504606846976 :=
    ⟨(hP.alloc _).alloc _, hseg.alloc _, fun b hb => by simp [Value.ownBlock] at hb; omega, by simpa using hdone, (hM.alloc _).alloc _, by omega, hsz, by omega, by omega, by omega, by omega, by simp, by omega, BInv.start⟩
  have HD := Lib.hid hD
  have hdb : w2.heap.size + 1 = w2.heap.size + 1 := rfl
  generalize w1.heap.size + 1 = pb at *
  generalize w1.heap.size = mb at *
  clear hP hM hD hsz hsz2 hseg hdone hdb
  go_wp2_with fail
  go_loopw [6, 7, 9] (fun v nx i wr => ∃ (bag live : List Msg) (next k : Nat) (isDone : Nat → Bool) (cnt dn : Nat) (D : DataW Unit) (out : Int), nx = .int .u64 next ∧ i = .int .i64 k ∧ EndsAt w wr pb mb (w2.heap.size + 1) v bag live next k isDone cnt dn D out) (fun _ _ i _ => 200 - (intOf i).toNat)
  case atStart => exact ⟨_, _, 1, 0, _, _, _, _, _, rfl, rfl, HD.out⟩
  case round =>
    obtain ⟨bag, live, next, k, isDone, cnt, dn, D, out, rfl, rfl, hA⟩ := hrel
    clear HD
    generalize w2.heap.size + 1 = db at *
    have hk := hA.hk
    have hbl := hA.hlen
    have hnx := hA.hnext
    have HA := Lib.hid hA
    clear hA
    by_cases hgo : 0 < bag.length ∧ k < 200
    · obtain ⟨hb0, hk2⟩ := hgo
      obtain ⟨g, off, capv, rfl, hncap, hmax, hg, hcells⟩ := HA.out.seg.open hb0
      clear hcells
      obtain ⟨wo, rfl⟩ : ∃ wo : World, wo = wr := ⟨_, rfl⟩
      go_upto_if 41 with fail
      go_cut [10] (fun kk wx => ∃ p : Nat, kk = .int .i64 p ∧ p < bag.length ∧ wo = wx)
      case first =>
        by_cases hkl : k < len
        · obtain ⟨b, off1, rfl, hb, hcl⟩ := HR.out.cell k hkl
          have hcell : wo.cell? ⟨b, off1 + k, none⟩ = some (.int .u8 (f k)) := (World.cell?_of_block (w := w) (HA.out.mod.block b hb (fun h => h))).trans hcl
          have hx := bounds_u8 (HR.out.wf k hkl)
          have hm0 : 0 ≤ f k % (bag.length : Int) := Int.emod_nonneg _ (by omega)
          have hm1 : f k % (bag.length : Int) < bag.length := Int.emod_lt_of_pos _ (by omega)
          clear hcl
          go_wp2
          go_meet
          exact ⟨(f k % (bag.length : Int)).toNat, by rw [Int.toNat_of_nonneg (by omega)], by omega, rfl⟩
        · go_wp2
          go_meet
          exact ⟨0, rfl, by omega, rfl⟩
      case rest =>
        obtain ⟨p, rfl, hp, rfl⟩ := hcut
        obtain ⟨y, hy⟩ : ∃ y, bag[p]? = some y := ⟨_, List.getElem?_eq_getElem hp⟩
        obtain ⟨c0, c1, c2, hx4⟩ := HA.out.seg.msg hy
        clear hx4
        have HY := Lib.hid hy
        clear hy
        go_upto_region 13 with fail
        go_cut [61] (fun b wx => ∃ c : Bool, b = .bool c ∧ (c = true → k < len2 ∧ y.depth < 8) ∧ wo = wx)
        case first =>
          by_cases hkl : k < len2
          · by_cases hd8 : y.depth < 8
            · go_wp2
              go_meet
              exact ⟨true, by first | rfl | (simp; omega), fun _ => ⟨hkl, hd8⟩, rfl⟩
            · go_wp2
              go_meet
              exact ⟨false, by first | rfl | (simp; omega), by simp, rfl⟩
          · go_wp2
            go_meet
            exact ⟨false, by first | rfl | (simp; omega), by simp, rfl⟩
        case rest =>
          obtain ⟨c, rfl, hc, rfl⟩ := hcut
          have HC := Lib.hid hc
          clear hc
          go_upto_if 61 with fail
          go_cut [11] (fun mm wx => ∃ m : Nat, mm = .int .i64 m ∧ m ≤ 4 ∧ (m = 0 ∨ y.depth < 8) ∧ wo = wx)
          case first =>
            cases c
            · go_wp2
              go_meet
              exact ⟨0, rfl, by omega, Or.inl rfl, rfl⟩
            · obtain ⟨hkl, hd8⟩ := HC.out rfl
              obtain ⟨b, off1, rfl, hb, hcl⟩ := HR2.out.cell k hkl
              have hcell : wo.cell? ⟨b, off1 + k, none⟩ = some (.int .u8 (f2 k)) := (World.cell?_of_block (w := w) (HA.out.mod.block b hb (fun h => h))).trans hcl
              have hx := bounds_u8 (HR2.out.wf k hkl)
              clear hcl
              go_wp2
              go_meet
              exact ⟨(f2 k % 5).toNat, by rw [Int.toNat_of_nonneg (by omega)], by omega, Or.inr hd8, rfl⟩
          case rest =>
            obtain ⟨m, rfl, hm4, hmd, rfl⟩ := hcut
            have HMD := Lib.hid hmd
            clear hmd
            have hmid := HA.out.mid y
            have HMID := Lib.hid hmid
            clear hmid
            go_upto_region 16 with fail
            go_cut [82] (fun b wx => ∃ c : Bool, b = .bool c ∧ EMid w wx pb mb db wo.heap.size y (.slice (some ⟨g, off, none⟩) bag.length capv) bag isDone cnt dn D out)
            case first =>
              by_cases hkl : k < len
              · obtain ⟨b, off1, rfl, hb, hcl⟩ := HR.out.cell k hkl
                have hbw : b < wo.heap.size := Nat.lt_of_lt_of_le hb HA.out.mod.size
                have hcell : wo.cell? ⟨b, off1 + k, none⟩ = some (.int .u8 (f k)) := (World.cell?_of_block (w := w) (HA.out.mod.block b hb (fun h => h))).trans hcl
                have hx := bounds_u8 (HR.out.wf k hkl)
                clear hcl
                go_wp2
                go_meet
                exact ⟨_, rfl, HMID.out⟩
              · go_wp2
                go_meet
                exact ⟨false, by first | rfl | (simp; omega), HMID.out⟩
            case rest =>
              obtain ⟨c, rfl, hmid2⟩ := hcut
              have HMID2 := Lib.hid hmid2
              clear hmid2 c0 c1 c2 HMID
              obtain ⟨i0, hi, hz0, hz1, hz2⟩ := info_parts info34
              have HI : Hid (Try.prog.info? 34 = some i0 ∧ i0.zero = some (.agg #[.int .u64 0, .int .u64 0, .int .i64 0]) ∧ i0.size = 3 ∧ i0.bytes = 24) := ⟨hi, hz0, hz1, hz2⟩
              clear hi hz0 hz1 hz2
              obtain ⟨xb, hxb⟩ : ∃ xb, xb = wo.heap.size := ⟨_, rfl⟩
              rw [← hxb] at HMID2 ⊢
              clear hxb
              go_upto_if 82 with fail
              go_cut [6] (fun v wx => ∃ bag1 : List Msg, (bag1 = bag ∨ bag1 = bag ++ [y]) ∧ EMid w wx pb mb db xb y v bag1 isDone cnt dn D out)
              case first =>
                cases c
                · go_wp2
                  go_meet
                  exact ⟨bag, Or.inl rfl, HMID2.out⟩
                · have hr0 := cell_of_row HMID2.out.row 0
                  have hr1 := cell_of_row HMID2.out.row 1
                  have hr2 := cell_of_row HMID2.out.row 2
                  simp at hr0 hr1 hr2
                  have hxlt := lt_of_block HMID2.out.row
                  have hs1 := HMID2.out.seg.alloc (.cells #[.int .u64 y.num, .int .u64 y.credit, .int .i64 y.depth] 34)
                  have hsrc := Src.one (size := 3) wc #[.int .u64 y.num, .int .u64 y.credit, .int .i64 y.depth] 34 1 1 rfl (by simp [Value.oneCell'])
                  have HS1 := Lib.hid hs1
                  have HSRC := Lib.hid hsrc
                  clear hs1 hsrc
                  go_wp2_with (first | (at_builtin; refine wpList_append_seg rfl (.tmp 83) (.tmp 85) 35 rfl i0 _ 3 24 Try.underlying35 HI.out.1 HI.out.2.1 HI.out.2.2.1 HI.out.2.2.2 rfl (by decide) rfl HS1.out _ 1 _ rfl HSRC.out (by unfold maxLen; omega) (by omega) ?_; intro v3 w3 hs3 hg3 ho3))
                  go_meet
                  exact ⟨bag ++ [y], Or.inr rfl, HMID2.out.copied hs3 hg3 ho3⟩
              case rest =>
                obtain ⟨bag1, hb1, hmid3⟩ := hcut
                have hp1 : bag1[p]? = some y := by
                  rcases hb1 with rfl | rfl
                  · exact HY.out
                  · rw [List.getElem?_append_left hp]; exact HY.out
                have hinv1 : BInv bag1 live next isDone D out := by
                  rcases hb1 with rfl | rfl
                  · exact HA.out.inv
                  · exact HA.out.inv.copy (List.mem_of_getElem? HY.out)
                have HINV1 := Lib.hid hinv1
                clear hinv1
                have hn1 : bag1.length ≤ bag.length + 1 := by
                  rcases hb1 with rfl | rfl <;> simp
                have hpl : p < bag1.length := (List.getElem?_eq_some_iff.1 hp1).1
                obtain ⟨g1, off1, cap1, rfl, hncap1, hmax1, hg1, hcells⟩ := hmid3.seg.open (by omega)
                have HMID3 := Lib.hid hmid3
                have HP1 := Lib.hid hp1
                clear hcells hb1 hmid3 hp1 HMID2
                go_upto_region 18 with fail
                go_cut [6] (fun v wx => EMid w wx pb mb db xb y v (bag1.take p ++ bag1.drop (p + 1)) isDone cnt dn D out)
                case first =>
                  have HS0 := Lib.hid (cut_empty wc)
                  have HSA := Lib.hid (cut_head HMID3.out.seg hpl)
                  have hgc : g1 ≠ wc.heap.size := by omega
                  have q1 : (p : Int) ≤ (p : Int) + 1 := by omega
                  have q2 : (p : Int) + 1 ≤ (bag1.length : Int) := by omega
                  have q3 : (0 : Int) ≤ (p : Int) + 1 := by omega
                  have q4 : (p : Int) ≤ (cap1 : Int) := by omega
                  have q5 : (p : Int) + 1 ≤ (cap1 : Int) := by omega
                  have q6 : IntKind.i64.wrap ((p : Int) + 1) = (p : Int) + 1 := IntWalk.i64_in _ (by omega)
                  have q7 : ((p : Int) + 1).toNat = p + 1 := by omega
                  by_cases hcap : cap1 = p + 1
                  · subst hcap
                    have HSB := Lib.hid (cut_last HMID3.out.seg hpl)
                    go_region_law (first
                      | (refine step_append_seg rfl (.tmp 87) (.tmp 90) 35 rfl i0 _ 3 24 Try.underlying35 HI.out.1 HI.out.2.1 HI.out.2.2.1 HI.out.2.2.2 rfl (by decide) rfl HS0.out _ p _ rfl HSA.out (by unfold maxLen; omega) (by omega) ?_; intro v4 w4 hs4 hg4 ho4; replace hg4 := cut_grown hg4)
                      | (refine step_append_seg rfl (.tmp 91) (.tmp 95) 35 rfl i0 _ 3 24 Try.underlying35 HI.out.1 HI.out.2.1 HI.out.2.2.1 HI.out.2.2.2 rfl (by decide) rfl (by assumption) _ 0 _ rfl (HSB.out _ (by assumption)) (by unfold maxLen; omega) (by omega) ?_; intro v5 w5 hs5 hg5 ho5))
                    go_wp2
                    go_meet
                    exact HMID3.out.cutted hg4 ho4 hs5 hg5 ho5 (by simp) (by simp; omega) hpl
                  · have HSB := Lib.hid (cut_more HMID3.out.seg hpl hcap)
                    go_region_law (first
                      | (refine step_append_seg rfl (.tmp 87) (.tmp 90) 35 rfl i0 _ 3 24 Try.underlying35 HI.out.1 HI.out.2.1 HI.out.2.2.1 HI.out.2.2.2 rfl (by decide) rfl HS0.out _ p _ rfl HSA.out (by unfold maxLen; omega) (by omega) ?_; intro v4 w4 hs4 hg4 ho4; replace hg4 := cut_grown hg4)
                      | (refine step_append_seg rfl (.tmp 91) (.tmp 95) 35 rfl i0 _ 3 24 Try.underlying35 HI.out.1 HI.out.2.1 HI.out.2.2.1 HI.out.2.2.2 rfl (by decide) rfl (by assumption) _ (bag1.length - (p + 1)) _ rfl (HSB.out _ (by assumption)) (by unfold maxLen; omega) (by omega) ?_; intro v5 w5 hs5 hg5 ho5))
                    go_wp2
                    go_meet
                    exact HMID3.out.cutted hg4 ho4 hs5 hg5 ho5 (by simp) (by simp) hpl
                case rest =>
                  have HMID4 := Lib.hid hcut
                  have hr0 := cell_of_row hcut.row 0
                  have hr1 := cell_of_row hcut.row 1
                  have hr2 := cell_of_row hcut.row 2
                  simp at hr0 hr1 hr2
                  have hxlt := lt_of_block hcut.row
                  have hyn := HINV1.out.lt y (List.mem_of_getElem? HP1.out)
                  have hl := hcut.done.look (a := y.num) (by omega)
                  have hcl : (bag1.take p ++ bag1.drop (p + 1)).length = bag1.length - 1 := by simp; omega
                  have HCL := Lib.hid hcl
                  clear hcl hcut hncap1 hmax1 hg1 HMID3
                  cases hd : isDone y.num
                  · rw [hd] at hl
                    have HD := Lib.hid hd
                    clear hd
                    obtain ⟨rest, hperm, hE⟩ := HINV1.out.live HP1.out HD.out
                    obtain ⟨hcr, hcro, hdep, hnum, hlow⟩ := hE.head
                    have hhi := hE.hi
                    have hout0 : (out == 0) = false := by simp; omega
                    have hS1 : 1 ≤ y.credit / ((m : Int) + 1) := Int.le_ediv_of_mul_le (by omega) (by omega)
                    have hSm : y.credit / ((m : Int) + 1) * m ≤ y.credit := by
                      have h1 : y.credit / ((m : Int) + 1) * (m + 1) ≤ y.credit := Int.ediv_mul_le _ (by omega)
                      rw [Int.mul_add] at h1; omega
                    have hSc : y.credit / ((m : Int) + 1) ≤ y.credit := Int.ediv_le_self _ (by omega)
                    have hSm0 : 0 ≤ y.credit / ((m : Int) + 1) * m := Int.mul_nonneg (by omega) (by omega)
                    have hstep := hE.step (m := m) hm4 HMD.out rfl rfl (by omega) (by omega)
                    have HPERM := Lib.hid hperm
                    have HFR := Lib.hid (hE.fresh y (by simp))
                    have hcn := HA.out.hcnt
                    have hdn := HA.out.hdn
                    clear hperm hE
                    go_wp2_with fail
                    refine (done_any _ _ _ _ _ _ HMID4.out.pool).mono ?_
                    rintro e w' ⟨rfl, rfl⟩
                    go_wp2_with fail
                    refine (split_some y.credit m (by omega) (by omega) (by omega) (by omega) _).mono ?_
                    rintro e w' ⟨rfl, rfl⟩
                    generalize y.credit / ((m : Int) + 1) = S at hS1 hSm hSc hSm0 hstep ⊢
                    have hR0 : 0 ≤ y.credit - S * m := by omega
                    have hRc : y.credit - S * m ≤ y.credit := by omega
                    generalize y.credit - S * m = R at hR0 hRc hstep ⊢
                    have HSTEP := Lib.hid hstep
                    obtain ⟨w5, hrun5, hdone5, hturn5⟩ := HMID4.out.done.put (a := y.num) (by omega) (by unfold maxLen; omega)
                    have hmid5 := HMID4.out.marked hdone5 hturn5
                    have HMID5 := Lib.hid hmid5
                    clear hstep hdone5 hturn5 hmid5
                    go_wp2_with fail
                    obtain ⟨wi, hwi⟩ : ∃ wi : World, wi = w5 := ⟨_, rfl⟩
                    clear hwi hrun5 hr0 hr1 hr2 hl
                    go_loopw [6, 7, 133] (fun v nx j wr => ∃ q : Nat, nx = .int .u64 ((next + q : Nat) : Int) ∧ j = .int .i64 q ∧ q ≤ m ∧ EMid w wr pb mb db xb y v (bag1.take p ++ bag1.drop (p + 1) ++ kids next q S (y.depth + 1)) (fun b => b == y.num || isDone b) cnt (dn + 1) D out) (fun _ _ j _ => m - (intOf j).toNat)
                    case atStart => exact ⟨0, rfl, rfl, Nat.zero_le _, by simpa [kids] using HMID5.out⟩
                    case round =>
                      obtain ⟨q, rfl, rfl, hq, hQ⟩ := hrel
                      have hr0 := cell_of_row hQ.row 0
                      have hr1 := cell_of_row hQ.row 1
                      have hr2 := cell_of_row hQ.row 2
                      have hxlt := lt_of_block hQ.row
                      simp at hr0 hr1 hr2
                      have HQ := Lib.hid hQ
                      have HCQ : Hid ((bag1.take p ++ bag1.drop (p + 1) ++ kids next q S (y.depth + 1)).length = bag1.length - 1 + q) := by
                        have h1 := HCL.out
                        show _ = _
                        rw [List.length_append, h1, kids_length]
                      clear hQ
                      by_cases hqm : q < m
                      · have hs1 := HQ.out.seg.alloc (.cells #[.int .u64 ((next + q : Nat) : Int), .int .u64 S, .int .i64 ((y.depth : Int) + 1)] 34)
                        have hsrc := Src.one (size := 3) wr #[.int .u64 ((next + q : Nat) : Int), .int .u64 S, .int .i64 ((y.depth : Int) + 1)] 34 1 1 rfl (by simp [Value.oneCell'])
                        have HS1 := Lib.hid hs1
                        have HSRC := Lib.hid hsrc
                        clear hs1 hsrc
                        go_wp2_with (first | (at_builtin; refine wpList_append_seg rfl (.tmp 135) (.tmp 142) 35 rfl i0 _ 3 24 Try.underlying35 HI.out.1 HI.out.2.1 HI.out.2.2.1 HI.out.2.2.2 rfl (by decide) rfl HS1.out _ 1 _ rfl HSRC.out (by have := HCQ.out; unfold maxLen; omega) (by have := HCQ.out; omega) ?_; intro v3 w3 hs3 hg3 ho3))
                        have hnext := HQ.out.next hs3 hg3 ho3
                        have HN := Lib.hid hnext
                        clear hnext hs3 hg3 ho3
                        go_roundw
                        case rel => exact ⟨q + 1, by go_num, by go_num, by omega, HN.out⟩
                        case measure => simp [intOf]; omega
                      · obtain rfl : q = m := by omega
                        go_wp2_with fail
                        refine (back_new _ pb mb _ 1 y.num R _ _ HQ.out.pool (by decide) (wf_u64 (by omega)) HFR.out (by omega) hR0 (by omega) (by unfold maxLen; omega)).mono ?_
                        rintro e w6 ⟨rfl, hP6, hM6⟩
                        have hfin := HQ.out.finish HA.out hP6 hM6 (HINV1.out.work HP1.out HD.out HPERM.out HSTEP.out (by omega)) hk2 hm4 (by have := HCQ.out; omega)
                        have HF := Lib.hid hfin
                        clear hfin hP6 hM6
                        go_wp2
                        go_roundw
                        case rel => exact ⟨_, _, next + q, k + 1, _, cnt + 1, dn + 1, _, out - R, by go_num, by go_num, HF.out⟩
                        case measure => simp [intOf]; omega
                  · rw [hd] at hl
                    have HOLD := Lib.hid (HINV1.out.old y.num hd).2
                    have HAG := Lib.hid (HINV1.out.again HP1.out hd)
                    clear hd
                    go_wp2_with fail
                    refine (back_seen _ pb mb out 1 y.num y.credit _ _ HMID4.out.pool (by decide) (wf_u64 (by omega)) HOLD.out).mono ?_
                    rintro e w5 ⟨rfl, hM5⟩
                    have hfin := HMID4.out.again HA.out hM5 HAG.out hk2 (by have := HCL.out; omega)
                    have HF := Lib.hid hfin
                    clear hfin hM5
                    go_wp2
                    go_roundw
                    case rel => exact ⟨_, live, next, k + 1, isDone, cnt, dn, D, out, rfl, by go_num, HF.out⟩
                    case measure => simp [intOf]; omega
    · obtain ⟨av, capv, rfl, hncap, hmax⟩ := HA.out.seg.shape
      have hx : bag.length ≤ 0 ∨ (0 < bag.length ∧ 200 ≤ k) := by omega
      clear hgo
      have HDN := Lib.hid HA.out.inv.done
      rcases hx with hb0 | ⟨hb0, hk2⟩
      · go_wp2_with fail
        obtain ⟨wo, rfl⟩ : ∃ wo : World, wo = wr := ⟨_, rfl⟩
        go_loopw [20, 163] (fun o j wr => ∃ q : Nat, o = .bool ((bag.take q).any fun x => !isDone x.num) ∧ j = .int .i64 q ∧ q ≤ bag.length ∧ EndsAt w wr pb mb db (.slice av bag.length capv) bag live next k isDone cnt dn D out) (fun _ j _ => bag.length - (intOf j).toNat)
        case atStart => exact ⟨0, rfl, rfl, Nat.zero_le _, HA.out⟩
        case round =>
          obtain ⟨q, rfl, rfl, hq, hQ⟩ := hrel
          have HQ := Lib.hid hQ
          clear hQ
          by_cases hqn : q < bag.length
          · omega
          · obtain rfl : q = bag.length := by omega
            have hd : (out == 0) = !((bag.take bag.length).any fun x => !isDone x.num) := by rw [HDN.out, List.take_length]
            generalize (bag.take bag.length).any (fun x => !isDone x.num) = op at hd ⊢
            have HD := Lib.hid hd
            clear hd
            go_wp2_with fail
            refine (done_any _ _ _ _ _ _ HQ.out.pool).mono ?_
            rintro e w' ⟨rfl, rfl⟩
            cases op
            all_goals
              have hd := HD.out
              clear HD
              go_wp2
              go_ret
              exact ⟨ret_bool (by first | rfl | simp [hd]), HQ.out.mod⟩
      · go_wp2_with fail
        obtain ⟨wo, rfl⟩ : ∃ wo : World, wo = wr := ⟨_, rfl⟩
        go_loopw [20, 163] (fun o j wr => ∃ q : Nat, o = .bool ((bag.take q).any fun x => !isDone x.num) ∧ j = .int .i64 q ∧ q ≤ bag.length ∧ EndsAt w wr pb mb db (.slice av bag.length capv) bag live next k isDone cnt dn D out) (fun _ j _ => bag.length - (intOf j).toNat)
        case atStart => exact ⟨0, rfl, rfl, Nat.zero_le _, HA.out⟩
        case round =>
          obtain ⟨q, rfl, rfl, hq, hQ⟩ := hrel
          have HQ := Lib.hid hQ
          clear hQ
          by_cases hqn : q < bag.length
          · obtain ⟨y, hy⟩ : ∃ y, bag[q]? = some y := ⟨_, List.getElem?_eq_getElem hqn⟩
            obtain ⟨g, off, cap', e, hx1, hx2, hg, hx3⟩ := HQ.out.seg.open (by omega)
            clear hx1 hx2 hx3
            simp only [Value.slice.injEq, true_and] at e
            obtain ⟨rfl, rfl⟩ := e
            obtain ⟨c0, c1, c2, hx4⟩ := HQ.out.seg.msg hy
            clear hx4
            have hyn := HQ.out.inv.lt y (List.mem_of_getElem? hy)
            have hl := (HQ.out.done.alloc (.cells #[.int .u64 y.num, .int .u64 y.credit, .int .i64 y.depth] 34)).look (a := y.num) (by omega)
            have HT := Lib.hid (take_any hy (fun x => !isDone x.num))
            have HK := Lib.hid (HQ.out.keep ((Mod.refl _ wr).alloc (.cells #[.int .u64 y.num, .int .u64 y.credit, .int .i64 y.depth] 34)))
            clear hy
            cases hany : (bag.take q).any fun x => !isDone x.num
            · cases hdy : isDone y.num
              all_goals
                rw [hdy] at hl
                have HAN := Lib.hid hany
                have HDY := Lib.hid hdy
                clear hany hdy
                go_wp2
                go_roundw
                case rel => exact ⟨q + 1, by rw [HT.out, HAN.out, HDY.out]; rfl, by go_num, by omega, HK.out⟩
                case measure => simp [intOf]; omega
            · have HAN := Lib.hid hany
              clear hany
              go_wp2
              go_roundw
              case rel => exact ⟨q + 1, by rw [HT.out, HAN.out]; rfl, by go_num, by omega, HK.out⟩
              case measure => simp [intOf]; omega
          · obtain rfl : q = bag.length := by omega
            have hd : (out == 0) = !((bag.take bag.length).any fun x => !isDone x.num) := by rw [HDN.out, List.take_length]
            generalize (bag.take bag.length).any (fun x => !isDone x.num) = op at hd ⊢
            have HD := Lib.hid hd
            clear hd
            go_wp2_with fail
            refine (done_any _ _ _ _ _ _ HQ.out.pool).mono ?_
            rintro e w' ⟨rfl, rfl⟩
            cases op
            all_goals
              have hd := HD.out
              clear HD
              go_wp2
              go_ret
              exact ⟨ret_bool (by first | rfl | simp [hd]), HQ.out.mod⟩
end Go.Proofs.Ytabhddbfjfomeaa
