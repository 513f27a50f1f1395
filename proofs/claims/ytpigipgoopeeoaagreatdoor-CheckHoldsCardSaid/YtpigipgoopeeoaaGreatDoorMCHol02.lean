import Derived.Test.YtpigipgoopeeoaaGreatDoorMCHol01
set_option linter.unusedVariables false
set_option linter.unusedSimpArgs false
namespace Go.Proofs.YtpigipgoopeeoaaGreatDoor
open Go.RowKit Go.Maps
structure Cm.Own (w wr : World) (c : Cm) : Prop where
 nm : c.x.nm.ok
 v : c.x.r.v < 4294967296
 ops : ORd w c.vo c.x.r.ops
 vals : Seg wr 77 3 c.vv c.x.vals.length (vvcells c.x.vals)
 list : Seg wr 32 1 c.vl c.x.list.length (c.x.list.map (keyV .u32))
def Else (w wr : World) (S : Nat → Prop) : Prop := ∀ b, S b → w.heap.size ≤ b ∧ (b < wr.heap.size → ∃ cs t f, wr.heap[b]? = some (.cells cs t f) ∧ t ≠ 77 ∧ t ≠ 32)
theorem seg_else {w wr : World} {S : Nat → Prop} (hS : Else w wr S) {e : TypeId} (he : e = 77 ∨ e = 32) {size n : Nat} {v : Value} {xs : List Value} (h : Seg wr e size v n xs) : ∀ b, v.ownBlock = some b → ¬ S b := by
 intro b hb s
 rcases h.2.2 with ⟨rfl, _⟩ | ⟨g, off, cap, cur, rfl, hg, _⟩
 · simp [Value.ownBlock] at hb
 · simp [Value.ownBlock] at hb
   subst hb
   obtain ⟨cs, t, f, hc, h1, h2⟩ := (hS _ s).2 (lt_of_block hg)
   rw [hg] at hc
   injection hc with hc
   injection hc with _ hc _
   rcases he with rfl | rfl
   · exact h1 hc.symm
   · exact h2 hc.symm
theorem Cm.Own.mod {w wr w' : World} {c : Cm} {S : Nat → Prop} (h : c.Own w wr) (m : Mod S wr w') (hS : Else w wr S) : c.Own w w' :=
 ⟨h.nm, h.v, h.ops, h.vals.mod m (seg_else hS (.inl rfl) h.vals), h.list.mod m (seg_else hS (.inr rfl) h.list)⟩
theorem else_false (w wr : World) : Else w wr (fun _ => False) := fun _ f => f.elim
theorem Cm.Own.rd {w wr : World} {c : Cm} (h : c.Own w wr) (m : Mod (fun _ => False) w wr) : c.Rd wr := ⟨h.nm, h.v, h.ops.keep m, h.vals.rdS, h.list.rdS⟩
def plainP (j : Nat) (u : Value) : Prop := (∀ b, u ≠ .bool b) ∧ ∀ s, u ≠ .string s
theorem noRow_plain {cur : Array Value} (h : ∀ (j : Nat) (u : Value), cur[j]? = some u → plainP j u) : NoRow cur :=
 ⟨fun j n => .inr (fun b e => (h _ _ e).1 b rfl), fun j k n m s ⟨_, _, h3⟩ => (h _ _ h3).2 s rfl⟩
theorem plain_zero {cells : Array Value} (hc : ∀ u ∈ cells, plainP 0 u) (k q size j : Nat) (u : Value) (h : (Builtin.zeroCells cells k)[j]? = some u) : plainP (q * size + j) u := by
 unfold Builtin.zeroCells at h
 rw [Array.getElem?_map, Option.map_eq_some_iff] at h
 obtain ⟨i, hi, rfl⟩ := h
 have hik : i < k * cells.size := by
   have h1 := (Array.getElem?_eq_some_iff.1 hi)
   obtain ⟨h1, h2⟩ := h1
   simp at h1 h2
   omega
 have hpos : 0 < cells.size := by
   rcases Nat.eq_zero_or_pos cells.size with h0 | h0
   · rw [h0] at hik; omega
   · exact h0
 have hs : i % cells.size < cells.size := Nat.mod_lt _ hpos
 have hm := hc _ (Array.getElem_mem hs)
 rw [getElem!_pos cells _ hs]
 exact ⟨fun b => hm.1 b, fun s => hm.2 s⟩
def Cm.Sl (c : Cm) : Prop := (∃ a n k, c.vo = .slice a n k) ∧ (∃ a n k, c.vv = .slice a n k) ∧ ∃ a n k, c.vl = .slice a n k
theorem Cm.Own.sl {w wr : World} {c : Cm} (h : c.Own w wr) : c.Sl := by
 obtain ⟨a, k, e, _⟩ := h.ops.row.shape
 obtain ⟨a1, k1, e1, _⟩ := h.vals.shape
 obtain ⟨a2, k2, e2, _⟩ := h.list.shape
 exact ⟨⟨_, _, _, e⟩, ⟨_, _, _, e1⟩, ⟨_, _, _, e2⟩⟩
theorem Cm.Sl.c11 {c : Cm} (h : c.Sl) : ∀ u ∈ c.c11, plainP 0 u := by
 obtain ⟨⟨_, _, _, e1⟩, ⟨_, _, _, e2⟩, ⟨_, _, _, e3⟩⟩ := h
 intro u hu
 simp only [Cm.c11, e1, e2, e3, List.mem_cons, List.mem_nil_iff, or_false] at hu
 rcases hu with rfl | rfl | rfl | rfl | rfl | rfl | rfl | rfl | rfl | rfl | rfl <;> exact ⟨fun b h => (by cases h), fun s h => (by cases h)⟩
theorem Cm.Sl.c13 {c : Cm} (h : c.Sl) : ∀ u ∈ c.c13, plainP 0 u := by
 obtain ⟨⟨_, _, _, e1⟩, ⟨_, _, _, e2⟩, ⟨_, _, _, e3⟩⟩ := h
 intro u hu
 simp only [Cm.c13, e1, e2, e3, List.mem_cons, List.mem_nil_iff, or_false] at hu
 rcases hu with rfl | rfl | rfl | rfl | rfl | rfl | rfl | rfl | rfl | rfl | rfl | rfl | rfl <;> exact ⟨fun b h => (by cases h), fun s h => (by cases h)⟩
theorem plain_rows {cells : Cm → List Value} {l : List Cm} (h : ∀ c ∈ l, ∀ u ∈ cells c, plainP 0 u) : ∀ u ∈ l.flatMap cells, plainP 0 u := by
 intro u hu
 obtain ⟨c, hc, hu⟩ := List.mem_flatMap.1 hu
 exact h c hc u hu
theorem plain_at {l : List Value} (h : ∀ u ∈ l, plainP 0 u) : ∀ (j : Nat) (u : Value), l[j]? = some u → plainP j u := fun j u hj => ⟨fun b => (h u (List.mem_of_getElem? hj)).1 b, fun s => (h u (List.mem_of_getElem? hj)).2 s⟩
structure Hw (w : World) (gr : Nat) (u u' : Value) (ms rs : List Cm) (L : Gr) (wr : World) : Prop where
 mod : Mod (fun _ => False) w wr
 rf : ∃ gv l, GrAt wr gr gv l ∧ l.map Vs.x = L
 good : Good L
 lo : w.heap.size ≤ gr
 row : Seg wr 42 11 u ms.length (ms.flatMap Cm.c11)
 row' : Seg wr 44 13 u' rs.length (rs.flatMap Cm.c13)
 own : ∀ c ∈ ms, c.Own w wr
 own' : ∀ c ∈ rs, c.Own w wr
 oa : ∀ b, u.ownBlock = some b → w.heap.size ≤ b
 oa' : ∀ b, u'.ownBlock = some b → w.heap.size ≤ b
 pat : PatB plainP wr u
 pat' : PatB plainP wr u'
section
variable {w wr wx : World} {gr : Nat} {u u' : Value} {ms rs : List Cm} {L : Gr}
theorem Hw.keep (h : Hw w gr u u' ms rs L wr) (m : Mod (fun _ => False) wr wx) : Hw w gr u u' ms rs L wx :=
 ⟨h.mod.trans m, rf_kept h.rf (.mod m), h.good, h.lo, h.row.mod m (fun _ _ f => f), h.row'.mod m (fun _ _ f => f), fun c hc => (h.own c hc).mod m (else_false _ _), fun c hc => (h.own' c hc).mod m (else_false _ _), h.oa, h.oa', h.pat.mod m (fun _ _ f => f), h.pat'.mod m (fun _ _ f => f)⟩
theorem Hw.crd (h : Hw w gr u u' ms rs L wr) : CRd Cm.c11 11 wr u ms := ⟨h.row.rdS, fun c hc => (h.own c hc).rd h.mod⟩
theorem Hw.crd' (h : Hw w gr u u' ms rs L wr) : CRd Cm.c13 13 wr u' rs := ⟨h.row'.rdS, fun c hc => (h.own' c hc).rd h.mod⟩
theorem Hw.gr_box (h : Hw w gr u u' ms rs L wr) : ∃ cs, wr.heap[gr]? = some (.cells cs 28 (0, 0)) := by
 obtain ⟨gv, l, hg, -⟩ := h.rf
 exact ⟨_, hg.box⟩
theorem seg_blk {wr : World} {e : TypeId} {size n : Nat} {v : Value} {xs : List Value} (h : Seg wr e size v n xs) {b : Nat} (hb : v.ownBlock = some b) : ∃ cs, wr.heap[b]? = some (.cells cs e (0, 0)) := by
 rcases h.2.2 with ⟨rfl, _⟩ | ⟨g, off, cap, cur, rfl, hg, _⟩
 · simp [Value.ownBlock] at hb
 · simp [Value.ownBlock] at hb; subst hb; exact ⟨_, hg⟩
theorem Hw.else_gr (h : Hw w gr u u' ms rs L wr) : Else w wr (fun k => k = gr) := by
 rintro b rfl
 obtain ⟨cs, hc⟩ := h.gr_box
 exact ⟨h.lo, fun _ => ⟨_, _, _, hc, by decide, by decide⟩⟩
theorem Hw.else_u (h : Hw w gr u u' ms rs L wr) : Else w wr (fun k => u.ownBlock = some k) := by
 intro b hb
 obtain ⟨cs, hc⟩ := seg_blk h.row hb
 exact ⟨h.oa b hb, fun _ => ⟨_, _, _, hc, by decide, by decide⟩⟩
theorem Hw.else_u' (h : Hw w gr u u' ms rs L wr) : Else w wr (fun k => u'.ownBlock = some k) := by
 intro b hb
 obtain ⟨cs, hc⟩ := seg_blk h.row' hb
 exact ⟨h.oa' b hb, fun _ => ⟨_, _, _, hc, by decide, by decide⟩⟩
theorem seg_ne {wr : World} {e t : TypeId} {size n b : Nat} {v : Value} {xs : List Value} {cs : Array Value} {f : Nat × Nat} (h : Seg wr e size v n xs) (hb : wr.heap[b]? = some (.cells cs t f)) (hne : e ≠ t) : v.ownBlock ≠ some b := by
 intro e'
 obtain ⟨cs', hc⟩ := seg_blk h e'
 rw [hb] at hc
 injection hc with hc
 injection hc with _ hc _
 exact hne hc.symm
theorem Hw.do {r : Rqt} {vv vl : Value} (h : Hw w gr u u' ms rs L wr) (d : RDq gr L r vv vl wr wx) : Hw w gr u u' ms rs (doG L r).1 wx := by
 obtain ⟨cs, hc⟩ := h.gr_box
 refine ⟨h.mod.trans' d.mod (fun i hi e => by have := h.lo; omega), d.rf, Good.do h.good r, h.lo, h.row.mod d.mod (fun b hb e => ?_), h.row'.mod d.mod (fun b hb e => ?_), fun c hc => (h.own c hc).mod d.mod h.else_gr, fun c hc => (h.own' c hc).mod d.mod h.else_gr, h.oa, h.oa', h.pat.mod d.mod (fun b hb e => ?_), h.pat'.mod d.mod (fun b hb e => ?_)⟩
 · subst e; exact seg_ne h.row hc (by decide) hb
 · subst e; exact seg_ne h.row' hc (by decide) hb
 · subst e; exact seg_ne h.row hc (by decide) hb
 · subst e; exact seg_ne h.row' hc (by decide) hb
theorem grAt_own {gr : Nat} {L : Gr} {v : Value} {e : TypeId} {size n : Nat} {xs : List Value} (hr : ∃ gv l, GrAt wr gr gv l ∧ l.map Vs.x = L) (hs : Seg wr e size v n xs) (hp : PatB plainP wr v) (he : e ≠ 28) (m : Mod (fun k => v.ownBlock = some k) wr wx) : ∃ gv l, GrAt wx gr gv l ∧ l.map Vs.x = L := by
 obtain ⟨gv, l, hg, hl⟩ := hr
 rcases hs.2.2 with ⟨rfl, _⟩ | ⟨g, off, cap, cur, rfl, hgc, _⟩
 · exact ⟨gv, l, hg.keep (m.mono (fun i _ h => by simp [Value.ownBlock] at h)), hl⟩
 · obtain ⟨_, cur', t', hc, hpl⟩ := hp g off n cap rfl
   have m' : Mod (fun k => k = g) wr wx := m.mono (fun i _ h => by simp [Value.ownBlock] at h; exact h.symm)
   refine ⟨gv, l, ⟨m'.heap hg.box (fun e' => ?_), hg.lst.offC hc (noRow_plain hpl) m'⟩, hl⟩
   have hb := hg.box
   rw [e', hgc] at hb
   injection hb with hb
   injection hb with _ hb _
   exact he hb
theorem Hw.appC {w5 w3 : World} {v3 : Value} {c : Cm} (h : Hw w gr u u' ms rs L w5) (hc : c.Own w w5) (hs : Seg w3 42 11 v3 (ms.length + 1) (ms.flatMap Cm.c11 ++ c.c11)) (hp : PatB plainP w3 v3) (hg : w5.grownBy w3 u.ownBlock) (ho : v3.ownBlock = u.ownBlock ∨ v3.ownBlock = some w5.heap.size) : Hw w gr v3 u' (ms ++ [c]) rs L w3 := by
 have m := mod_grown hg
 refine ⟨h.mod.grown hg (fun b hb hlt => by have := h.oa b hb; omega), grAt_own h.rf h.row h.pat (by decide) m, h.good, h.lo, by rw [List.length_append, List.flatMap_append]; simpa using hs, h.row'.mod m (fun b hb e => ?_), fun d hd => ?_, fun d hd => (h.own' d hd).mod m h.else_u, fun b hb => ?_, h.oa', hp, h.pat'.mod m (fun b hb e => ?_)⟩
 · obtain ⟨cs, hcs⟩ := seg_blk h.row e
   exact seg_ne h.row' hcs (by decide) hb
 · rcases List.mem_append.1 hd with hd | hd
   · exact (h.own d hd).mod m h.else_u
   · rw [List.mem_singleton] at hd; rw [hd]; exact hc.mod m h.else_u
 · rcases ho with e | e
   · exact h.oa b (e ▸ hb)
   · rw [e] at hb; injection hb with hb
     have := h.mod.size; omega
 · obtain ⟨cs, hcs⟩ := seg_blk h.row e
   exact seg_ne h.row' hcs (by decide) hb
theorem Hw.appR {w5 w3 : World} {v3 : Value} {c : Cm} (h : Hw w gr u u' ms rs L w5) (hc : c.Own w w5) (hs : Seg w3 44 13 v3 (rs.length + 1) (rs.flatMap Cm.c13 ++ c.c13)) (hp : PatB plainP w3 v3) (hg : w5.grownBy w3 u'.ownBlock) (ho : v3.ownBlock = u'.ownBlock ∨ v3.ownBlock = some w5.heap.size) : Hw w gr u v3 ms (rs ++ [c]) L w3 := by
 have m := mod_grown hg
 refine ⟨h.mod.grown hg (fun b hb hlt => by have := h.oa' b hb; omega), grAt_own h.rf h.row' h.pat' (by decide) m, h.good, h.lo, h.row.mod m (fun b hb e => ?_), by rw [List.length_append, List.flatMap_append]; simpa using hs, fun d hd => (h.own d hd).mod m h.else_u', fun d hd => ?_, h.oa, fun b hb => ?_, h.pat.mod m (fun b hb e => ?_), hp⟩
 · obtain ⟨cs, hcs⟩ := seg_blk h.row' e
   exact seg_ne h.row hcs (by decide) hb
 · rcases List.mem_append.1 hd with hd | hd
   · exact (h.own' d hd).mod m h.else_u'
   · rw [List.mem_singleton] at hd; rw [hd]; exact hc.mod m h.else_u'
 · rcases ho with e | e
   · exact h.oa' b (e ▸ hb)
   · rw [e] at hb; injection hb with hb
     have := h.mod.size; omega
 · obtain ⟨cs, hcs⟩ := seg_blk h.row' e
   exact seg_ne h.row hcs (by decide) hb
theorem flat_set11 : ∀ (l : List Cm) (i j : Nat) (c : Cm) (u : Value), l[i]? = some c → j < 11 → ∀ d : Cm, d.c11 = c.c11.set j u → (l.flatMap Cm.c11).set (i * 11 + j) u = (l.set i d).flatMap Cm.c11
 | [], i, j, c, u, h, _, _, _ => by simp at h
 | x :: r, 0, j, c, u, h, hj, d, hd => by
   simp at h; subst h
   have hl : x.c11.length = 11 := rfl
   rw [List.flatMap_cons, Nat.zero_mul, Nat.zero_add, List.set_append_left _ _ (by rw [hl]; exact hj), List.set_cons_zero, List.flatMap_cons, hd]
 | x :: r, i + 1, j, c, u, h, hj, d, hd => by
   have hl : x.c11.length = 11 := rfl
   rw [List.flatMap_cons, List.set_append_right _ _ (by rw [hl]; omega), hl, show (i + 1) * 11 + j - 11 = i * 11 + j by omega, List.set_cons_succ, List.flatMap_cons, flat_set11 r i j c u (by simpa using h) hj d hd]
theorem Hw.turn {g off cap n : Nat} (h : Hw w gr (.slice (some ⟨g, off, none⟩) n cap) u' ms rs L wr) {i : Nat} {c : Cm} (hc : ms[i]? = some c) (hn : n = ms.length) (z : Int) :
   wr.cell? ⟨g, off + i * 11 + 8, none⟩ = some (.int .i64 c.x.p) ∧ wr.frozen? ⟨g, off + i * 11 + 8, none⟩ = false ∧ g < wr.heap.size ∧
     CRd Cm.c11 11 (wr.setCell ⟨g, off + i * 11 + 8, none⟩ (.int .i64 z)) (.slice (some ⟨g, off, none⟩) n cap) (ms.set i { c with x := { c.x with p := z } }) ∧
     CRd Cm.c13 13 (wr.setCell ⟨g, off + i * 11 + 8, none⟩ (.int .i64 z)) u' rs ∧ Mod (fun _ => False) w (wr.setCell ⟨g, off + i * 11 + 8, none⟩ (.int .i64 z)) := by
 subst hn
 have hi := (List.getElem?_eq_some_iff.1 hc).1
 have hlt : i * 11 + 8 < ms.length * 11 := by omega
 obtain ⟨g', off', cap', e, h1, h2, h3, h4⟩ := h.row.open (by omega)
 injection e with e1 _ e3
 injection e1 with e1
 injection e1 with e1 e2 _
 subst e1 e2 e3
 have hcell := (h4 _ hlt).1
 have hfr := (h4 _ hlt).2
 rw [← Nat.add_assoc] at hcell hfr
 have hx : (ms.flatMap Cm.c11)[i * 11 + 8]? = some (.int .i64 c.x.p) := by rw [flat_get Cm.c11 (fun _ => rfl) ms i 8 c hc (by omega)]; rfl
 have m : Mod (fun k => Value.ownBlock (.slice (some ⟨g, off, none⟩) ms.length cap) = some k) wr (wr.setCell ⟨g, off + i * 11 + 8, none⟩ (.int .i64 z)) := (Mod.refl (fun k => Value.ownBlock (.slice (some ⟨g, off, none⟩) ms.length cap) = some k) wr).setCell (p := ⟨g, off + i * 11 + 8, none⟩) (fun _ => rfl) _
 have m0 : Mod (fun _ => False) w (wr.setCell ⟨g, off + i * 11 + 8, none⟩ (.int .i64 z)) := h.mod.trans' m (fun b hb e => by have := h.oa b e; omega)
 have hs := h.row.set hlt (.int .i64 z) rfl
 rw [← Nat.add_assoc, flat_set11 ms i 8 c (.int .i64 z) hc (by omega) { c with x := { c.x with p := z } } rfl] at hs
 refine ⟨hcell.trans hx, hfr, h3, ⟨by rw [List.length_set]; exact hs.rdS, fun d hd => ?_⟩, ⟨(h.row'.mod m (fun b hb e => ?_)).rdS, fun d hd => ((h.own' d hd).mod m h.else_u).rd m0⟩, m0⟩
 · have key : ∀ d ∈ ms, d.Rd (wr.setCell ⟨g, off + i * 11 + 8, none⟩ (.int .i64 z)) := fun d hd => ((h.own d hd).mod m h.else_u).rd m0
   rcases List.mem_or_eq_of_mem_set hd with hd | hd
   · exact key d hd
   · have := key c (List.mem_of_getElem? hc)
     rw [hd]
     exact ⟨this.nm, this.v, this.ops, this.vals, this.list⟩
 · obtain ⟨cs, hcs⟩ := seg_blk h.row e
   exact seg_ne h.row' hcs (by decide) hb
end
end Go.Proofs.YtpigipgoopeeoaaGreatDoor
