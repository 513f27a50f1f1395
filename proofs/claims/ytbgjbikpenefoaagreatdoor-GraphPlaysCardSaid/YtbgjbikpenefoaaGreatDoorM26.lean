/- Lemmas for the claim, in one text: YM, YA. -/
import Derived.Test.YtbgjbikpenefoaaGreatDoorM18
import Derived.Test.YtbgjbikpenefoaaGreatDoorRF
import Derived.Test.YtbgjbikpenefoaaGreatDoorM17

/- YM: what is needed of it (by shake.py). -/

/- YM, as far as the seat goes. -/
/- graph.transact in plain Lean: its states. -/
namespace Go.Proofs.YtbgjbikpenefoaaGreatDoor
set_option linter.unusedVariables false
set_option linter.unusedSimpArgs false
open Go.RowKit Go.Maps
theorem NM.off_box {w : World} {bm : Nat} {ns : List Node} (h : NM w bm ns) {b : Nat} {cs : Array Value} {t : TypeId} {f : Nat × Nat} (hb : w.heap[b]? = some (.cells cs t f)) (ht : t ≠ 93) : ¬ FootN bm ns b := by
  intro hf
  rcases hf with rfl | ⟨n, hn, hx⟩
  · obtain ⟨xs, clock, hm⟩ := h.map.isMap
    rw [hm] at hb; cases hb
  · rcases Node.in_blocks.1 hx with rfl | rfl | rfl
    · rw [(h.each n hn).box] at hb
      injection hb with hb
      injection hb with _ hb _
      exact ht hb.symm
    · obtain ⟨xs, clock, hm⟩ := (h.each n hn).props.isMap
      rw [hm] at hb; cases hb
    · obtain ⟨xs, clock, hm⟩ := (h.each n hn).edges.isMap
      rw [hm] at hb; cases hb
theorem PG.off_box {w : World} {g bm : Nat} {ns : List Node} (h : PG w g bm ns) {b : Nat} {cs : Array Value} {t : TypeId} {f : Nat × Nat} (hb : w.heap[b]? = some (.cells cs t f)) (ht : t ≠ 93) (ht2 : t ≠ 81) : ¬ Foot g bm ns b := by
  rintro (rfl | hf)
  · rw [h.cell] at hb
    injection hb with hb
    injection hb with _ hb _
    exact ht2 hb.symm
  · exact h.nm.off_box hb ht hf
theorem seg_box {w : World} {e : TypeId} {size n : Nat} {v : Value} {xs : List Value} (h : Seg w e size v n xs) {b : Nat} (hb : v.ownBlock = some b) : ∃ cur, w.heap[b]? = some (.cells cur e (0, 0)) := by
  rcases h.2.2 with ⟨rfl, _⟩ | ⟨g, off, cap, cur, rfl, hg, _⟩
  · simp [Value.ownBlock] at hb
  · simp [Value.ownBlock] at hb
    subst hb
    exact ⟨cur, hg⟩
theorem Turned.more {S : Nat → Prop} {w w1 w2 : World} {g bm : Nat} {ns ns1 : List Node} {L1 : Gr} {off : Nat → Prop} (a : Turned g bm ns L1 off w w1 ns1) (m : Mod S w1 w2) (hs : ∀ b, S b → w.heap.size ≤ b ∧ ¬ Foot g bm ns1 b) : Turned g bm ns L1 off w w2 ns1 :=
  ⟨a.pg.mod m (fun b hb s => (hs b s).2 hb), a.is, a.mod.trans' m (fun i hi s => by have := (hs i s).1; omega), a.new, a.newM, a.same⟩
theorem Turned.weak {w w1 : World} {g bm : Nat} {ns ns1 : List Node} {L1 : Gr} {o1 o2 : Nat → Prop} (a : Turned g bm ns L1 o1 w w1 ns1) (h : ∀ k, o2 k → o1 k) : Turned g bm ns L1 o2 w w1 ns1 :=
  ⟨a.pg, a.is, a.mod, a.new, a.newM, fun n hn => a.same n (h _ hn)⟩
def ansO (v : Value) : Obj := .cells #[.int .i64 0, .int .i64 0, v, .slice none 0 0] 34
/-- A transaction under way: the graph, the copies, the result's box, the answer's box. -/
structure Tr (w : World) (g bm : Nat) (ns0 : List Node) (bw : Nat) (cs : List Node) (rb ab : Nat) (ops : List Opr) (k : Nat) (L' : Gr) (vals : List Val) (vv : Value) (wr : World) (nsi : List Node) : Prop where
  tu : Turned g bm ns0 L' (fun i => namedB (ops.take k) i = false) w wr nsi
  run : okRun (ns0.map Node.x) (ops.take k) = some (L', vals)
  len : vals.length ≤ k
  cn : NM wr bw cs
  cis : cs.map Node.x = (ns0.map Node.x).filter fun x => namedB ops x.id
  coff : ∀ b, FootN bw cs b → w.heap.size ≤ b ∧ ¬ Foot g bm nsi b
  rbx : wr.heap[rb]? = some (ansO (.slice none 0 0))
  abx : wr.heap[ab]? = some (ansO vv)
  rlo : w.heap.size ≤ rb
  alo : w.heap.size ≤ ab
  ne : ab ≠ rb
  seg : Seg wr 44 3 vv vals.length (vvcells vals)
  own : ∀ b, vv.ownBlock = some b → w.heap.size ≤ b
  pat : PatB valP wr vv
theorem Tr.start {w w1 w2 : World} {g bm : Nat} {ns0 : List Node} {bw : Nat} {cs : List Node} (ops : List Opr) (hp : PG w g bm ns0) (m1 : Mod (fun _ => False) w w1) (hr : w1.heap[w.heap.size]? = some (ansO (.slice none 0 0))) (hc : Cps w1 (ns0.map Node.x) (namedB ops) bw cs w2) (h1 : w.heap.size < w1.heap.size) :
    Tr w g bm ns0 bw cs w.heap.size w2.heap.size ops 0 (ns0.map Node.x) [] (.slice none 0 0) (w2.alloc (ansO (.slice none 0 0))) ns0 := by
  have m2 := hc.mod
  have m3 : Mod (fun _ => False) w2 (w2.alloc (ansO (.slice none 0 0))) := (Mod.refl _ _).alloc _
  have s2 := m2.size
  have hlt := hp.lt
  exact ⟨(Turned.idle hp ((m1.trans m2).trans m3) _), rfl, Nat.le_refl _, hc.nm.keep m3, hc.is, fun b hb => by
    have := hc.new b hb
    exact ⟨by omega, fun f => by have := hlt b f; omega⟩, m3.heap (m2.heap hr (fun f => f)) (fun f => f), heap_alloc_new' _ _, Nat.le_refl _, by omega, by omega, Seg.nil _ _ _, fun b hb => by simp [Value.ownBlock] at hb, PatB.nil _ _⟩
/-- Behind an operation that was taken. -/
theorem Tr.mid {w wr wq w5 : World} {g bm : Nat} {ns0 : List Node} {bw : Nat} {cs : List Node} {rb ab : Nat} {ops : List Opr} {k : Nat} {L' G : Gr} {vals : List Val} {vv : Value} {nsi ns' : List Node} {off : Nat → Prop} (h : Tr w g bm ns0 bw cs rb ab ops k L' vals vv wr nsi) (mq : Mod (fun _ => False) wr wq) (t : Turned g bm nsi G off wq w5 ns') :
    w5.heap[rb]? = some (ansO (.slice none 0 0)) ∧ w5.heap[ab]? = some (ansO vv) ∧ Seg w5 44 3 vv vals.length (vvcells vals) ∧ NM w5 bw cs ∧ (∀ b, FootN bw cs b → w.heap.size ≤ b ∧ ¬ Foot g bm ns' b) ∧ PatB valP w5 vv := by
  have pq := h.tu.pg.keep mq
  refine ⟨pq.nm.box t.mod (mq.heap h.rbx (fun f => f)), pq.nm.box t.mod (mq.heap h.abx (fun f => f)), pq.nm.seg t.mod (h.seg.mod mq (fun _ _ f => f)), NM.nodes t.mod (h.cn.keep mq) (fun b hb hf => (h.coff b hf).2 (.inr hb.foot)), fun b hb => ⟨(h.coff b hb).1, ?_⟩, (h.pat.mod mq (fun _ _ f => f)).mod t.mod (fun b hb f => ?_)⟩
  case refine_2 =>
    obtain ⟨xs, clock, hm⟩ := pq.nm.isMap f
    obtain ⟨cur, hc⟩ := seg_box (h.seg.mod mq (fun _ _ f => f)) hb
    rw [hm] at hc
    cases hc
  rintro (e | hf)
  · exact (h.coff b hb).2 (.inl e)
  · rcases t.new b hf with f | f
    · exact (h.coff b hb).2 (.inr f)
    · have := h.cn.lt b hb
      have := mq.size
      omega
theorem Tr.app {w wr wq w5 w6 : World} {g bm : Nat} {ns0 : List Node} {bw : Nat} {cs : List Node} {rb ab : Nat} {ops : List Opr} {k : Nat} {L' G : Gr} {vals vs1 : List Val} {vv v6 : Value} {nsi ns' : List Node} (h : Tr w g bm ns0 bw cs rb ab ops k L' vals vv wr nsi) {o : Opr} (ho : ops[k]? = some o) (hon : oneG L' o = ⟨0, G, vs1⟩)
    (mq : Mod (fun _ => False) wr wq) (t : Turned g bm nsi G (fun k => k ≠ o.a ∧ k ≠ o.b) wq w5 ns')
    (hs6 : Seg w6 44 3 v6 (vals.length + vs1.length) (vvcells vals ++ vvcells vs1)) (hp6 : PatB valP w6 v6) (hgr : w5.grownBy w6 vv.ownBlock) (ho6 : v6.ownBlock = vv.ownBlock ∨ v6.ownBlock = some w5.heap.size) :
    w6.heap[ab]? = some (ansO vv) ∧ Tr w g bm ns0 bw cs rb ab ops (k + 1) G (vals ++ vs1) v6 (w6.setCell ⟨ab, 2, none⟩ v6) ns' := by
  obtain ⟨rbx5, abx5, seg5, cn5, coff5, -⟩ := h.mid mq t
  have t5 := (h.tu.keep (Mod.refl _ _) mq).trans t (off := fun i => namedB (ops.take (k + 1)) i = false) (fun i hi => by
    rw [namedB_next ho] at hi
    unfold namedTo at hi
    exact (Bool.or_eq_false_iff.1 hi).1) (fun i hi => by
    rw [namedB_next ho] at hi
    unfold namedTo at hi
    have := (Bool.or_eq_false_iff.1 hi).2
    simp at this
    exact ⟨fun e => this.1 e.symm, fun e => this.2 e.symm⟩)
  have mg := mod_grown hgr
  have offs : ∀ b, vv.ownBlock = some b → b ≠ rb ∧ b ≠ ab ∧ ¬ FootN bw cs b ∧ ¬ Foot g bm ns' b := fun b hb => by
    obtain ⟨cur, hc⟩ := seg_box seg5 hb
    refine ⟨fun e => ?_, fun e => ?_, cn5.off_box hc (by decide), t5.pg.off_box hc (by decide) (by decide)⟩
    · subst e; rw [rbx5] at hc; injection hc with hc; injection hc with _ hc _; exact absurd hc (by decide)
    · subst e; rw [abx5] at hc; injection hc with hc; injection hc with _ hc _; exact absurd hc (by decide)
  have t6 := t5.more mg (fun b hb => ⟨h.own b hb, (offs b hb).2.2.2⟩)
  have rbx6 := mg.heap rbx5 (fun e => (offs _ e).1 rfl)
  have abx6 := mg.heap abx5 (fun e => (offs _ e).2.1 rfl)
  have cn6 := cn5.mod mg (fun b hb e => (offs b e).2.2.1 hb)
  have m7 : Mod (fun k => k = ab) w6 (w6.setCell ⟨ab, 2, none⟩ v6) := (Mod.refl (fun k => k = ab) w6).setCell (p := ⟨ab, 2, none⟩) (fun _ => rfl) v6
  have t7 := t6.more m7 (fun b hb => ⟨by rw [hb]; exact h.alo, by rw [hb]; exact t6.pg.off_box abx6 (by decide) (by decide)⟩)
  have hv1 := one_vals L' o
  rw [hon] at hv1
  simp only at hv1
  refine ⟨abx6, t7, ?_, ?_, cn6.mod m7 (fun b hb e => by rw [e] at hb; exact cn6.off_box abx6 (by decide) hb), h.cis, coff5, m7.heap rbx6 (fun e => h.ne e.symm), ?_, h.rlo, h.alo, h.ne, ?_, ?_, hp6.mod m7 (hs6.off_box abx6 (by decide))⟩
  · have := okRun_next h.run ho (by rw [hon])
    rw [hon] at this
    exact this
  · rw [List.length_append]
    have := h.len
    omega
  · simpa [ansO] using row_setCell abx6 2 v6
  · rw [List.length_append, vv_append]; exact hs6.mod m7 (hs6.off_box abx6 (by decide))
  · intro b hb
    rcases ho6 with e | e
    · exact h.own b (e ▸ hb)
    · rw [e] at hb
      injection hb with hb
      have := t5.mod.size
      omega
/-- Who was named is being taken away. -/
structure Del (g bm : Nat) (nsi : List Node) (p : Nat → Bool) (w wr : World) (nsk : List Node) : Prop where
  mod : Mod (fun b => b = bm) w wr
  pg : PG wr g bm nsk
  mem : ∀ n : Node, n ∈ nsk ↔ n ∈ nsi ∧ p n.x.id = false
theorem Del.start {g bm : Nat} {nsi : List Node} {w : World} (h : PG w g bm nsi) : Del g bm nsi (fun _ => false) w w nsi := ⟨Mod.refl _ _, h, fun n => by simp⟩
theorem Del.keep {g bm : Nat} {nsi nsk : List Node} {p : Nat → Bool} {w wr wx : World} (h : Del g bm nsi p w wr nsk) (m : Mod (fun _ => False) wr wx) : Del g bm nsi p w wx nsk := ⟨h.mod.trans (m.mono (fun _ _ f => f.elim)), h.pg.keep m, h.mem⟩
theorem Del.more {g bm : Nat} {nsi nsk : List Node} {p p' : Nat → Bool} {w wr wx : World} (h : Del g bm nsi p w wr nsk) {v : Nat} (hp : ∀ k, p' k = (p k || v == k)) (m : Mod (fun b => b = bm) wr wx) (hU : UMap Tryz.prog 23 .u32 wx bm (delL v (nsk.map Node.f))) : Del g bm nsi p' w wx (dropN v nsk) :=
  ⟨h.mod.trans m, h.pg.drop v m hU, fun n => by
    rw [dropN_mem, h.mem, hp, Bool.or_eq_false_iff, beq_eq_false_iff_ne]
    exact ⟨fun h => ⟨h.1.1, h.1.2, fun e => h.2 e.symm⟩, fun h => ⟨⟨h.1, h.2.1⟩, fun e => h.2.2 e.symm⟩⟩⟩
theorem Del.low {g bm : Nat} {nsi nsk : List Node} {p : Nat → Bool} {w wr : World} (h : Del g bm nsi p w wr nsk) {b : Nat} (hb : Foot g bm nsk b) : Foot g bm nsi b := by
  rcases hb with hb | hb | ⟨n, hn, hb⟩
  · exact .inl hb
  · exact .inr (.inl hb)
  · exact .inr (.inr ⟨n, ((h.mem n).1 hn).1, hb⟩)
/-- The graph is as it was. -/
theorem Tr.undone {w wr w5 w6 w7 : World} {g bm : Nat} {ns0 : List Node} {bw : Nat} {cs : List Node} {rb ab : Nat} {ops : List Opr} {k : Nat} {L' : Gr} {vals : List Val} {vv : Value} {nsi nsk nsf : List Node} (h : Tr w g bm ns0 bw cs rb ab ops k L' vals vv wr nsi) (hp : PG w g bm ns0) (m5 : Mod (fun _ => False) wr w5) (hd : Del g bm nsi (namedB ops) w5 w6 nsk)
    (m7 : Mod (fun b => b = bm) w6 w7) (hf : PG w7 g bm nsf) (hm : ∀ n : Node, n ∈ nsf ↔ (n ∈ nsk ∧ ∀ c ∈ cs, c.x.id ≠ n.x.id) ∨ n ∈ cs) : Turned g bm ns0 (ns0.map Node.x) (fun _ => False) w w7 nsf := by
  have named : ∀ c ∈ cs, namedB ops c.x.id = true := fun c hc => by
    have : c.x ∈ cs.map Node.x := List.mem_map_of_mem hc
    rw [h.cis] at this
    exact (List.mem_filter.1 this).2
  have hm2 : ∀ n : Node, n ∈ nsf ↔ (n ∈ nsi ∧ namedB ops n.x.id = false) ∨ n ∈ cs := fun n => by
    rw [hm, hd.mem]
    constructor
    · rintro (⟨h1, _⟩ | h1)
      · exact .inl h1
      · exact .inr h1
    · rintro (h1 | h1)
      · exact .inl ⟨h1, fun c hc e => by have := named c hc; rw [e, h1.2] at this; cases this⟩
      · exact .inr h1
  have mt : Mod (FootM bm ns0) w w7 := ((h.tu.mod.trans (m5.mono (fun _ _ f => f.elim))).trans (hd.mod.mono (fun b _ e => .inl e))).trans (m7.mono (fun b _ e => .inl e))
  refine ⟨hf, laid_back hp.nm.rising hf.nm.rising (fun n hn => h.tu.same n ?_) h.cis hm2, mt, fun b hb => ?_, fun b hb => ?_, fun n f => f.elim⟩
  · unfold namedB at hn ⊢
    rw [List.any_eq_false] at hn ⊢
    exact fun o ho => hn o (List.mem_of_mem_take ho)
  · rcases hb with hb | ⟨n, hn, hb⟩
    · exact .inl (.inl hb)
    · rcases (hm2 n).1 hn with ⟨h1, _⟩ | h1
      · exact h.tu.new b (.inr ⟨n, h1, hb⟩)
      · exact .inr (h.coff b (.inr ⟨n, h1, hb⟩)).1
  · rcases hb with hb | ⟨n, hn, hb⟩
    · exact .inl (.inl hb)
    · rcases (hm2 n).1 hn with ⟨h1, _⟩ | h1
      · exact h.tu.newM b (.inr ⟨n, h1, hb⟩)
      · exact .inr (h.coff b (.inr ⟨n, h1, by rcases hb with e | e <;> simp [Node.blocks, e]⟩)).1
end Go.Proofs.YtbgjbikpenefoaaGreatDoor

/- YA: what is needed of it (by shake.py). -/

/- YA, as far as the seat goes. -/
/- graph.run: no such vertex; a vertex that comes. (Printed by gen_run.py.) -/
namespace Go.Proofs.YtbgjbikpenefoaaGreatDoor
set_option linter.unusedVariables false
set_option linter.unusedSimpArgs false
open Go.RowKit Go.Maps
set_option maxRecDepth 100000 in
set_option maxHeartbeats 4000000 in
theorem run_none (g bm : Nat) (ns : List Node) (kind a b key vk : Nat) (vn : Int) (vs : ByteArray) (pos : Int) (w : World) (hp : PG w g bm ns) (hL : Good (ns.map Node.x)) (ho : Opr.Fits ⟨kind, a, b, key, ⟨vk, vn, vs⟩⟩) (hk : kind ≠ 1) (hf : findN ns a = none) :
    Calls Tryz.prog 53 #[.pointer (some ⟨g, 0, none⟩), .int .i64 pos, .agg #[.int .u8 (kind : Int), .int .u32 (a : Int), .int .u32 (b : Int), .int .u8 (key : Int), .int .u8 (vk : Int), .int .i64 vn, .string vs]] w (RunP g bm ns ⟨kind, a, b, key, ⟨vk, vn, vs⟩⟩ pos w) := by
  have HONE : Hid (oneG (ns.map Node.x) ⟨kind, a, b, key, ⟨vk, vn, vs⟩⟩ = ⟨6, ns.map Node.x, []⟩) := Lib.hid (by unfold oneG; rw [if_neg hk, findN_map, hf]; rfl)
  have HP := Lib.hid hp
  have HL := Lib.hid hL
  have HO := Lib.hid ho
  have g0 := cell_of_row hp.cell 0
  have zg := lt_of_block hp.cell
  have zg1 : g < w.heap.size + 1 := by omega
  have zg2 : g < w.heap.size + 1 + 1 := by omega
  have zg3 : g < w.heap.size + 1 + 1 + 1 := by omega
  simp at g0
  have m1 : Mod (fun _ => False) w (w.alloc (.cells #[.int .u8 (kind : Int), .int .u32 (a : Int), .int .u32 (b : Int), .int .u8 (key : Int), .int .u8 (vk : Int), .int .i64 vn, .string vs] 71)).drew := ((Mod.refl _ _).alloc _).drew
  have HM1 := Lib.hid m1
  have la := hp.nm.look m1 ho.a
  have lb := hp.nm.look m1 ho.b
  have k1 : ((kind : Int) == 1) = false := by simp; omega
  rw [hf] at la
  simp only [ptrN] at la
  generalize ptrN (findN ns b) = pb at lb
  clear hp hL ho hk hf m1
  go_enter Tryz.func53, Tryz.ntmps53
  go_wp2_with fail
  go_region
  go_wp2_with (go_at_call 74; refine (refusal_any 6 pos _ _ (by rfl)).mono ?_; (rintro e w9 ⟨rfl, rfl⟩))
  go_ret2
  exact RunP.no HONE.out (by omega) (RunNO.made HM1.out (by simp))
set_option maxRecDepth 100000 in
set_option maxHeartbeats 4000000 in
theorem run_1a (g bm : Nat) (ns : List Node) (a b key vk : Nat) (vn : Int) (vs : ByteArray) (pos : Int) (w : World) (hp : PG w g bm ns) (hL : Good (ns.map Node.x)) (ho : Opr.Fits ⟨1, a, b, key, ⟨vk, vn, vs⟩⟩) (n : Node) (hf : findN ns a = some n) :
    Calls Tryz.prog 53 #[.pointer (some ⟨g, 0, none⟩), .int .i64 pos, .agg #[.int .u8 1, .int .u32 (a : Int), .int .u32 (b : Int), .int .u8 (key : Int), .int .u8 (vk : Int), .int .i64 vn, .string vs]] w (RunP g bm ns ⟨1, a, b, key, ⟨vk, vn, vs⟩⟩ pos w) := by
  have HONE : Hid (oneG (ns.map Node.x) ⟨1, a, b, key, ⟨vk, vn, vs⟩⟩ = ⟨7, ns.map Node.x, []⟩) := Lib.hid (by unfold oneG; rw [if_pos rfl, findN_map, hf]; rfl)
  have HP := Lib.hid hp
  have HL := Lib.hid hL
  have HO := Lib.hid ho
  have g0 := cell_of_row hp.cell 0
  have zg := lt_of_block hp.cell
  have zg1 : g < w.heap.size + 1 := by omega
  have zg2 : g < w.heap.size + 1 + 1 := by omega
  have zg3 : g < w.heap.size + 1 + 1 + 1 := by omega
  simp at g0
  have m1 : Mod (fun _ => False) w (w.alloc (.cells #[.int .u8 1, .int .u32 (a : Int), .int .u32 (b : Int), .int .u8 (key : Int), .int .u8 (vk : Int), .int .i64 vn, .string vs] 71)).drew := ((Mod.refl _ _).alloc _).drew
  have HM1 := Lib.hid m1
  have la := hp.nm.look m1 ho.a
  have lb := hp.nm.look m1 ho.b
  rw [hf] at la
  simp only [ptrN] at la
  generalize ptrN (findN ns b) = pb at lb
  clear hp hL ho hf m1
  go_enter Tryz.func53, Tryz.ntmps53
  go_wp2_with fail
  go_region
  go_wp2_with (go_at_call 74; refine (refusal_any 7 pos _ _ (by rfl)).mono ?_; (rintro e w9 ⟨rfl, rfl⟩))
  go_ret2
  exact RunP.no HONE.out (by omega) (RunNO.made HM1.out (by simp))
set_option maxRecDepth 100000 in
set_option maxHeartbeats 4000000 in
theorem run_1b (g bm : Nat) (ns : List Node) (a b key vk : Nat) (vn : Int) (vs : ByteArray) (pos : Int) (w : World) (hp : PG w g bm ns) (hL : Good (ns.map Node.x)) (ho : Opr.Fits ⟨1, a, b, key, ⟨vk, vn, vs⟩⟩) (hf : findN ns a = none) :
    Calls Tryz.prog 53 #[.pointer (some ⟨g, 0, none⟩), .int .i64 pos, .agg #[.int .u8 1, .int .u32 (a : Int), .int .u32 (b : Int), .int .u8 (key : Int), .int .u8 (vk : Int), .int .i64 vn, .string vs]] w (RunP g bm ns ⟨1, a, b, key, ⟨vk, vn, vs⟩⟩ pos w) := by
  have HONE : Hid (oneG (ns.map Node.x) ⟨1, a, b, key, ⟨vk, vn, vs⟩⟩ = ⟨0, layV ⟨a, true, [], []⟩ (ns.map Node.x), []⟩) := Lib.hid (by unfold oneG; rw [if_pos rfl, findN_map, hf]; rfl)
  have HP := Lib.hid hp
  have HL := Lib.hid hL
  have HO := Lib.hid ho
  have g0 := cell_of_row hp.cell 0
  have zg := lt_of_block hp.cell
  have zg1 : g < w.heap.size + 1 := by omega
  have zg2 : g < w.heap.size + 1 + 1 := by omega
  have zg3 : g < w.heap.size + 1 + 1 + 1 := by omega
  simp at g0
  have m1 : Mod (fun _ => False) w (w.alloc (.cells #[.int .u8 1, .int .u32 (a : Int), .int .u32 (b : Int), .int .u8 (key : Int), .int .u8 (vk : Int), .int .i64 vn, .string vs] 71)).drew := ((Mod.refl _ _).alloc _).drew
  have HM1 := Lib.hid m1
  have la := hp.nm.look m1 ho.a
  have lb := hp.nm.look m1 ho.b
  rw [hf] at la
  simp only [ptrN] at la
  generalize ptrN (findN ns b) = pb at lb
  have hlen : (ns.map Node.f).length < maxLen := by
    have := hL.short
    rw [List.length_map] at this ⊢
    unfold maxLen; omega
  have hbm := hp.lt bm (.inr (.inl rfl))
  have m40 : Mod (fun _ => False) w (((((w.alloc (.cells #[.int .u8 1, .int .u32 (a : Int), .int .u32 (b : Int), .int .u8 (key : Int), .int .u8 (vk : Int), .int .i64 vn, .string vs] 71)).alloc (.map #[] 0)).alloc (.map #[] 0)).alloc (.cells #[.map (some (w.heap.size + 1)), .map (some (w.heap.size + 1 + 1))] 93)).drew.drew) := (((((Mod.refl _ w).alloc _).alloc _).alloc _).alloc _).drew.drew
  have hb10 : (((((w.alloc (.cells #[.int .u8 1, .int .u32 (a : Int), .int .u32 (b : Int), .int .u8 (key : Int), .int .u8 (vk : Int), .int .i64 vn, .string vs] 71)).alloc (.map #[] 0)).alloc (.map #[] 0)).alloc (.cells #[.map (some (w.heap.size + 1)), .map (some (w.heap.size + 1 + 1))] 93)).drew.drew).heap[(w.heap.size + 1)]? = some (.map #[] 0) := heap_alloc_old (heap_alloc_old (by have h := heap_alloc_new' (w.alloc (.cells #[.int .u8 1, .int .u32 (a : Int), .int .u32 (b : Int), .int .u8 (key : Int), .int .u8 (vk : Int), .int .i64 vn, .string vs] 71)) (.map #[] 0); simpa using h))
  have hb20 : (((((w.alloc (.cells #[.int .u8 1, .int .u32 (a : Int), .int .u32 (b : Int), .int .u8 (key : Int), .int .u8 (vk : Int), .int .i64 vn, .string vs] 71)).alloc (.map #[] 0)).alloc (.map #[] 0)).alloc (.cells #[.map (some (w.heap.size + 1)), .map (some (w.heap.size + 1 + 1))] 93)).drew.drew).heap[(w.heap.size + 1 + 1)]? = some (.map #[] 0) := heap_alloc_old (by have h := heap_alloc_new' ((w.alloc (.cells #[.int .u8 1, .int .u32 (a : Int), .int .u32 (b : Int), .int .u8 (key : Int), .int .u8 (vk : Int), .int .i64 vn, .string vs] 71)).alloc (.map #[] 0)) (.map #[] 0); simpa using h)
  have hb30 : (((((w.alloc (.cells #[.int .u8 1, .int .u32 (a : Int), .int .u32 (b : Int), .int .u8 (key : Int), .int .u8 (vk : Int), .int .i64 vn, .string vs] 71)).alloc (.map #[] 0)).alloc (.map #[] 0)).alloc (.cells #[.map (some (w.heap.size + 1)), .map (some (w.heap.size + 1 + 1))] 93)).drew.drew).heap[(w.heap.size + 1 + 1 + 1)]? = some (.cells #[.map (some (w.heap.size + 1)), .map (some (w.heap.size + 1 + 1))] 93 (0, 0)) := by have h := heap_alloc_new' (((w.alloc (.cells #[.int .u8 1, .int .u32 (a : Int), .int .u32 (b : Int), .int .u8 (key : Int), .int .u8 (vk : Int), .int .i64 vn, .string vs] 71)).alloc (.map #[] 0)).alloc (.map #[] 0)) (.cells #[.map (some (w.heap.size + 1)), .map (some (w.heap.size + 1 + 1))] 93); rw [show (((w.alloc (.cells #[.int .u8 1, .int .u32 (a : Int), .int .u32 (b : Int), .int .u8 (key : Int), .int .u8 (vk : Int), .int .i64 vn, .string vs] 71)).alloc (.map #[] 0)).alloc (.map #[] 0)).heap.size = (w.heap.size + 1 + 1 + 1) by simp] at h; exact h
  have hn0 := NAt.made (id := a) ho.a hb30 hb10 hb20
  obtain ⟨w50, hrun0, hU0, hM0⟩ := (hp.nm.map.keep m40).store Tryz.underlying23 Tryz.underlying79 hlen (u32key ho.a) (.pointer (some ⟨(w.heap.size + 1 + 1 + 1), 0, none⟩))
  have HT0 : Hid (Turned g bm ns (layV ⟨a, true, [], []⟩ (ns.map Node.x)) (fun k => k ≠ a) w w50 (layG keyN ⟨⟨a, true, [], []⟩, (w.heap.size + 1 + 1 + 1), (w.heap.size + 1), (w.heap.size + 1 + 1)⟩ false ns)) := Lib.hid (by
    refine Turned.add hp (n := ⟨⟨a, true, [], []⟩, (w.heap.size + 1 + 1 + 1), (w.heap.size + 1), (w.heap.size + 1 + 1)⟩) rfl m40 hM0 hU0 (hn0.mod hM0 (fun x hx e => ?_)) (fun x hx => ?_) ⟨by dsimp only; omega, by dsimp only; omega, by dsimp only; omega⟩
    · simp [Node.blocks] at hx; omega
    · simp [Node.blocks] at hx; omega)
  have g40 := m40.cell g0
  have m41 : Mod (fun _ => False) w (((((w.alloc (.cells #[.int .u8 1, .int .u32 (a : Int), .int .u32 (b : Int), .int .u8 (key : Int), .int .u8 (vk : Int), .int .i64 vn, .string vs] 71)).alloc (.map #[] 0)).alloc (.map #[] 0)).alloc (.cells #[.map (some (w.heap.size + 1 + 1)), .map (some (w.heap.size + 1))] 93)).drew.drew) := (((((Mod.refl _ w).alloc _).alloc _).alloc _).alloc _).drew.drew
  have hb11 : (((((w.alloc (.cells #[.int .u8 1, .int .u32 (a : Int), .int .u32 (b : Int), .int .u8 (key : Int), .int .u8 (vk : Int), .int .i64 vn, .string vs] 71)).alloc (.map #[] 0)).alloc (.map #[] 0)).alloc (.cells #[.map (some (w.heap.size + 1 + 1)), .map (some (w.heap.size + 1))] 93)).drew.drew).heap[(w.heap.size + 1)]? = some (.map #[] 0) := heap_alloc_old (heap_alloc_old (by have h := heap_alloc_new' (w.alloc (.cells #[.int .u8 1, .int .u32 (a : Int), .int .u32 (b : Int), .int .u8 (key : Int), .int .u8 (vk : Int), .int .i64 vn, .string vs] 71)) (.map #[] 0); simpa using h))
  have hb21 : (((((w.alloc (.cells #[.int .u8 1, .int .u32 (a : Int), .int .u32 (b : Int), .int .u8 (key : Int), .int .u8 (vk : Int), .int .i64 vn, .string vs] 71)).alloc (.map #[] 0)).alloc (.map #[] 0)).alloc (.cells #[.map (some (w.heap.size + 1 + 1)), .map (some (w.heap.size + 1))] 93)).drew.drew).heap[(w.heap.size + 1 + 1)]? = some (.map #[] 0) := heap_alloc_old (by have h := heap_alloc_new' ((w.alloc (.cells #[.int .u8 1, .int .u32 (a : Int), .int .u32 (b : Int), .int .u8 (key : Int), .int .u8 (vk : Int), .int .i64 vn, .string vs] 71)).alloc (.map #[] 0)) (.map #[] 0); simpa using h)
  have hb31 : (((((w.alloc (.cells #[.int .u8 1, .int .u32 (a : Int), .int .u32 (b : Int), .int .u8 (key : Int), .int .u8 (vk : Int), .int .i64 vn, .string vs] 71)).alloc (.map #[] 0)).alloc (.map #[] 0)).alloc (.cells #[.map (some (w.heap.size + 1 + 1)), .map (some (w.heap.size + 1))] 93)).drew.drew).heap[(w.heap.size + 1 + 1 + 1)]? = some (.cells #[.map (some (w.heap.size + 1 + 1)), .map (some (w.heap.size + 1))] 93 (0, 0)) := by have h := heap_alloc_new' (((w.alloc (.cells #[.int .u8 1, .int .u32 (a : Int), .int .u32 (b : Int), .int .u8 (key : Int), .int .u8 (vk : Int), .int .i64 vn, .string vs] 71)).alloc (.map #[] 0)).alloc (.map #[] 0)) (.cells #[.map (some (w.heap.size + 1 + 1)), .map (some (w.heap.size + 1))] 93); rw [show (((w.alloc (.cells #[.int .u8 1, .int .u32 (a : Int), .int .u32 (b : Int), .int .u8 (key : Int), .int .u8 (vk : Int), .int .i64 vn, .string vs] 71)).alloc (.map #[] 0)).alloc (.map #[] 0)).heap.size = (w.heap.size + 1 + 1 + 1) by simp] at h; exact h
  have hn1 := NAt.made (id := a) ho.a hb31 hb21 hb11
  obtain ⟨w51, hrun1, hU1, hM1⟩ := (hp.nm.map.keep m41).store Tryz.underlying23 Tryz.underlying79 hlen (u32key ho.a) (.pointer (some ⟨(w.heap.size + 1 + 1 + 1), 0, none⟩))
  have HT1 : Hid (Turned g bm ns (layV ⟨a, true, [], []⟩ (ns.map Node.x)) (fun k => k ≠ a) w w51 (layG keyN ⟨⟨a, true, [], []⟩, (w.heap.size + 1 + 1 + 1), (w.heap.size + 1 + 1), (w.heap.size + 1)⟩ false ns)) := Lib.hid (by
    refine Turned.add hp (n := ⟨⟨a, true, [], []⟩, (w.heap.size + 1 + 1 + 1), (w.heap.size + 1 + 1), (w.heap.size + 1)⟩) rfl m41 hM1 hU1 (hn1.mod hM1 (fun x hx e => ?_)) (fun x hx => ?_) ⟨by dsimp only; omega, by dsimp only; omega, by dsimp only; omega⟩
    · simp [Node.blocks] at hx; omega
    · simp [Node.blocks] at hx; omega)
  have g41 := m41.cell g0
  clear hp hL ho hf m1 hU0 hM0 hn0 m40 hU1 hM1 hn1 m41 hb10 hb20 hb30 hb11 hb21 hb31 hlen
  have hmm := @run_makeMap Tryz.prog
  go_enter Tryz.func53, Tryz.ntmps53
  go_wp2_with fail
  go_region
  go_wp2_with fail
  go_region
  all_goals
    go_wp2_with fail
    go_ret2
    first
      | exact RunP.ok HONE.out ⟨_, _, rfl, ⟨HT0.out.pg, HT0.out.is, HT0.out.mod, HT0.out.new, HT0.out.newM, fun n hn => HT0.out.same n hn.1⟩, RdS.none _ _⟩
      | exact RunP.ok HONE.out ⟨_, _, rfl, ⟨HT1.out.pg, HT1.out.is, HT1.out.mod, HT1.out.new, HT1.out.newM, fun n hn => HT1.out.same n hn.1⟩, RdS.none _ _⟩
end Go.Proofs.YtbgjbikpenefoaaGreatDoor
