/- Lemmas for the claim, in one text: Y2, Z2, Y4, Y5. -/
import Derived.Test.YtbgjbikpenefoaaGreatDoorR14
import Derived.Test.YtbgjbikpenefoaaGreatDoorY1
import Derived.Test.YtbgjbikpenefoaaGreatDoorM01
import Derived.WalkKit
import Derived.LaidEql
import Derived.Stop.Asserts
import Derived.RowKitTokens

/- Y2: what is needed of it (by shake.py). -/

/- Y2, as far as the seat goes. -/
/- graph.hops in plain Lean: ring by ring. -/
namespace Go.Proofs.YtbgjbikpenefoaaGreatDoor
set_option linter.unusedVariables false
set_option linter.unusedSimpArgs false
/-- A half leads from y to x. -/
def edgeG (L : Gr) (y x : Nat) : Prop := ∃ z ∈ L, z.id = y ∧ ∃ h ∈ z.halves, h.key = x
theorem near_succ {L : Gr} {v d x : Nat} : nearG L v (d + 1) x = true ↔ nearG L v d x = true ∨ ∃ y, nearG L v d y = true ∧ edgeG L y x := by
  show (nearG L v d x || L.any fun y => nearG L v d y.id && (y.halves.any fun h => h.key == x)) = true ↔ _
  rw [Bool.or_eq_true, List.any_eq_true]
  constructor
  · rintro (h | ⟨z, hz, h⟩)
    · exact .inl h
    · rw [Bool.and_eq_true, List.any_eq_true] at h
      obtain ⟨h1, e, he, h2⟩ := h
      exact .inr ⟨z.id, h1, z, hz, rfl, e, he, by simpa using h2⟩
  · rintro (h | ⟨y, h1, z, hz, rfl, e, he, h2⟩)
    · exact .inl h
    · refine .inr ⟨z, hz, ?_⟩
      rw [Bool.and_eq_true, List.any_eq_true]
      exact ⟨h1, e, he, by simpa using h2⟩
theorem near_zero {L : Gr} {v x : Nat} : nearG L v 0 x = true ↔ x = v := by
  show (x == v) = true ↔ _
  simp
theorem near_in {L : Gr} (h : Good L) {v : Nat} (hv : ∃ y ∈ L, y.id = v) : ∀ d x, nearG L v d x = true → ∃ y ∈ L, y.id = x
  | 0, x, hx => by rw [near_zero] at hx; subst hx; exact hv
  | d + 1, x, hx => by
    rcases near_succ.1 hx with hx | ⟨y, _, z, hz, _, e, he, rfl⟩
    · exact near_in h hv d x hx
    · obtain ⟨u, hu, e1, _⟩ := h.pair z hz e he
      exact ⟨u, hu, e1⟩
/-- Ring d: who is seen, and whose edges are still to be gone along. -/
structure Ring (L : Gr) (v d : Nat) (S : Nat → Prop) (ring : List Nat) : Prop where
  seen : ∀ x, S x ↔ nearG L v d x = true
  out : ∀ y x, nearG L v d y = true → y ∉ ring → edgeG L y x → nearG L v d x = true
  near : ∀ y ∈ ring, nearG L v d y = true
theorem Ring.start (L : Gr) (v : Nat) {S : Nat → Prop} (hS : ∀ x, S x ↔ x = v) : Ring L v 0 S [v] :=
  ⟨fun x => by rw [hS, near_zero], fun y x hy hn _ => absurd (near_zero.1 hy) (fun e => hn (by simp [e])), fun y hy => by rw [List.mem_singleton] at hy; exact near_zero.2 hy⟩
theorem Ring.next {L : Gr} {v d : Nat} {S S' : Nat → Prop} {ring next : List Nat} (h : Ring L v d S ring) (hS : ∀ x, S' x ↔ S x ∨ ∃ y ∈ ring, edgeG L y x) (hn : ∀ x, x ∈ next ↔ S' x ∧ ¬ S x) : Ring L v (d + 1) S' next := by
  have hs : ∀ x, S' x ↔ nearG L v (d + 1) x = true := fun x => by
    rw [hS, near_succ]
    constructor
    · rintro (hx | ⟨y, hy, e⟩)
      · exact .inl ((h.seen x).1 hx)
      · exact .inr ⟨y, h.near y hy, e⟩
    · rintro (hx | ⟨y, hy, e⟩)
      · exact .inl ((h.seen x).2 hx)
      · by_cases hr : y ∈ ring
        · exact .inr ⟨y, hr, e⟩
        · exact .inl ((h.seen x).2 (h.out y x hy hr e))
  refine ⟨hs, fun y x hy hny e => ?_, fun y hy => (hs y).1 ((hn y).1 hy).1⟩
  have h1 := (hs y).2 hy
  have h2 : S y := Classical.byContradiction fun c => hny ((hn y).2 ⟨h1, c⟩)
  exact near_succ.2 (.inr ⟨y, (h.seen y).1 h2, e⟩)
theorem mem_withinG {L : Gr} {v k x : Nat} : x ∈ withinG L v k ↔ nearG L v k x = true ∧ ∃ y ∈ L, y.id = x := by
  unfold withinG
  rw [List.mem_map]
  constructor
  · rintro ⟨y, hy, rfl⟩
    rw [List.mem_filter] at hy
    exact ⟨hy.2, y, hy.1, rfl⟩
  · rintro ⟨h, y, hy, rfl⟩
    exact ⟨y, List.mem_filter.2 ⟨hy, h⟩, rfl⟩
theorem withinG_rising {L : Gr} (h : Rising Vtx.id L) (v k : Nat) : (withinG L v k).Pairwise (· < ·) := by
  unfold withinG
  rw [List.pairwise_map]
  exact List.Pairwise.filter _ h
theorem rising_ext9 : ∀ {a b : List Nat}, a.Pairwise (· < ·) → b.Pairwise (· < ·) → (∀ p, p ∈ a ↔ p ∈ b) → a = b
  | [], [], _, _, _ => rfl
  | [], y :: r, _, _, h => absurd ((h y).2 (by simp)) (by simp)
  | x :: r, [], _, _, h => absurd ((h x).1 (by simp)) (by simp)
  | x :: r, y :: t, ha, hb, h => by
    obtain ⟨hx, hr⟩ := List.pairwise_cons.1 ha
    obtain ⟨hy, ht⟩ := List.pairwise_cons.1 hb
    have e : x = y := by
      rcases List.mem_cons.1 ((h x).1 (by simp)) with e | e
      · exact e
      · rcases List.mem_cons.1 ((h y).2 (by simp)) with e2 | e2
        · exact e2.symm
        · have := hx y e2; have := hy x e; omega
    subst e
    rw [rising_ext9 hr ht (fun p => ?_)]
    constructor
    · intro hp
      rcases List.mem_cons.1 ((h p).1 (by simp [hp])) with e | e
      · have := hx p hp; omega
      · exact e
    · intro hp
      rcases List.mem_cons.1 ((h p).2 (by simp [hp])) with e | e
      · have := hy p hp; omega
      · exact e
/-- The last ring: all that is within. -/
theorem Ring.all {L : Gr} (hL : Good L) {v : Nat} (hv : ∃ y ∈ L, y.id = v) {k : Nat} {S : Nat → Prop} {ring : List Nat} (h : Ring L v k S ring) {ks : List Nat} (hr : ks.Pairwise (· < ·)) (hk : ∀ x, x ∈ ks ↔ S x) : ks = withinG L v k :=
  rising_ext9 hr (withinG_rising hL.rise v k) fun x => by
    rw [hk, h.seen, mem_withinG]
    exact ⟨fun e => ⟨e, near_in hL hv k x e⟩, fun e => e.1⟩
end Go.Proofs.YtbgjbikpenefoaaGreatDoor

/- Z2: what is needed of it (by shake.py). -/

/- Z2, as far as the seat goes. -/
/- What comes and goes leaves the graph as it was; a transaction of one operation: in plain Lean. -/
namespace Go.Proofs.YtbgjbikpenefoaaGreatDoor
set_option linter.unusedVariables false
set_option linter.unusedSimpArgs false
section
variable {α : Type} {key : α → Nat}
theorem rising_extG : ∀ {a b : List α}, Rising key a → Rising key b → (∀ p, p ∈ a ↔ p ∈ b) → a = b
  | [], [], _, _, _ => rfl
  | [], y :: r, _, _, h => absurd ((h y).2 (by simp)) (by simp)
  | x :: r, [], _, _, h => absurd ((h x).1 (by simp)) (by simp)
  | x :: r, y :: t, ha, hb, h => by
    obtain ⟨hx, hr⟩ := List.pairwise_cons.1 ha
    obtain ⟨hy, ht⟩ := List.pairwise_cons.1 hb
    have e : x = y := by
      rcases List.mem_cons.1 ((h x).1 (by simp)) with e | e
      · exact e
      · rcases List.mem_cons.1 ((h y).2 (by simp)) with e2 | e2
        · exact e2.symm
        · have := hx y e2; have := hy x e; omega
    subst e
    rw [rising_extG hr ht (fun p => ?_)]
    constructor
    · intro hp
      rcases List.mem_cons.1 ((h p).1 (by simp [hp])) with e | e
      · subst e; have := hx p hp; omega
      · exact e
    · intro hp
      rcases List.mem_cons.1 ((h p).2 (by simp [hp])) with e | e
      · subst e; have := hy p hp; omega
      · exact e
end
theorem findV_iff {L : Gr} (hr : Rising Vtx.id L) {v : Nat} {x : Vtx} : findV L v = some x ↔ x ∈ L ∧ x.id = v := by
  constructor
  · exact findV_mem
  · rintro ⟨hx, rfl⟩
    cases h : findV L x.id with
    | none => exact absurd rfl (findV_none.1 h x hx)
    | some y =>
      obtain ⟨h1, h2⟩ := findV_mem h
      rw [hr.uniq h1 hx h2]
/-! a transaction of one operation -/
end Go.Proofs.YtbgjbikpenefoaaGreatDoor

/- Y4: what is needed of it (by shake.py). -/

/- Y4, as far as the seat goes. -/
/- graph.transact in plain Lean: who is named; copies; laid back. -/
namespace Go.Proofs.YtbgjbikpenefoaaGreatDoor
set_option linter.unusedVariables false
set_option linter.unusedSimpArgs false
open Go.RowKit Go.Maps
def namedB (ops : List Opr) (k : Nat) : Bool := ops.any fun o => o.a == k || o.b == k
/-- Who is named by the first operations, and by the first of two numbers. -/
def namedTo (ops : List Opr) (ids : List Nat) (j k : Nat) : Bool := namedB ops k || (ids.take j).any fun i => i == k
theorem namedTo_zero (ops : List Opr) (ids : List Nat) : namedTo ops ids 0 = namedB ops := by
  funext k; simp [namedTo]
theorem namedTo_succ {ops : List Opr} {ids : List Nat} {j i : Nat} (h : ids[j]? = some i) (k : Nat) : namedTo ops ids (j + 1) k = (namedTo ops ids j k || i == k) := by
  obtain ⟨h1, h2⟩ := List.getElem?_eq_some_iff.1 h
  unfold namedTo
  rw [List.take_succ_eq_append_getElem h1, h2, List.any_append]
  simp [Bool.or_assoc]
theorem namedB_next {ops : List Opr} {i : Nat} {o : Opr} (h : ops[i]? = some o) : namedB (ops.take (i + 1)) = namedTo (ops.take i) [o.a, o.b] 2 := by
  obtain ⟨h1, h2⟩ := List.getElem?_eq_some_iff.1 h
  funext k
  unfold namedB namedTo
  rw [List.take_succ_eq_append_getElem h1, h2, List.any_append]
  simp [namedB]
theorem namedB_nil : namedB [] = fun _ => false := rfl
theorem filter_more {L : Gr} (hr : Rising Vtx.id L) {x : Vtx} (hx : x ∈ L) (p : Nat → Bool) : layG Vtx.id x false (L.filter fun y => p y.id) = L.filter fun y => p y.id || x.id == y.id := by
  have hf : Rising Vtx.id (L.filter fun y => p y.id) := List.Pairwise.filter _ hr
  refine rising_extG (Rising.lay hf) (List.Pairwise.filter _ hr) fun y => ?_
  rw [layG_mem hf, List.mem_filter, List.mem_filter, Bool.or_eq_true, beq_iff_eq]
  constructor
  · rintro (⟨⟨h1, h2⟩, _⟩ | ⟨_, rfl⟩)
    · exact ⟨h1, .inl h2⟩
    · exact ⟨hx, .inr rfl⟩
  · rintro ⟨h1, h2⟩
    by_cases e : y.id = x.id
    · exact .inr ⟨rfl, hr.uniq h1 hx e⟩
    · exact .inl ⟨⟨h1, h2.resolve_right (fun c => e c.symm)⟩, e⟩
theorem filter_none {L : Gr} {v : Nat} (hv : findV L v = none) (p : Nat → Bool) : (L.filter fun y => p y.id || v == y.id) = L.filter fun y => p y.id := by
  apply List.filter_congr
  intro y hy
  have := findV_none.1 hv y hy
  have e : (v == y.id) = false := by simp; omega
  rw [e, Bool.or_false]
/-- Who was named is laid back as he was. -/
theorem laid_back {ops : List Opr} {ns0 nsi nsf cs : List Node} (h0 : Rising keyN ns0) (hf : Rising keyN nsf) (hs : ∀ n : Node, namedB ops n.x.id = false → (n ∈ nsi ↔ n ∈ ns0)) (hc : cs.map Node.x = (ns0.map Node.x).filter fun y => namedB ops y.id)
    (hm : ∀ n : Node, n ∈ nsf ↔ (n ∈ nsi ∧ namedB ops n.x.id = false) ∨ n ∈ cs) : nsf.map Node.x = ns0.map Node.x := by
  refine rising_extG (key := Vtx.id) (rising_map hf) (rising_map h0) fun p => ?_
  rw [List.mem_map, List.mem_map]
  constructor
  · rintro ⟨n, hn, rfl⟩
    rcases (hm n).1 hn with ⟨h1, h2⟩ | h
    · exact ⟨n, (hs n h2).1 h1, rfl⟩
    · have : n.x ∈ cs.map Node.x := List.mem_map_of_mem h
      rw [hc] at this
      obtain ⟨m, h1, h2⟩ := List.mem_map.1 (List.mem_filter.1 this).1
      exact ⟨m, h1, h2⟩
  · rintro ⟨n, hn, rfl⟩
    cases hb : namedB ops n.x.id with
    | true =>
      have : n.x ∈ cs.map Node.x := by
        rw [hc, List.mem_filter]
        exact ⟨List.mem_map_of_mem hn, hb⟩
      obtain ⟨c, h1, h2⟩ := List.mem_map.1 this
      exact ⟨c, (hm c).2 (.inr h1), h2⟩
    | false => exact ⟨n, (hm n).2 (.inl ⟨(hs n hb).2 hn, hb⟩), rfl⟩
end Go.Proofs.YtbgjbikpenefoaaGreatDoor

/- Y5: what is needed of it (by shake.py). -/

/- Y5, as far as the seat goes. -/
/- fault: an error with its place; errors.As at its two targets; its code, its links. (Printed by gen_fault.py; the facts on reflectlite after the kit's worked example of errors.As.) -/
namespace Go.Proofs.YtbgjbikpenefoaaGreatDoor
set_option linter.unusedVariables false
set_option linter.unusedSimpArgs false
open Go.RowKit Go.Extern.Stop Go.Stop Go.Extern
/-- An error as it is handed on. -/
def chainV (c : Nat) : Value := .iface 140 (.pointer (some ⟨c, 0, none⟩))
def chainO (code pos : Int) (v : Nat) : Obj := .cells #[.int .i64 pos, .int .u32 (v : Int), .iface 30 (.int .i64 code)] 142
/-- What the library's variable holds. -/
def ErrT (w : World) : Prop := w.cell? ⟨0, 0, none⟩ = some (.iface 186 (.agg #[.pointer (some ⟨1, 112, none⟩)]))
theorem ErrT.keep {S : Nat → Prop} {w w' : World} (h : ErrT w) (m : Mod S w w') (hs : ¬ S 0) : ErrT w' :=
  (World.cell?_of_block (w := w) (m.block 0 (World.block_lt_of_cell? _ _ h) hs)).trans h
theorem newE_any (code pos : Int) (v : Nat) (w : World) (h : (code == 0) = false) : Calls Tryz.prog 88 #[.int .i64 code, .int .i64 pos, .int .u32 (v : Int)] w fun e w' => e = .returned (chainV w.heap.size) ∧ w' = w.alloc (chainO code pos v) := by
  unfold chainV chainO
  go_enter Tryz.func88, Tryz.ntmps88
  go_wp2
  go_ret
  exact ⟨rfl, rfl⟩
theorem refusal_any (code pos : Int) (v : Nat) (w : World) (h : (code == 0) = false) : Calls Tryz.prog 74 #[.int .i64 code, .int .i64 pos, .int .u32 (v : Int)] w fun e w' => e = .returned (chainV w.heap.size) ∧ w' = w.alloc (chainO code pos v) := by
  have HN := Lib.hid (newE_any code pos v w h)
  clear h
  unfold chainV chainO at *
  go_enter Tryz.func74, Tryz.ntmps74
  go_wp2_with (go_at_call 88; refine HN.out.mono ?_; (rintro e w' ⟨rfl, rfl⟩))
  go_ret
  exact ⟨rfl, rfl⟩
theorem rlm (z : Sem Value) (f : TypeId → Addr → Nat → Nat → Sem Value) (v : Value) :
    ReflectliteValue.method z f #[v] = (do match ← ReflectliteValue.parts v with | none => z | some (t, a, fl) => f t a fl (fl % 32)) := rfl
theorem rls (v x : Value) : ReflectliteValue.set #[v, x] = (do
    let (some (dst, a, fl), some (src, b, _)) := (← ReflectliteValue.parts v, ← ReflectliteValue.parts x)
      | unsupported (.noEntry "extern/(internal/reflectlite.Value).Set.zeroValue")
    if fl / ReflectliteValue.flagAddr % 2 == 0 then unsupported (.noEntry "extern/(internal/reflectlite.Value).Set.unaddressable")
    let val ← loadVar src b
    if ← Rtype.directlyAssignable dst src then storeVar dst a val
    else if ← Rtype.implements dst src then
      if (← Rtype.kind src) == 20 then
        match val with
        | .nilIface => unsupported (.noEntry "extern/reflectlite: a nil value of one interface type handed on as a value of another")
        | _ => storeVar dst a val
      else storeVar dst a (.iface src val)
    else panicString ("reflectlite.Set: value of type " ++ (← Rtype.spelt src) ++ " is not assignable to type " ++ (← Rtype.spelt dst))
    pure (.tuple #[])) := rfl
/-! target 137 -/
theorem vPE (t : Addr) (w : World) : (ReflectliteValue.unpack (.iface 137 (.pointer (some t)))).run Tryz.prog w = .ok (.agg #[.pointer (some ⟨1, 137, none⟩), .pointer (some ⟨w.heap.size, 0, none⟩), .int .u64 150]) (w.alloc (.cells #[.pointer (some t)] 137)) := by kernel_rfl
theorem tPE (a : Addr) (w : World) : (ReflectliteValue.methodAny (ReflectliteValue.valueError "reflectlite.Value.Type" 0) (fun t _ _ _ => ReflectliteType.toType t) #[.agg #[.pointer (some ⟨1, 137, none⟩), .pointer (some a), .int .u64 150]]).run Tryz.prog w = .ok (.iface 186 (.agg #[.pointer (some ⟨1, 137, none⟩)])) w := by kernel_rfl
theorem kPE (w : World) : ((ReflectliteType.abiMethod fun t => Functor.map (fun a : Nat => Value.int IntKind.u8 (a : Int)) (Rtype.kind t)) #[.pointer (some ⟨1, 137, none⟩)]).run Tryz.prog w = .ok (.int .u8 22) w := by kernel_rfl
theorem kTE (w : World) : ((ReflectliteType.abiMethod fun t => Functor.map (fun a : Nat => Value.int IntKind.u8 (a : Int)) (Rtype.kind t)) #[.pointer (some ⟨1, 30, none⟩)]).run Tryz.prog w = .ok (.int .u8 2) w := by kernel_rfl
theorem partsE (a : Addr) (w : World) : (ReflectliteValue.parts (.agg #[.pointer (some ⟨1, 137, none⟩), .pointer (some a), .int .u64 150])).run Tryz.prog w = .ok (some (137, a, 150)) w := by kernel_rfl
theorem isNilE (a p : Addr) (W : World) (ha : W.cell? a = some (.pointer (some p))) :
    (ReflectliteValue.method (ReflectliteValue.valueError "reflectlite.Value.IsNil" 0) ReflectliteValue.isNil #[.agg #[.pointer (some ⟨1, 137, none⟩), .pointer (some a), .int .u64 150]]).run Tryz.prog W = .ok (.bool false) W := by
  rw [rlm]
  simp only [Sem.run_bind, partsE, Result.andThen]
  simp [ReflectliteValue.isNil, loadVar, isAgg, underlying, Tryz.underlying137, ha, Result.andThen]
theorem elE (w : World) : (ReflectliteType.method ReflectliteType.elem #[.agg #[.pointer (some ⟨1, 137, none⟩)]]).run Tryz.prog w = .ok (.iface 186 (.agg #[.pointer (some ⟨1, 30, none⟩)])) w := by kernel_rfl
theorem imE (w : World) : (ReflectliteType.relation "Implements" ReflectliteType.implements_ #[.agg #[.pointer (some ⟨1, 30, none⟩)], .iface 186 (.agg #[.pointer (some ⟨1, 112, none⟩)])]).run Tryz.prog w = .ok (.bool true) w := by kernel_rfl
theorem elemOfE (w : World) : (Rtype.elem? 137).run Tryz.prog w = .ok (some 30) w := by kernel_rfl
theorem mkE (p : Addr) (w : World) : (ReflectliteValue.mk 30 p ReflectliteValue.flagAddr).run Tryz.prog w = .ok (.agg #[.pointer (some ⟨1, 30, none⟩), .pointer (some p), .int .u64 386]) w := by kernel_rfl
theorem elemVE (a p : Addr) (W : World) (ha : W.cell? a = some (.pointer (some p))) :
    (ReflectliteValue.method (ReflectliteValue.valueError "reflectlite.Value.Elem" 0) ReflectliteValue.elem #[.agg #[.pointer (some ⟨1, 137, none⟩), .pointer (some a), .int .u64 150]]).run Tryz.prog W = .ok (.agg #[.pointer (some ⟨1, 30, none⟩), .pointer (some p), .int .u64 386]) W := by
  rw [rlm]
  simp only [Sem.run_bind, partsE, Result.andThen]
  simp [ReflectliteValue.elem, loadVar, isAgg, underlying, Tryz.underlying137, ha, Result.andThen, elemOfE, mkE]
theorem vTE (c : Int) (w : World) : (ReflectliteValue.unpack (.iface 30 (.int .i64 c))).run Tryz.prog w = .ok (.agg #[.pointer (some ⟨1, 30, none⟩), .pointer (some ⟨w.heap.size, 0, none⟩), .int .u64 130]) (w.alloc (.cells #[.int .i64 c] 30)) := by kernel_rfl
theorem partsAE (a : Addr) (w : World) : (ReflectliteValue.parts (.agg #[.pointer (some ⟨1, 30, none⟩), .pointer (some a), .int .u64 386])).run Tryz.prog w = .ok (some (30, a, 386)) w := by kernel_rfl
theorem partsVE (a : Addr) (w : World) : (ReflectliteValue.parts (.agg #[.pointer (some ⟨1, 30, none⟩), .pointer (some a), .int .u64 130])).run Tryz.prog w = .ok (some (30, a, 130)) w := by kernel_rfl
theorem directE (w : World) : (Rtype.directlyAssignable 30 30).run Tryz.prog w = .ok true w := by kernel_rfl
theorem setE (ta b : Addr) (c : Int) (old : Value) (W : World) (hb : W.cell? b = some (.int .i64 c)) (ht : W.cell? ta = some old) (hf : W.frozen? ta = false) :
    (ReflectliteValue.set #[.agg #[.pointer (some ⟨1, 30, none⟩), .pointer (some ta), .int .u64 386], .agg #[.pointer (some ⟨1, 30, none⟩), .pointer (some b), .int .u64 130]]).run Tryz.prog W = .ok (.tuple #[]) (W.setCell ta (.int .i64 c)) := by
  rw [rls]
  simp only [Sem.run_bind, partsAE, partsVE, Result.andThen]
  simp [ReflectliteValue.flagAddr, loadVar, isAgg, underlying, Tryz.underlying30, hb, Result.andThen, directE, storeVar, Value.cells, storeCells, Addr.add]
  rw [run_store Tryz.prog W ta _ _ (by rfl)]
  simp [ht, hf]
theorem tyE (v : Value) (w : World) : (ReflectliteType.typeOf #[.iface 30 v]).run Tryz.prog w = .ok (.iface 186 (.agg #[.pointer (some ⟨1, 30, none⟩)])) w := by kernel_rfl
theorem asEE (w : World) : (ReflectliteType.relation "AssignableTo" ReflectliteType.assignableTo #[.agg #[.pointer (some ⟨1, 30, none⟩)], .iface 186 (.agg #[.pointer (some ⟨1, 30, none⟩)])]).run Tryz.prog w = .ok (.bool true) w := by kernel_rfl
/-! target 166 -/
theorem vPC (t : Addr) (w : World) : (ReflectliteValue.unpack (.iface 166 (.pointer (some t)))).run Tryz.prog w = .ok (.agg #[.pointer (some ⟨1, 166, none⟩), .pointer (some ⟨w.heap.size, 0, none⟩), .int .u64 150]) (w.alloc (.cells #[.pointer (some t)] 166)) := by kernel_rfl
theorem tPC (a : Addr) (w : World) : (ReflectliteValue.methodAny (ReflectliteValue.valueError "reflectlite.Value.Type" 0) (fun t _ _ _ => ReflectliteType.toType t) #[.agg #[.pointer (some ⟨1, 166, none⟩), .pointer (some a), .int .u64 150]]).run Tryz.prog w = .ok (.iface 186 (.agg #[.pointer (some ⟨1, 166, none⟩)])) w := by kernel_rfl
theorem kPC (w : World) : ((ReflectliteType.abiMethod fun t => Functor.map (fun a : Nat => Value.int IntKind.u8 (a : Int)) (Rtype.kind t)) #[.pointer (some ⟨1, 166, none⟩)]).run Tryz.prog w = .ok (.int .u8 22) w := by kernel_rfl
theorem kTC (w : World) : ((ReflectliteType.abiMethod fun t => Functor.map (fun a : Nat => Value.int IntKind.u8 (a : Int)) (Rtype.kind t)) #[.pointer (some ⟨1, 140, none⟩)]).run Tryz.prog w = .ok (.int .u8 22) w := by kernel_rfl
theorem partsC (a : Addr) (w : World) : (ReflectliteValue.parts (.agg #[.pointer (some ⟨1, 166, none⟩), .pointer (some a), .int .u64 150])).run Tryz.prog w = .ok (some (166, a, 150)) w := by kernel_rfl
theorem isNilC (a p : Addr) (W : World) (ha : W.cell? a = some (.pointer (some p))) :
    (ReflectliteValue.method (ReflectliteValue.valueError "reflectlite.Value.IsNil" 0) ReflectliteValue.isNil #[.agg #[.pointer (some ⟨1, 166, none⟩), .pointer (some a), .int .u64 150]]).run Tryz.prog W = .ok (.bool false) W := by
  rw [rlm]
  simp only [Sem.run_bind, partsC, Result.andThen]
  simp [ReflectliteValue.isNil, loadVar, isAgg, underlying, Tryz.underlying166, ha, Result.andThen]
theorem elC (w : World) : (ReflectliteType.method ReflectliteType.elem #[.agg #[.pointer (some ⟨1, 166, none⟩)]]).run Tryz.prog w = .ok (.iface 186 (.agg #[.pointer (some ⟨1, 140, none⟩)])) w := by kernel_rfl
theorem imC (w : World) : (ReflectliteType.relation "Implements" ReflectliteType.implements_ #[.agg #[.pointer (some ⟨1, 140, none⟩)], .iface 186 (.agg #[.pointer (some ⟨1, 112, none⟩)])]).run Tryz.prog w = .ok (.bool true) w := by kernel_rfl
theorem elemOfC (w : World) : (Rtype.elem? 166).run Tryz.prog w = .ok (some 140) w := by kernel_rfl
theorem mkC (p : Addr) (w : World) : (ReflectliteValue.mk 140 p ReflectliteValue.flagAddr).run Tryz.prog w = .ok (.agg #[.pointer (some ⟨1, 140, none⟩), .pointer (some p), .int .u64 406]) w := by kernel_rfl
theorem elemVC (a p : Addr) (W : World) (ha : W.cell? a = some (.pointer (some p))) :
    (ReflectliteValue.method (ReflectliteValue.valueError "reflectlite.Value.Elem" 0) ReflectliteValue.elem #[.agg #[.pointer (some ⟨1, 166, none⟩), .pointer (some a), .int .u64 150]]).run Tryz.prog W = .ok (.agg #[.pointer (some ⟨1, 140, none⟩), .pointer (some p), .int .u64 406]) W := by
  rw [rlm]
  simp only [Sem.run_bind, partsC, Result.andThen]
  simp [ReflectliteValue.elem, loadVar, isAgg, underlying, Tryz.underlying166, ha, Result.andThen, elemOfC, mkC]
theorem vTC (c : Addr) (w : World) : (ReflectliteValue.unpack (.iface 140 (.pointer (some c)))).run Tryz.prog w = .ok (.agg #[.pointer (some ⟨1, 140, none⟩), .pointer (some ⟨w.heap.size, 0, none⟩), .int .u64 150]) (w.alloc (.cells #[.pointer (some c)] 140)) := by kernel_rfl
theorem partsAC (a : Addr) (w : World) : (ReflectliteValue.parts (.agg #[.pointer (some ⟨1, 140, none⟩), .pointer (some a), .int .u64 406])).run Tryz.prog w = .ok (some (140, a, 406)) w := by kernel_rfl
theorem partsVC (a : Addr) (w : World) : (ReflectliteValue.parts (.agg #[.pointer (some ⟨1, 140, none⟩), .pointer (some a), .int .u64 150])).run Tryz.prog w = .ok (some (140, a, 150)) w := by kernel_rfl
theorem directC (w : World) : (Rtype.directlyAssignable 140 140).run Tryz.prog w = .ok true w := by kernel_rfl
theorem setC (ta b : Addr) (c : Addr) (old : Value) (W : World) (hb : W.cell? b = some (.pointer (some c))) (ht : W.cell? ta = some old) (hf : W.frozen? ta = false) :
    (ReflectliteValue.set #[.agg #[.pointer (some ⟨1, 140, none⟩), .pointer (some ta), .int .u64 406], .agg #[.pointer (some ⟨1, 140, none⟩), .pointer (some b), .int .u64 150]]).run Tryz.prog W = .ok (.tuple #[]) (W.setCell ta (.pointer (some c))) := by
  rw [rls]
  simp only [Sem.run_bind, partsAC, partsVC, Result.andThen]
  simp [ReflectliteValue.flagAddr, loadVar, isAgg, underlying, Tryz.underlying140, hb, Result.andThen, directC, storeVar, Value.cells, storeCells, Addr.add]
  rw [run_store Tryz.prog W ta _ _ (by rfl)]
  simp [ht, hf]
theorem tyC (v : Value) (w : World) : (ReflectliteType.typeOf #[.iface 140 v]).run Tryz.prog w = .ok (.iface 186 (.agg #[.pointer (some ⟨1, 140, none⟩)])) w := by kernel_rfl
theorem asCC (w : World) : (ReflectliteType.relation "AssignableTo" ReflectliteType.assignableTo #[.agg #[.pointer (some ⟨1, 140, none⟩)], .iface 186 (.agg #[.pointer (some ⟨1, 140, none⟩)])]).run Tryz.prog w = .ok (.bool true) w := by kernel_rfl
theorem asCE (w : World) : (ReflectliteType.relation "AssignableTo" ReflectliteType.assignableTo #[.agg #[.pointer (some ⟨1, 140, none⟩)], .iface 186 (.agg #[.pointer (some ⟨1, 30, none⟩)])]).run Tryz.prog w = .ok (.bool false) w := by kernel_rfl
theorem asEC (w : World) : (ReflectliteType.relation "AssignableTo" ReflectliteType.assignableTo #[.agg #[.pointer (some ⟨1, 30, none⟩)], .iface 186 (.agg #[.pointer (some ⟨1, 140, none⟩)])]).run Tryz.prog w = .ok (.bool false) w := by kernel_rfl
theorem noAsE (v : Value) (xT : TypeId) (w : World) : (Instr.typeAssert (.iface 30 v) xT 191 true).run Tryz.prog w = .ok (.tuple #[.nilIface, .bool false]) w := run_typeAssert_lacksB Tryz.underlying191 (by kernel_rfl) (by kernel_rfl) v xT w
theorem noUsE (v : Value) (xT : TypeId) (w : World) : (Instr.typeAssert (.iface 30 v) xT 196 true).run Tryz.prog w = .ok (.tuple #[.nilIface, .bool false]) w := run_typeAssert_lacksB Tryz.underlying196 (by kernel_rfl) (by kernel_rfl) v xT w
theorem noAsC (v : Value) (xT : TypeId) (w : World) : (Instr.typeAssert (.iface 140 v) xT 191 true).run Tryz.prog w = .ok (.tuple #[.nilIface, .bool false]) w := run_typeAssert_lacksB Tryz.underlying191 (by kernel_rfl) (by kernel_rfl) v xT w
theorem noUsC (v : Value) (xT : TypeId) (w : World) : (Instr.typeAssert (.iface 140 v) xT 196 true).run Tryz.prog w = .ok (.tuple #[.nilIface, .bool false]) w := run_typeAssert_lacksB Tryz.underlying196 (by kernel_rfl) (by kernel_rfl) v xT w
theorem noUE (v : Value) (xT : TypeId) (w : World) : (Instr.typeAssert (.iface 30 v) xT 194 true).run Tryz.prog w = .ok (.tuple #[.nilIface, .bool false]) w := run_typeAssert_lacksB Tryz.underlying194 (by kernel_rfl) (by kernel_rfl) v xT w
theorem hasUC (v : Value) (xT : TypeId) (w : World) : (Instr.typeAssert (.iface 140 v) xT 194 true).run Tryz.prog w = .ok (.tuple #[.iface 140 v, .bool true]) w := run_typeAssert_hasB Tryz.underlying194 (by kernel_rfl) v xT w
end Go.Proofs.YtbgjbikpenefoaaGreatDoor
