/- Lemmas for the claim, in one text: Y2, Z1, Z2, Y4. -/
import Derived.Test.YtbgjbikpenefoaaGreatDoorR14
import Derived.Test.YtbgjbikpenefoaaGreatDoorY1

/- Y2: what is needed of it (by shake.py). -/

/- Y2, as far as the seat goes. -/
/- graph.hops in plain Lean: ring by ring. -/
namespace Go.Proofs.YtbgjbikpenefoaaGreatDoor
set_option linter.unusedVariables false
set_option linter.unusedSimpArgs false
/-- A half leads from y to x. -/
def edgeG (L : Gr) (y x : Nat) : Prop := ∃ z ∈ L, z.id = y ∧ ∃ h ∈ z.halves, h.key = x
theorem near_succ {L : Gr} {v d x : Nat} : nearG L v (d + 1) x = true ↔ nearG L v d x = true ∨ ∃ y, nearG L v d y = true ∧ edgeG L y x := by
  show (nearG L v d x || L.any fun y => nearG L v d y.id && (y.halves.any fun h => h.key == x)) = true ↔ _
  rw [Bool.or_eq_true, List.any_eq_true]
  constructor
  · rintro (h | ⟨z, hz, h⟩)
    · exact .inl h
    · rw [Bool.and_eq_true, List.any_eq_true] at h
      obtain ⟨h1, e, he, h2⟩ := h
      exact .inr ⟨z.id, h1, z, hz, rfl, e, he, by simpa using h2⟩
  · rintro (h | ⟨y, h1, z, hz, rfl, e, he, h2⟩)
    · exact .inl h
    · refine .inr ⟨z, hz, ?_⟩
      rw [Bool.and_eq_true, List.any_eq_true]
      exact ⟨h1, e, he, by simpa using h2⟩
theorem near_zero {L : Gr} {v x : Nat} : nearG L v 0 x = true ↔ x = v := by
  show (x == v) = true ↔ _
  simp
theorem near_in {L : Gr} (h : Good L) {v : Nat} (hv : ∃ y ∈ L, y.id = v) : ∀ d x, nearG L v d x = true → ∃ y ∈ L, y.id = x
  | 0, x, hx => by rw [near_zero] at hx; subst hx; exact hv
  | d + 1, x, hx => by
    rcases near_succ.1 hx with hx | ⟨y, _, z, hz, _, e, he, rfl⟩
    · exact near_in h hv d x hx
    · obtain ⟨u, hu, e1, _⟩ := h.pair z hz e he
      exact ⟨u, hu, e1⟩
/-- Ring d: who is seen, and whose edges are still to be gone along. -/
structure Ring (L : Gr) (v d : Nat) (S : Nat → Prop) (ring : List Nat) : Prop where
  seen : ∀ x, S x ↔ nearG L v d x = true
  out : ∀ y x, nearG L v d y = true → y ∉ ring → edgeG L y x → nearG L v d x = true
  near : ∀ y ∈ ring, nearG L v d y = true
theorem Ring.start (L : Gr) (v : Nat) {S : Nat → Prop} (hS : ∀ x, S x ↔ x = v) : Ring L v 0 S [v] :=
  ⟨fun x => by rw [hS, near_zero], fun y x hy hn _ => absurd (near_zero.1 hy) (fun e => hn (by simp [e])), fun y hy => by rw [List.mem_singleton] at hy; exact near_zero.2 hy⟩
theorem Ring.next {L : Gr} {v d : Nat} {S S' : Nat → Prop} {ring next : List Nat} (h : Ring L v d S ring) (hS : ∀ x, S' x ↔ S x ∨ ∃ y ∈ ring, edgeG L y x) (hn : ∀ x, x ∈ next ↔ S' x ∧ ¬ S x) : Ring L v (d + 1) S' next := by
  have hs : ∀ x, S' x ↔ nearG L v (d + 1) x = true := fun x => by
    rw [hS, near_succ]
    constructor
    · rintro (hx | ⟨y, hy, e⟩)
      · exact .inl ((h.seen x).1 hx)
      · exact .inr ⟨y, h.near y hy, e⟩
    · rintro (hx | ⟨y, hy, e⟩)
      · exact .inl ((h.seen x).2 hx)
      · by_cases hr : y ∈ ring
        · exact .inr ⟨y, hr, e⟩
        · exact .inl ((h.seen x).2 (h.out y x hy hr e))
  refine ⟨hs, fun y x hy hny e => ?_, fun y hy => (hs y).1 ((hn y).1 hy).1⟩
  have h1 := (hs y).2 hy
  have h2 : S y := Classical.byContradiction fun c => hny ((hn y).2 ⟨h1, c⟩)
  exact near_succ.2 (.inr ⟨y, (h.seen y).1 h2, e⟩)
theorem mem_withinG {L : Gr} {v k x : Nat} : x ∈ withinG L v k ↔ nearG L v k x = true ∧ ∃ y ∈ L, y.id = x := by
  unfold withinG
  rw [List.mem_map]
  constructor
  · rintro ⟨y, hy, rfl⟩
    rw [List.mem_filter] at hy
    exact ⟨hy.2, y, hy.1, rfl⟩
  · rintro ⟨h, y, hy, rfl⟩
    exact ⟨y, List.mem_filter.2 ⟨hy, h⟩, rfl⟩
theorem withinG_rising {L : Gr} (h : Rising Vtx.id L) (v k : Nat) : (withinG L v k).Pairwise (· < ·) := by
  unfold withinG
  rw [List.pairwise_map]
  exact List.Pairwise.filter _ h
theorem rising_ext9 : ∀ {a b : List Nat}, a.Pairwise (· < ·) → b.Pairwise (· < ·) → (∀ p, p ∈ a ↔ p ∈ b) → a = b
  | [], [], _, _, _ => rfl
  | [], y :: r, _, _, h => absurd ((h y).2 (by simp)) (by simp)
  | x :: r, [], _, _, h => absurd ((h x).1 (by simp)) (by simp)
  | x :: r, y :: t, ha, hb, h => by
    obtain ⟨hx, hr⟩ := List.pairwise_cons.1 ha
    obtain ⟨hy, ht⟩ := List.pairwise_cons.1 hb
    have e : x = y := by
      rcases List.mem_cons.1 ((h x).1 (by simp)) with e | e
      · exact e
      · rcases List.mem_cons.1 ((h y).2 (by simp)) with e2 | e2
        · exact e2.symm
        · have := hx y e2; have := hy x e; omega
    subst e
    rw [rising_ext9 hr ht (fun p => ?_)]
    constructor
    · intro hp
      rcases List.mem_cons.1 ((h p).1 (by simp [hp])) with e | e
      · have := hx p hp; omega
      · exact e
    · intro hp
      rcases List.mem_cons.1 ((h p).2 (by simp [hp])) with e | e
      · have := hy p hp; omega
      · exact e
/-- The last ring: all that is within. -/
theorem Ring.all {L : Gr} (hL : Good L) {v : Nat} (hv : ∃ y ∈ L, y.id = v) {k : Nat} {S : Nat → Prop} {ring : List Nat} (h : Ring L v k S ring) {ks : List Nat} (hr : ks.Pairwise (· < ·)) (hk : ∀ x, x ∈ ks ↔ S x) : ks = withinG L v k :=
  rising_ext9 hr (withinG_rising hL.rise v k) fun x => by
    rw [hk, h.seen, mem_withinG]
    exact ⟨fun e => ⟨e, near_in hL hv k x e⟩, fun e => e.1⟩
end Go.Proofs.YtbgjbikpenefoaaGreatDoor

/- Z1: what is needed of it (by shake.py). -/

/- Z1, as far as the seat goes. -/
/- The statements about the graph by itself, in plain Lean: degrees; nearer is within; all or nothing; one by one. -/
namespace Go.Proofs.YtbgjbikpenefoaaGreatDoor
set_option linter.unusedVariables false
set_option linter.unusedSimpArgs false
/-! degrees -/
/-! nearer is within -/
/-! all or nothing; one by one -/
theorem ok_step {L L' : Gr} {o : Opr} {ops : List Opr} {us vs : List Val} : (o :: ops).foldl okStep (some (L, us)) = some (L', vs) ↔ (oneG L o).e = 0 ∧ ops.foldl okStep (some ((oneG L o).g, us ++ (oneG L o).vals)) = some (L', vs) := by
  rw [List.foldl_cons]
  unfold okStep
  simp only [Option.bind_some]
  by_cases h : (oneG L o).e = 0
  · rw [if_pos h]; simp [h]
  · rw [if_neg h]
    have := okStep_none ops
    unfold okStep at this
    rw [this]
    simp [h]
theorem ok_none {L : Gr} {o : Opr} {ops : List Opr} {us : List Val} : (o :: ops).foldl okStep (some (L, us)) = none ↔ (oneG L o).e ≠ 0 ∨ ((oneG L o).e = 0 ∧ ops.foldl okStep (some ((oneG L o).g, us ++ (oneG L o).vals)) = none) := by
  rw [List.foldl_cons]
  unfold okStep
  simp only [Option.bind_some]
  by_cases h : (oneG L o).e = 0
  · rw [if_pos h]; simp [h]
  · rw [if_neg h]
    have := okStep_none ops
    unfold okStep at this
    rw [this]
    simp [h]
/-- Where a transaction fails: ahead of that place it is taken. -/
theorem fail_cut : ∀ (ops : List Opr) (L : Gr) (us : List Val) (i : Nat), ops.foldl okStep (some (L, us)) = none → ∃ k, k < ops.length ∧ (failG L i ops).2 = i + k ∧ (failG L i ops).1 ≠ 0 ∧ ∃ p, (ops.take k).foldl okStep (some (L, us)) = some p
  | [], L, us, i, h => by simp at h
  | o :: r, L, us, i, h => by
    rcases ok_none.1 h with h | ⟨h0, h⟩
    · exact ⟨0, by simp, by simp [failG, h], by simp [failG, h], _, rfl⟩
    · obtain ⟨k, h1, h2, h3, p, h4⟩ := fail_cut r (oneG L o).g (us ++ (oneG L o).vals) (i + 1) h
      refine ⟨k + 1, by simp; omega, ?_, ?_, p, ?_⟩
      · simp only [failG, h0, if_true]; rw [h2]; omega
      · simp only [failG, h0, if_true]; exact h3
      · rw [List.take_succ_cons]
        exact ok_step.2 ⟨h0, h4⟩
end Go.Proofs.YtbgjbikpenefoaaGreatDoor

/- Z2: what is needed of it (by shake.py). -/

/- Z2, as far as the seat goes. -/
/- What comes and goes leaves the graph as it was; a transaction of one operation: in plain Lean. -/
namespace Go.Proofs.YtbgjbikpenefoaaGreatDoor
set_option linter.unusedVariables false
set_option linter.unusedSimpArgs false
section
variable {α : Type} {key : α → Nat}
theorem rising_extG : ∀ {a b : List α}, Rising key a → Rising key b → (∀ p, p ∈ a ↔ p ∈ b) → a = b
  | [], [], _, _, _ => rfl
  | [], y :: r, _, _, h => absurd ((h y).2 (by simp)) (by simp)
  | x :: r, [], _, _, h => absurd ((h x).1 (by simp)) (by simp)
  | x :: r, y :: t, ha, hb, h => by
    obtain ⟨hx, hr⟩ := List.pairwise_cons.1 ha
    obtain ⟨hy, ht⟩ := List.pairwise_cons.1 hb
    have e : x = y := by
      rcases List.mem_cons.1 ((h x).1 (by simp)) with e | e
      · exact e
      · rcases List.mem_cons.1 ((h y).2 (by simp)) with e2 | e2
        · exact e2.symm
        · have := hx y e2; have := hy x e; omega
    subst e
    rw [rising_extG hr ht (fun p => ?_)]
    constructor
    · intro hp
      rcases List.mem_cons.1 ((h p).1 (by simp [hp])) with e | e
      · subst e; have := hx p hp; omega
      · exact e
    · intro hp
      rcases List.mem_cons.1 ((h p).2 (by simp [hp])) with e | e
      · subst e; have := hy p hp; omega
      · exact e
end
theorem findV_iff {L : Gr} (hr : Rising Vtx.id L) {v : Nat} {x : Vtx} : findV L v = some x ↔ x ∈ L ∧ x.id = v := by
  constructor
  · exact findV_mem
  · rintro ⟨hx, rfl⟩
    cases h : findV L x.id with
    | none => exact absurd rfl (findV_none.1 h x hx)
    | some y =>
      obtain ⟨h1, h2⟩ := findV_mem h
      rw [hr.uniq h1 hx h2]
/-! a transaction of one operation -/
theorem run_one (L : Gr) (o : Opr) : okRun L [o] = if (oneG L o).e = 0 then some ((oneG L o).g, (oneG L o).vals) else none := by
  unfold okRun okStep
  simp
theorem ok_at {L : Gr} {ops : List Opr} {p q : Gr × List Val} {k : Nat} {o : Opr} (h : okRun L ops = some p) (ho : ops[k]? = some o) (hq : okRun L (ops.take k) = some q) : (oneG q.1 o).e = 0 := by
  apply Classical.byContradiction
  intro hne
  have := (okRun_fail (L' := q.1) (vs := q.2) hq ho hne).1
  rw [this] at h
  cases h
end Go.Proofs.YtbgjbikpenefoaaGreatDoor

/- Y4: what is needed of it (by shake.py). -/

/- Y4, as far as the seat goes. -/
/- graph.transact in plain Lean: who is named; copies; laid back. -/
namespace Go.Proofs.YtbgjbikpenefoaaGreatDoor
set_option linter.unusedVariables false
set_option linter.unusedSimpArgs false
open Go.RowKit Go.Maps
def namedB (ops : List Opr) (k : Nat) : Bool := ops.any fun o => o.a == k || o.b == k
/-- Who is named by the first operations, and by the first of two numbers. -/
def namedTo (ops : List Opr) (ids : List Nat) (j k : Nat) : Bool := namedB ops k || (ids.take j).any fun i => i == k
theorem namedTo_zero (ops : List Opr) (ids : List Nat) : namedTo ops ids 0 = namedB ops := by
  funext k; simp [namedTo]
theorem namedTo_succ {ops : List Opr} {ids : List Nat} {j i : Nat} (h : ids[j]? = some i) (k : Nat) : namedTo ops ids (j + 1) k = (namedTo ops ids j k || i == k) := by
  obtain ⟨h1, h2⟩ := List.getElem?_eq_some_iff.1 h
  unfold namedTo
  rw [List.take_succ_eq_append_getElem h1, h2, List.any_append]
  simp [Bool.or_assoc]
theorem namedB_next {ops : List Opr} {i : Nat} {o : Opr} (h : ops[i]? = some o) : namedB (ops.take (i + 1)) = namedTo (ops.take i) [o.a, o.b] 2 := by
  obtain ⟨h1, h2⟩ := List.getElem?_eq_some_iff.1 h
  funext k
  unfold namedB namedTo
  rw [List.take_succ_eq_append_getElem h1, h2, List.any_append]
  simp [namedB]
theorem namedB_nil : namedB [] = fun _ => false := rfl
theorem filter_more {L : Gr} (hr : Rising Vtx.id L) {x : Vtx} (hx : x ∈ L) (p : Nat → Bool) : layG Vtx.id x false (L.filter fun y => p y.id) = L.filter fun y => p y.id || x.id == y.id := by
  have hf : Rising Vtx.id (L.filter fun y => p y.id) := List.Pairwise.filter _ hr
  refine rising_extG (Rising.lay hf) (List.Pairwise.filter _ hr) fun y => ?_
  rw [layG_mem hf, List.mem_filter, List.mem_filter, Bool.or_eq_true, beq_iff_eq]
  constructor
  · rintro (⟨⟨h1, h2⟩, _⟩ | ⟨_, rfl⟩)
    · exact ⟨h1, .inl h2⟩
    · exact ⟨hx, .inr rfl⟩
  · rintro ⟨h1, h2⟩
    by_cases e : y.id = x.id
    · exact .inr ⟨rfl, hr.uniq h1 hx e⟩
    · exact .inl ⟨⟨h1, h2.resolve_right (fun c => e c.symm)⟩, e⟩
theorem filter_none {L : Gr} {v : Nat} (hv : findV L v = none) (p : Nat → Bool) : (L.filter fun y => p y.id || v == y.id) = L.filter fun y => p y.id := by
  apply List.filter_congr
  intro y hy
  have := findV_none.1 hv y hy
  have e : (v == y.id) = false := by simp; omega
  rw [e, Bool.or_false]
/-- Who was named is laid back as he was. -/
theorem laid_back {ops : List Opr} {ns0 nsi nsf cs : List Node} (h0 : Rising keyN ns0) (hf : Rising keyN nsf) (hs : ∀ n : Node, namedB ops n.x.id = false → (n ∈ nsi ↔ n ∈ ns0)) (hc : cs.map Node.x = (ns0.map Node.x).filter fun y => namedB ops y.id)
    (hm : ∀ n : Node, n ∈ nsf ↔ (n ∈ nsi ∧ namedB ops n.x.id = false) ∨ n ∈ cs) : nsf.map Node.x = ns0.map Node.x := by
  refine rising_extG (key := Vtx.id) (rising_map hf) (rising_map h0) fun p => ?_
  rw [List.mem_map, List.mem_map]
  constructor
  · rintro ⟨n, hn, rfl⟩
    rcases (hm n).1 hn with ⟨h1, h2⟩ | h
    · exact ⟨n, (hs n h2).1 h1, rfl⟩
    · have : n.x ∈ cs.map Node.x := List.mem_map_of_mem h
      rw [hc] at this
      obtain ⟨m, h1, h2⟩ := List.mem_map.1 (List.mem_filter.1 this).1
      exact ⟨m, h1, h2⟩
  · rintro ⟨n, hn, rfl⟩
    cases hb : namedB ops n.x.id with
    | true =>
      have : n.x ∈ cs.map Node.x := by
        rw [hc, List.mem_filter]
        exact ⟨List.mem_map_of_mem hn, hb⟩
      obtain ⟨c, h1, h2⟩ := List.mem_map.1 this
      exact ⟨c, (hm c).2 (.inr h1), h2⟩
    | false => exact ⟨n, (hm n).2 (.inl ⟨(hs n hb).2 hn, hb⟩), rfl⟩
end Go.Proofs.YtbgjbikpenefoaaGreatDoor
