/- Lemmas for the claim, in one text: Y2, Z1, Z2. -/
import Derived.Test.YtbgjbikpenefoaaGreatDoorR14

/- Y2: what is needed of it (by shake.py). -/

/- Y2, as far as the seat goes. -/
/- graph.hops in plain Lean: ring by ring. -/
namespace Go.Proofs.YtbgjbikpenefoaaGreatDoor
set_option linter.unusedVariables false
set_option linter.unusedSimpArgs false
/-- A half leads from y to x. -/
def edgeG (L : Gr) (y x : Nat) : Prop := ∃ z ∈ L, z.id = y ∧ ∃ h ∈ z.halves, h.key = x
theorem near_succ {L : Gr} {v d x : Nat} : nearG L v (d + 1) x = true ↔ nearG L v d x = true ∨ ∃ y, nearG L v d y = true ∧ edgeG L y x := by
  show (nearG L v d x || L.any fun y => nearG L v d y.id && (y.halves.any fun h => h.key == x)) = true ↔ _
  rw [Bool.or_eq_true, List.any_eq_true]
  constructor
  · rintro (h | ⟨z, hz, h⟩)
    · exact .inl h
    · rw [Bool.and_eq_true, List.any_eq_true] at h
      obtain ⟨h1, e, he, h2⟩ := h
      exact .inr ⟨z.id, h1, z, hz, rfl, e, he, by simpa using h2⟩
  · rintro (h | ⟨y, h1, z, hz, rfl, e, he, h2⟩)
    · exact .inl h
    · refine .inr ⟨z, hz, ?_⟩
      rw [Bool.and_eq_true, List.any_eq_true]
      exact ⟨h1, e, he, by simpa using h2⟩
theorem near_zero {L : Gr} {v x : Nat} : nearG L v 0 x = true ↔ x = v := by
  show (x == v) = true ↔ _
  simp
theorem near_in {L : Gr} (h : Good L) {v : Nat} (hv : ∃ y ∈ L, y.id = v) : ∀ d x, nearG L v d x = true → ∃ y ∈ L, y.id = x
  | 0, x, hx => by rw [near_zero] at hx; subst hx; exact hv
  | d + 1, x, hx => by
    rcases near_succ.1 hx with hx | ⟨y, _, z, hz, _, e, he, rfl⟩
    · exact near_in h hv d x hx
    · obtain ⟨u, hu, e1, _⟩ := h.pair z hz e he
      exact ⟨u, hu, e1⟩
/-- Ring d: who is seen, and whose edges are still to be gone along. -/
structure Ring (L : Gr) (v d : Nat) (S : Nat → Prop) (ring : List Nat) : Prop where
  seen : ∀ x, S x ↔ nearG L v d x = true
  out : ∀ y x, nearG L v d y = true → y ∉ ring → edgeG L y x → nearG L v d x = true
  near : ∀ y ∈ ring, nearG L v d y = true
theorem Ring.start (L : Gr) (v : Nat) {S : Nat → Prop} (hS : ∀ x, S x ↔ x = v) : Ring L v 0 S [v] :=
  ⟨fun x => by rw [hS, near_zero], fun y x hy hn _ => absurd (near_zero.1 hy) (fun e => hn (by simp [e])), fun y hy => by rw [List.mem_singleton] at hy; exact near_zero.2 hy⟩
theorem Ring.next {L : Gr} {v d : Nat} {S S' : Nat → Prop} {ring next : List Nat} (h : Ring L v d S ring) (hS : ∀ x, S' x ↔ S x ∨ ∃ y ∈ ring, edgeG L y x) (hn : ∀ x, x ∈ next ↔ S' x ∧ ¬ S x) : Ring L v (d + 1) S' next := by
  have hs : ∀ x, S' x ↔ nearG L v (d + 1) x = true := fun x => by
    rw [hS, near_succ]
    constructor
    · rintro (hx | ⟨y, hy, e⟩)
      · exact .inl ((h.seen x).1 hx)
      · exact .inr ⟨y, h.near y hy, e⟩
    · rintro (hx | ⟨y, hy, e⟩)
      · exact .inl ((h.seen x).2 hx)
      · by_cases hr : y ∈ ring
        · exact .inr ⟨y, hr, e⟩
        · exact .inl ((h.seen x).2 (h.out y x hy hr e))
  refine ⟨hs, fun y x hy hny e => ?_, fun y hy => (hs y).1 ((hn y).1 hy).1⟩
  have h1 := (hs y).2 hy
  have h2 : S y := Classical.byContradiction fun c => hny ((hn y).2 ⟨h1, c⟩)
  exact near_succ.2 (.inr ⟨y, (h.seen y).1 h2, e⟩)
theorem mem_withinG {L : Gr} {v k x : Nat} : x ∈ withinG L v k ↔ nearG L v k x = true ∧ ∃ y ∈ L, y.id = x := by
  unfold withinG
  rw [List.mem_map]
  constructor
  · rintro ⟨y, hy, rfl⟩
    rw [List.mem_filter] at hy
    exact ⟨hy.2, y, hy.1, rfl⟩
  · rintro ⟨h, y, hy, rfl⟩
    exact ⟨y, List.mem_filter.2 ⟨hy, h⟩, rfl⟩
theorem withinG_rising {L : Gr} (h : Rising Vtx.id L) (v k : Nat) : (withinG L v k).Pairwise (· < ·) := by
  unfold withinG
  rw [List.pairwise_map]
  exact List.Pairwise.filter _ h
theorem rising_ext9 : ∀ {a b : List Nat}, a.Pairwise (· < ·) → b.Pairwise (· < ·) → (∀ p, p ∈ a ↔ p ∈ b) → a = b
  | [], [], _, _, _ => rfl
  | [], y :: r, _, _, h => absurd ((h y).2 (by simp)) (by simp)
  | x :: r, [], _, _, h => absurd ((h x).1 (by simp)) (by simp)
  | x :: r, y :: t, ha, hb, h => by
    obtain ⟨hx, hr⟩ := List.pairwise_cons.1 ha
    obtain ⟨hy, ht⟩ := List.pairwise_cons.1 hb
    have e : x = y := by
      rcases List.mem_cons.1 ((h x).1 (by simp)) with e | e
      · exact e
      · rcases List.mem_cons.1 ((h y).2 (by simp)) with e2 | e2
        · exact e2.symm
        · have := hx y e2; have := hy x e; omega
    subst e
    rw [rising_ext9 hr ht (fun p => ?_)]
    constructor
    · intro hp
      rcases List.mem_cons.1 ((h p).1 (by simp [hp])) with e | e
      · have := hx p hp; omega
      · exact e
    · intro hp
      rcases List.mem_cons.1 ((h p).2 (by simp [hp])) with e | e
      · have := hy p hp; omega
      · exact e
/-- The last ring: all that is within. -/
theorem Ring.all {L : Gr} (hL : Good L) {v : Nat} (hv : ∃ y ∈ L, y.id = v) {k : Nat} {S : Nat → Prop} {ring : List Nat} (h : Ring L v k S ring) {ks : List Nat} (hr : ks.Pairwise (· < ·)) (hk : ∀ x, x ∈ ks ↔ S x) : ks = withinG L v k :=
  rising_ext9 hr (withinG_rising hL.rise v k) fun x => by
    rw [hk, h.seen, mem_withinG]
    exact ⟨fun e => ⟨e, near_in hL hv k x e⟩, fun e => e.1⟩
end Go.Proofs.YtbgjbikpenefoaaGreatDoor

/- Z1: what is needed of it (by shake.py). -/

/- Z1, as far as the seat goes. -/
/- The statements about the graph by itself, in plain Lean: degrees; nearer is within; all or nothing; one by one. -/
namespace Go.Proofs.YtbgjbikpenefoaaGreatDoor
set_option linter.unusedVariables false
set_option linter.unusedSimpArgs false
/-! degrees -/
/-! nearer is within -/
theorem near_up {L : Gr} {v d x : Nat} (h : nearG L v d x = true) : nearG L v (d + 1) x = true := near_succ.2 (.inl h)
theorem near_self (L : Gr) (v : Nat) : ∀ d, nearG L v d v = true
  | 0 => near_zero.2 rfl
  | d + 1 => near_up (near_self L v d)
theorem edge_sym {L : Gr} (h : Good L) {y x : Nat} (e : edgeG L y x) : edgeG L x y := by
  obtain ⟨z, hz, rfl, a, ha, rfl⟩ := e
  obtain ⟨u, hu, e1, hm⟩ := h.pair z hz a ha
  exact ⟨u, hu, e1, _, hm, rfl⟩
theorem near_left {L : Gr} {x y v : Nat} (e : edgeG L x y) : ∀ {n : Nat}, nearG L y n v = true → nearG L x (n + 1) v = true
  | 0, h => by
    rw [near_zero] at h
    subst h
    exact near_succ.2 (.inr ⟨x, near_zero.2 rfl, e⟩)
  | n + 1, h => by
    rcases near_succ.1 h with h | ⟨z, hz, ez⟩
    · exact near_up (near_left e h)
    · exact near_succ.2 (.inr ⟨z, near_left e hz, ez⟩)
theorem near_sym {L : Gr} (hL : Good L) : ∀ {n v x : Nat}, nearG L v n x = true → nearG L x n v = true
  | 0, v, x, h => by rw [near_zero] at h ⊢; exact h.symm
  | n + 1, v, x, h => by
    rcases near_succ.1 h with h | ⟨y, hy, e⟩
    · exact near_up (near_sym hL h)
    · exact near_left (edge_sym hL e) (near_sym hL hy)
/-- Who is one edge farther has a neighbour that is nearer. -/
theorem near_far {L : Gr} (hL : Good L) {v n : Nat} {x : Vtx} (hx : x ∈ L) (h1 : nearG L v (n + 1) x.id = true) (h0 : ¬ nearG L v n x.id = true) : ∃ h ∈ x.halves, nearG L v n h.key = true := by
  rcases near_succ.1 h1 with h | ⟨y, hy, e⟩
  · exact absurd h h0
  · obtain ⟨z, hz, e1, a, ha, e2⟩ := edge_sym hL e
    have : z = x := hL.rise.uniq hz hx e1
    subst this
    exact ⟨a, ha, by rw [e2]; exact hy⟩
/-! all or nothing; one by one -/
theorem ok_step {L L' : Gr} {o : Opr} {ops : List Opr} {us vs : List Val} : (o :: ops).foldl okStep (some (L, us)) = some (L', vs) ↔ (oneG L o).e = 0 ∧ ops.foldl okStep (some ((oneG L o).g, us ++ (oneG L o).vals)) = some (L', vs) := by
  rw [List.foldl_cons]
  unfold okStep
  simp only [Option.bind_some]
  by_cases h : (oneG L o).e = 0
  · rw [if_pos h]; simp [h]
  · rw [if_neg h]
    have := okStep_none ops
    unfold okStep at this
    rw [this]
    simp [h]
theorem ok_none {L : Gr} {o : Opr} {ops : List Opr} {us : List Val} : (o :: ops).foldl okStep (some (L, us)) = none ↔ (oneG L o).e ≠ 0 ∨ ((oneG L o).e = 0 ∧ ops.foldl okStep (some ((oneG L o).g, us ++ (oneG L o).vals)) = none) := by
  rw [List.foldl_cons]
  unfold okStep
  simp only [Option.bind_some]
  by_cases h : (oneG L o).e = 0
  · rw [if_pos h]; simp [h]
  · rw [if_neg h]
    have := okStep_none ops
    unfold okStep at this
    rw [this]
    simp [h]
/-- Where a transaction fails: ahead of that place it is taken. -/
theorem fail_cut : ∀ (ops : List Opr) (L : Gr) (us : List Val) (i : Nat), ops.foldl okStep (some (L, us)) = none → ∃ k, k < ops.length ∧ (failG L i ops).2 = i + k ∧ (failG L i ops).1 ≠ 0 ∧ ∃ p, (ops.take k).foldl okStep (some (L, us)) = some p
  | [], L, us, i, h => by simp at h
  | o :: r, L, us, i, h => by
    rcases ok_none.1 h with h | ⟨h0, h⟩
    · exact ⟨0, by simp, by simp [failG, h], by simp [failG, h], _, rfl⟩
    · obtain ⟨k, h1, h2, h3, p, h4⟩ := fail_cut r (oneG L o).g (us ++ (oneG L o).vals) (i + 1) h
      refine ⟨k + 1, by simp; omega, ?_, ?_, p, ?_⟩
      · simp only [failG, h0, if_true]; rw [h2]; omega
      · simp only [failG, h0, if_true]; exact h3
      · rw [List.take_succ_cons]
        exact ok_step.2 ⟨h0, h4⟩
end Go.Proofs.YtbgjbikpenefoaaGreatDoor

/- Z2: what is needed of it (by shake.py). -/

/- Z2, as far as the seat goes. -/
/- What comes and goes leaves the graph as it was; a transaction of one operation: in plain Lean. -/
namespace Go.Proofs.YtbgjbikpenefoaaGreatDoor
set_option linter.unusedVariables false
set_option linter.unusedSimpArgs false
section
variable {α : Type} {key : α → Nat}
theorem rising_extG : ∀ {a b : List α}, Rising key a → Rising key b → (∀ p, p ∈ a ↔ p ∈ b) → a = b
  | [], [], _, _, _ => rfl
  | [], y :: r, _, _, h => absurd ((h y).2 (by simp)) (by simp)
  | x :: r, [], _, _, h => absurd ((h x).1 (by simp)) (by simp)
  | x :: r, y :: t, ha, hb, h => by
    obtain ⟨hx, hr⟩ := List.pairwise_cons.1 ha
    obtain ⟨hy, ht⟩ := List.pairwise_cons.1 hb
    have e : x = y := by
      rcases List.mem_cons.1 ((h x).1 (by simp)) with e | e
      · exact e
      · rcases List.mem_cons.1 ((h y).2 (by simp)) with e2 | e2
        · exact e2.symm
        · have := hx y e2; have := hy x e; omega
    subst e
    rw [rising_extG hr ht (fun p => ?_)]
    constructor
    · intro hp
      rcases List.mem_cons.1 ((h p).1 (by simp [hp])) with e | e
      · subst e; have := hx p hp; omega
      · exact e
    · intro hp
      rcases List.mem_cons.1 ((h p).2 (by simp [hp])) with e | e
      · subst e; have := hy p hp; omega
      · exact e
theorem lay_back {x y : α} {l : List α} (hr : Rising key l) (hk : key y = key x) (hx : x ∈ l) : layG key x false (layG key y false l) = l := by
  refine rising_extG (Rising.lay (Rising.lay hr)) hr fun p => ?_
  rw [layG_mem (Rising.lay hr), layG_mem hr]
  constructor
  · rintro (⟨(⟨h, _⟩ | ⟨_, rfl⟩), hne⟩ | ⟨_, rfl⟩)
    · exact h
    · exact absurd hk hne
    · exact hx
  · intro hp
    by_cases e : key p = key x
    · exact .inr ⟨rfl, hr.uniq hp hx e⟩
    · exact .inl ⟨.inl ⟨hp, by rw [hk]; exact e⟩, e⟩
theorem lay_gone {x y : α} {l : List α} (hr : Rising key l) (hk : key y = key x) (hn : ∀ p ∈ l, key p ≠ key x) : layG key x true (layG key y false l) = l := by
  refine rising_extG (Rising.lay (Rising.lay hr)) hr fun p => ?_
  rw [layG_mem (Rising.lay hr), layG_mem hr]
  constructor
  · rintro (⟨(⟨h, _⟩ | ⟨_, rfl⟩), hne⟩ | ⟨h, _⟩)
    · exact h
    · exact absurd hk hne
    · cases h
  · intro hp
    exact .inl ⟨.inl ⟨hp, by rw [hk]; exact hn p hp⟩, hn p hp⟩
end
theorem findV_iff {L : Gr} (hr : Rising Vtx.id L) {v : Nat} {x : Vtx} : findV L v = some x ↔ x ∈ L ∧ x.id = v := by
  constructor
  · exact findV_mem
  · rintro ⟨hx, rfl⟩
    cases h : findV L x.id with
    | none => exact absurd rfl (findV_none.1 h x hx)
    | some y =>
      obtain ⟨h1, h2⟩ := findV_mem h
      rw [hr.uniq h1 hx h2]
theorem setH_id (x : Vtx) (f : Nat) (v : Val) (b : Bool) : (setH x f v b).id = x.id := rfl
theorem setP_id (x : Vtx) (k : Nat) (v : Val) : (setP x k v).id = x.id := rfl
theorem find_lay {L : Gr} (h : Rising Vtx.id L) {x : Vtx} (ht : x.there = true) : findV (layV x L) x.id = some x :=
  (findV_iff (layV_rise h)).2 ⟨(layV_mem h).2 (.inr ⟨ht, rfl⟩), rfl⟩
theorem find_lay_ne {L : Gr} (h : Rising Vtx.id L) {x y : Vtx} {v : Nat} (hy : findV L v = some y) (hne : v ≠ x.id) : findV (layV x L) v = some y := by
  obtain ⟨h1, rfl⟩ := findV_mem hy
  exact (findV_iff (layV_rise h)).2 ⟨(layV_mem h).2 (.inl ⟨h1, hne⟩), rfl⟩
theorem setH_back {x : Vtx} (hr : Rising Ent.key x.halves) {f : Nat} {v : Val} (hn : entX x.halves f = none) : setH (setH x f v true) f noVal false = x := by
  have : layG Ent.key ⟨f, noVal⟩ true (layG Ent.key ⟨f, v⟩ false x.halves) = x.halves := lay_gone hr rfl (entX_isNone.1 hn)
  unfold setH
  simp only [Bool.not_true, Bool.not_false]
  rw [this]
/-- An edge that comes and goes. -/
theorem join_back {L : Gr} (h : Good L) {o : Opr} (ho : opOK o = true) (hk : o.kind = 5) (he : (oneG L o).e = 0) :
    (oneG (oneG L o).g ⟨6, o.b, o.a, 0, noVal⟩).e = 0 ∧ (oneG (oneG L o).g ⟨6, o.b, o.a, 0, noVal⟩).g = L := by
  obtain ⟨kind, a, b, key, val⟩ := o
  simp only at hk
  subst hk
  have hab : b ≠ a := ((opOK_parts ho).2.2.1 rfl).2
  unfold oneG at he
  simp only [Nat.reduceEqDiff, if_false, reduceCtorEq] at he
  cases hv : findV L a with
  | none => rw [hv] at he; simp at he
  | some v =>
    rw [hv] at he
    simp only at he
    cases hu : findV L b with
    | none => rw [hu] at he; simp at he
    | some u =>
      rw [hu] at he
      simp only at he
      cases hx : entX v.halves b with
      | some w => rw [hx] at he; simp at he
      | none =>
        rw [hx] at he
        simp only [Option.isSome_none, Bool.false_eq_true, if_false] at he
        by_cases hf : 16 ≤ v.halves.length ∨ 16 ≤ u.halves.length
        · rw [if_pos hf] at he; simp at he
        · have hg : (oneG L ⟨5, a, b, key, val⟩).g = layV (setH u a val true) (layV (setH v b val true) L) := by
            unfold oneG
            simp only [Nat.reduceEqDiff, if_false, reduceCtorEq, if_true, hv, hu, hx, Option.isSome_none, Bool.false_eq_true, hf]
          obtain ⟨mv, iv⟩ := findV_mem hv
          obtain ⟨mu, iu⟩ := findV_mem hu
          have gv := h.each v mv
          have gu := h.each u mu
          have hxu : entX u.halves a = none := by
            cases hq : entX u.halves a with
            | none => rfl
            | some z =>
              obtain ⟨t, ht, e1, hm⟩ := h.pair u mu _ (entX_mem hq)
              have : t = v := h.rise.uniq ht mv (e1.trans iv.symm)
              subst this
              exact absurd iu (entX_isNone.1 hx _ hm)
          have r1 := layV_rise (x := setH v b val true) h.rise
          have r2 := layV_rise (x := setH u a val true) r1
          have f2 : findV (layV (setH u a val true) (layV (setH v b val true) L)) b = some (setH u a val true) := by
            have := find_lay (x := setH u a val true) r1 gu.there
            rwa [setH_id, iu] at this
          have f1 : findV (layV (setH u a val true) (layV (setH v b val true) L)) a = some (setH v b val true) := by
            refine find_lay_ne r1 ?_ (by rw [setH_id, iu]; omega)
            have := find_lay (x := setH v b val true) h.rise gv.there
            rwa [setH_id, iv] at this
          have e2 : entX (setH u a val true).halves a = some val := (entX_isSome (Rising.lay gu.hrise)).2 ((setH_mem gu.hrise).2 (.inr ⟨rfl, rfl⟩))
          rw [hg]
          have hone : oneG (layV (setH u a val true) (layV (setH v b val true) L)) ⟨6, b, a, 0, noVal⟩ = ⟨0, layV (setH (setH v b val true) b noVal false) (layV (setH (setH u a val true) a noVal false) (layV (setH u a val true) (layV (setH v b val true) L))), []⟩ := by
            unfold oneG
            simp only [Nat.reduceEqDiff, if_false, reduceCtorEq, if_true, f1, f2, e2, true_or]
          rw [hone, setH_back gv.hrise hx, setH_back gu.hrise hxu]
          refine ⟨rfl, ?_⟩
          refine rising_extG (layV_rise (layV_rise r2)) h.rise fun p => ?_
          rw [layV_mem (layV_rise r2), layV_mem r2, layV_mem r1, layV_mem h.rise]
          simp only [setH_id, iu, iv]
          constructor
          · rintro (⟨(⟨(⟨(⟨hp, _⟩ | ⟨_, rfl⟩), _⟩ | ⟨_, rfl⟩), h2⟩ | ⟨_, rfl⟩), h3⟩ | ⟨_, rfl⟩)
            · exact hp
            · exact absurd iv h3
            · exact absurd iu h2
            · exact mu
            · exact mv
          · intro hp
            by_cases ha : p.id = a
            · exact .inr ⟨gv.there, h.rise.uniq hp mv (ha.trans iv.symm)⟩
            · refine .inl ⟨?_, ha⟩
              by_cases hb : p.id = b
              · exact .inr ⟨gu.there, h.rise.uniq hp mu (hb.trans iu.symm)⟩
              · exact .inl ⟨.inl ⟨.inl ⟨hp, ha⟩, hb⟩, hb⟩
/-- A property that is set, and set back. -/
theorem set_back {L : Gr} (h : Good L) {a key : Nat} {val : Val} {v : Vtx} (hv : findV L a = some v) (hk : val.k ≠ 0) :
    (oneG L ⟨3, a, 0, key, val⟩).e = 0 ∧ (oneG (oneG L ⟨3, a, 0, key, val⟩).g ⟨3, a, 0, key, propV v key⟩).e = 0 ∧ (oneG (oneG L ⟨3, a, 0, key, val⟩).g ⟨3, a, 0, key, propV v key⟩).g = L := by
  have hone : oneG L ⟨3, a, 0, key, val⟩ = ⟨0, layV (setP v key val) L, []⟩ := by
    unfold oneG
    simp only [Nat.reduceEqDiff, if_false, reduceCtorEq, if_true, hv]
  rw [hone]
  obtain ⟨mv, iv⟩ := findV_mem hv
  have gv := h.each v mv
  have r1 := layV_rise (x := setP v key val) h.rise
  have f1 : findV (layV (setP v key val) L) a = some (setP v key val) := by
    have := find_lay (x := setP v key val) h.rise gv.there
    rwa [setP_id, iv] at this
  have hone2 : oneG (layV (setP v key val) L) ⟨3, a, 0, key, propV v key⟩ = ⟨0, layV (setP (setP v key val) key (propV v key)) (layV (setP v key val) L), []⟩ := by
    unfold oneG
    simp only [Nat.reduceEqDiff, if_false, reduceCtorEq, if_true, f1]
  rw [hone2]
  have hd0 : decide (val.k = 0) = false := by simpa using hk
  have hback : setP (setP v key val) key (propV v key) = v := by
    unfold setP
    simp only [hd0]
    cases hp : entX v.props key with
    | none =>
      have e : propV v key = noVal := by unfold propV; rw [hp]; rfl
      have : layG Ent.key ⟨key, noVal⟩ true (layG Ent.key ⟨key, val⟩ false v.props) = v.props := lay_gone gv.prise rfl (entX_isNone.1 hp)
      rw [e, show decide (noVal.k = 0) = true from rfl, this]
    | some u =>
      have e : propV v key = u := by unfold propV; rw [hp]; rfl
      have hm := entX_mem hp
      have hu : decide (u.k = 0) = false := by simpa using (gv.props _ hm).2.2
      have : layG Ent.key ⟨key, u⟩ false (layG Ent.key ⟨key, val⟩ false v.props) = v.props := lay_back gv.prise rfl hm
      rw [e, hu, this]
  refine ⟨rfl, rfl, ?_⟩
  show layV (setP (setP v key val) key (propV v key)) (layV (setP v key val) L) = L
  rw [hback]
  unfold layV
  rw [gv.there, show (setP v key val).there = true from gv.there]
  exact lay_back h.rise rfl mv
/-- A vertex that comes and goes. -/
theorem add_back {L : Gr} (h : Good L) {a : Nat} (hv : findV L a = none) :
    (oneG L ⟨1, a, 0, 0, noVal⟩).e = 0 ∧ (oneG (oneG L ⟨1, a, 0, 0, noVal⟩).g ⟨2, a, 0, 0, noVal⟩).e = 0 ∧ (oneG (oneG L ⟨1, a, 0, 0, noVal⟩).g ⟨2, a, 0, 0, noVal⟩).g = L := by
  have hone : oneG L ⟨1, a, 0, 0, noVal⟩ = ⟨0, layV ⟨a, true, [], []⟩ L, []⟩ := by
    unfold oneG
    simp [hv]
  rw [hone]
  have f1 : findV (layV ⟨a, true, [], []⟩ L) a = some ⟨a, true, [], []⟩ := find_lay (x := ⟨a, true, [], []⟩) h.rise rfl
  have hone2 : oneG (layV ⟨a, true, [], []⟩ L) ⟨2, a, 0, 0, noVal⟩ = ⟨0, layV ⟨a, false, [], []⟩ (layV ⟨a, true, [], []⟩ L), []⟩ := by
    unfold oneG
    simp [f1]
  rw [hone2]
  refine ⟨rfl, rfl, ?_⟩
  exact lay_gone h.rise rfl (findV_none.1 hv)
/-! a transaction of one operation -/
theorem run_one (L : Gr) (o : Opr) : okRun L [o] = if (oneG L o).e = 0 then some ((oneG L o).g, (oneG L o).vals) else none := by
  unfold okRun okStep
  simp
end Go.Proofs.YtbgjbikpenefoaaGreatDoor
