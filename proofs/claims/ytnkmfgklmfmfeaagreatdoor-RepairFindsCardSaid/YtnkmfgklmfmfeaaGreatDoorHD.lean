/- HD: what is needed of it (by shake.py). -/
import Derived.Test.YtnkmfgklmfmfeaaGreatDoorM33

/- HD, as far as the seat goes. -/
/- The plain laws of RepairTwice and RepairFinds. -/
namespace Go.Proofs.YtnkmfgklmfmfeaaGreatDoor
set_option linter.unusedVariables false
set_option linter.unusedSimpArgs false
open Go.RowKit
theorem look_sub {L : Gr} (hr : Rising Vtx.id L) {X : List Vtx} (hX : ∀ z ∈ X, z ∈ L) {y : Vtx} (hy : y ∈ X) : look X y.id = some y := by
  unfold look
  cases h : X.find? (fun x => x.id == y.id) with
  | none =>
    have := List.find?_eq_none.1 h y hy
    simp at this
  | some z =>
    have h1 := List.mem_of_find?_eq_some h
    have h2 : z.id = y.id := by simpa using List.find?_some h
    rw [hr.uniq (hX z h1) (hX y hy) h2]
theorem flatM_one {α β : Type} (key : α → Nat) {g : α → List β} : ∀ {l : List α} {x : α}, (l.map key).Nodup → x ∈ l → (∀ z ∈ l, key z ≠ key x → g z = []) → l.flatMap g = g x
  | [], x, _, h, _ => by simp at h
  | y :: r, x, hn, h, hz => by
    rw [List.map_cons, List.nodup_cons] at hn
    rw [List.flatMap_cons]
    rcases List.mem_cons.1 h with e | hr
    · subst e
      have : r.flatMap g = [] := by
        rw [List.flatMap_eq_nil_iff]
        intro z hzr
        exact hz z (by simp [hzr]) (fun e => hn.1 (by rw [← e]; exact List.mem_map_of_mem hzr))
      rw [this, List.append_nil]
    · have hne : key y ≠ key x := fun e => hn.1 (by rw [e]; exact List.mem_map_of_mem hr)
      rw [hz y (by simp) hne, List.nil_append]
      exact flatM_one key hn.2 hr (fun z hzr => hz z (by simp [hzr]))
theorem lay_len {α : Type} {key : α → Nat} {x : α} : ∀ {l : List α}, Rising key l → (∃ y ∈ l, key y = key x) → (layG key x false l).length ≤ l.length
  | [], _, ⟨y, hy, _⟩ => by simp at hy
  | z :: r, hr, ⟨y, hy, he⟩ => by
    have h2 := List.pairwise_cons.1 hr
    by_cases c1 : key z = key x
    · have := layG_length (key := key) (x := x) (t := r) (d := false)
      simp only [layG, c1, Nat.lt_irrefl, decide_false, Bool.and_false, Bool.or_false, Bool.false_eq_true, if_false, if_true, List.nil_append, List.length_cons]
      exact this
    · have hyr : y ∈ r := by
        rcases List.mem_cons.1 hy with e | e
        · subst e; exact absurd he c1
        · exact e
      have hzy := h2.1 y hyr
      have c2 : ¬ key x < key z := by omega
      have ih := lay_len h2.2 ⟨y, hyr, he⟩
      simp only [layG, c1, c2, decide_false, Bool.and_false, Bool.or_false, Bool.false_eq_true, if_false, List.nil_append, List.cons_append, List.length_cons]
      omega
theorem VGood.put {x : Vtx} (h : VGood x) {f : Nat} {v : Val} (hx : ∃ e ∈ x.halves, e.key = f) (hv : v.ok = true) : VGood (setH x f v true) := by
  obtain ⟨e0, he0, hk0⟩ := hx
  have h0 := h.halves e0 he0
  rw [hk0] at h0
  refine ⟨h.there, h.id, h.prise, Rising.lay h.hrise, h.props, fun e he => ?_, ?_⟩
  · rcases (setH_mem h.hrise).1 he with ⟨h1, _⟩ | ⟨_, rfl⟩
    · exact h.halves e h1
    · exact ⟨h0.1, h0.2.1, h0.2.2.1, hv⟩
  · have := lay_len (key := Ent.key) (x := (⟨f, v⟩ : Ent)) h.hrise ⟨e0, he0, hk0⟩
    exact Nat.le_trans this h.few
theorem flatM_two {α β : Type} (key : α → Nat) {g : α → List β} : ∀ {l : List α} {x y : α}, (l.map key).Nodup → x ∈ l → y ∈ l → key x ≠ key y → (∀ z ∈ l, key z ≠ key x → key z ≠ key y → g z = []) → (l.flatMap g).Perm (g x ++ g y)
  | [], x, y, _, h, _, _, _ => by simp at h
  | a :: r, x, y, hn, hx, hy, hne, hz => by
    have hn' := hn
    rw [List.map_cons, List.nodup_cons] at hn
    rw [List.flatMap_cons]
    have out : ∀ z ∈ r, key z ≠ key a := fun z hzr e => hn.1 (by rw [← e]; exact List.mem_map_of_mem hzr)
    rcases List.mem_cons.1 hx with e | hxr
    · subst e
      rcases List.mem_cons.1 hy with e | hyr
      · subst e; exact absurd rfl hne
      · rw [flatM_one key hn.2 hyr (fun z hzr hk => hz z (by simp [hzr]) (out z hzr) hk)]
    · rcases List.mem_cons.1 hy with e | hyr
      · subst e
        rw [flatM_one key hn.2 hxr (fun z hzr hk => hz z (by simp [hzr]) hk (out z hzr))]
        exact List.perm_append_comm
      · rw [hz a (by simp) (fun e => out x hxr e.symm) (fun e => out y hyr e.symm), List.nil_append]
        exact flatM_two key hn.2 hxr hyr hne (fun z hzr => hz z (by simp [hzr]))
theorem held_all (up : List Bool) : ∀ (ls : List Ls) (n : Nat), (∀ i, i < ls.length → up[n + i]? = some true) → (held up n ls).map (·.2.x) = (dat ls).flatten
  | [], n, _ => by simp [held, dat]
  | s :: r, n, h => by
    have h0 := h 0 (by simp)
    rw [Nat.add_zero] at h0
    have ih := held_all up r (n + 1) (fun i hi => by
      have := h (i + 1) (by simpa using hi)
      rwa [show n + (i + 1) = n + 1 + i by omega] at this)
    simp only [held, List.map_append, dat, List.map_cons, List.flatten_cons]
    rw [if_pos h0, List.map_map]
    congr 1
theorem Parted.ok' {L : Gr} (hr : Rising Vtx.id L) (hg : ∀ x ∈ L, VGood x) {ls : List Ls} (h : Parted L (dat ls)) : ls.any notOK = false := by
  rw [notOK_of, List.any_eq_false]
  intro l hl
  have hs := h.sub l hl
  rw [okX_rise none l (List.Pairwise.sublist hs hr) (fun x hx => ⟨(hg x (hs.subset hx)).there, (hg x (hs.subset hx)).isRight⟩) (fun _ _ => rfl)]
  simp
theorem halfR_zero {ps : List (Nat × Vs)} {all : Bool} {p : Nat × Vs} {h : Ent} (hz : judgeN ps p.2.x.id h all = 0) : halfR ps all p h = [] := by
  unfold halfR; rw [if_pos hz]
theorem halfR_some {ps : List (Nat × Vs)} {all : Bool} {p : Nat × Vs} {h : Ent} {k : Nat} (hz : judgeN ps p.2.x.id h all = k) (hk : k ≠ 0) : halfR ps all p h = [⟨k, p.1, p.2.x.id, h.key⟩] := by
  subst hz; unfold halfR; rw [if_neg hk]
/-- One vertex of a graph is laid anew. -/
def sub1 (v X : Vtx) (x : Vtx) : Vtx := if x.id = v.id then X else x
theorem sub1_id {v X : Vtx} (hX : X.id = v.id) (x : Vtx) : (sub1 v X x).id = x.id := by
  unfold sub1; split
  · rename_i h; rw [hX, h]
  · rfl
theorem sub1_rise {L : Gr} {v X : Vtx} (hX : X.id = v.id) (h : Rising Vtx.id L) : Rising Vtx.id (L.map (sub1 v X)) := by
  unfold Rising
  rw [List.pairwise_map]
  exact List.Pairwise.imp (fun {a b} hab => by rw [sub1_id hX, sub1_id hX]; exact hab) h
/-- One half that is another one, or isn't there. -/
structure Odd (L : Gr) (v u : Vtx) (c o : Val) : Prop where
  good : Good L
  mem : v ∈ L
  mem2 : u ∈ L
  here : (⟨u.id, c⟩ : Ent) ∈ v.halves
  back : (⟨v.id, c⟩ : Ent) ∈ u.halves
  ne : o ≠ c
  ok : o.ok = true
theorem Odd.of {L : Gr} (hL : Good L) {v : Vtx} (hv : v ∈ L) {h : Ent} (hh : h ∈ v.halves) {o : Val} (ho : o ≠ h.val) (hok : o.ok = true) : ∃ u, u.id = h.key ∧ Odd L v u h.val o := by
  obtain ⟨u, hu, hk, hm⟩ := hL.pair v hv h hh
  exact ⟨u, hk, hL, hv, hu, by rw [hk]; exact hh, hm, ho, hok⟩
abbrev oddL (L : Gr) (v u : Vtx) (o : Val) (b : Bool) : Gr := L.map (sub1 v (setH v u.id o b))
section
variable {L : Gr} {v u : Vtx} {c o : Val} {b : Bool}
theorem Odd.apart (h : Odd L v u c o) : u.id ≠ v.id := ((h.good.each v h.mem).halves _ h.here).2.2.1
theorem Odd.rise (h : Odd L v u c o) : Rising Vtx.id (oddL L v u o b) := sub1_rise rfl h.good.rise
theorem Odd.vgood (h : Odd L v u c o) : VGood (setH v u.id o b) := by
  cases b with
  | true => exact (h.good.each v h.mem).put ⟨_, h.here, rfl⟩ h.ok
  | false => exact (h.good.each v h.mem).cut _ _
theorem Odd.mem_iff (h : Odd L v u c o) {x : Vtx} : x ∈ oddL L v u o b ↔ (x ∈ L ∧ x.id ≠ v.id) ∨ x = setH v u.id o b := by
  rw [List.mem_map]
  constructor
  · rintro ⟨y, hy, rfl⟩
    unfold sub1
    split
    · exact .inr rfl
    · rename_i e; exact .inl ⟨hy, e⟩
  · rintro (⟨hx, hne⟩ | rfl)
    · exact ⟨x, hx, by unfold sub1; rw [if_neg hne]⟩
    · exact ⟨v, h.mem, by unfold sub1; rw [if_pos rfl]⟩
theorem Odd.each (h : Odd L v u c o) : ∀ x ∈ oddL L v u o b, VGood x := fun x hx => by
  rcases h.mem_iff.1 hx with ⟨h1, _⟩ | rfl
  · exact h.good.each x h1
  · exact h.vgood
theorem find_ent {l : List Ent} (hr : Rising Ent.key l) {k : Nat} {w : Val} (hm : (⟨k, w⟩ : Ent) ∈ l) : l.find? (fun e => e.key == k) = some ⟨k, w⟩ := find_self Ent.key l ⟨k, w⟩ (rise_nodup hr) hm
theorem Odd.judge (h : Odd L v u c o) {X : List Vtx} (hX : ∀ z, z ∈ X ↔ z ∈ oddL L v u o b) {x : Vtx} (hx : x ∈ oddL L v u o b) {e : Ent} (he : e ∈ x.halves) (all : Bool) :
    judgeX X x.id e all = if x.id = u.id ∧ e.key = v.id then (if b then 3 else 2) else if x.id = v.id ∧ e.key = u.id then 3 else 0 := by
  have hap := h.apart
  have look1 : ∀ {y : Vtx}, y ∈ oddL L v u o b → look X y.id = some y := fun {y} hy => look_sub (h.rise (b := b)) (fun z hz => (hX z).1 hz) ((hX y).2 hy)
  have rv := (h.good.each v h.mem).hrise
  rcases h.mem_iff.1 hx with ⟨hxL, hne⟩ | rfl
  · obtain ⟨y, hy, hk, hm⟩ := h.good.pair x hxL e he
    by_cases hyv : y.id = v.id
    · have hyv' := h.good.rise.uniq hy h.mem hyv
      subst hyv'
      have hl : look X e.key = some (setH y u.id o b) := by rw [← hk]; exact look1 (y := setH y u.id o b) (h.mem_iff.2 (.inr rfl))
      by_cases hxu : x.id = u.id
      · have hxu' := h.good.rise.uniq hxL h.mem2 hxu
        subst hxu'
        have hc := (h.good.each y h.mem).hrise.uniq hm h.here rfl
        injection hc with _ hc
        rw [if_pos ⟨rfl, hk.symm⟩]
        cases b with
        | true =>
          have hf := find_ent (h.vgood (b := true)).hrise ((setH_mem rv).2 (.inr ⟨rfl, rfl⟩))
          simp only [judgeX, hl, hf]
          rw [if_neg (by rw [hc]; exact h.ne)]
          rfl
        | false =>
          have hf : (setH y x.id o false).halves.find? (fun e => e.key == x.id) = none := by
            rw [List.find?_eq_none]
            intro z hz e'
            rcases (setH_mem rv).1 hz with ⟨_, h2⟩ | ⟨h2, _⟩
            · exact h2 (by simpa using e')
            · cases h2
          simp only [judgeX, hl, hf]
          rfl
      · have hf := find_ent (h.vgood (b := b)).hrise ((setH_mem rv).2 (.inl ⟨hm, hxu⟩))
        rw [if_neg (fun e' => hxu e'.1), if_neg (fun e' => hne e'.1)]
        simp only [judgeX, hl, hf, if_true]
    · have hl : look X e.key = some y := by rw [← hk]; exact look1 (h.mem_iff.2 (.inl ⟨hy, hyv⟩))
      have hf := find_ent (h.good.each y hy).hrise hm
      rw [if_neg (fun e' => hyv (hk.trans e'.2)), if_neg (fun e' => hne e'.1)]
      simp only [judgeX, hl, hf, if_true]
  · have hid : (setH v u.id o b).id = v.id := rfl
    rw [hid]
    rcases (setH_mem rv).1 he with ⟨h1, h2⟩ | ⟨hb, rfl⟩
    · obtain ⟨y, hy, hk, hm⟩ := h.good.pair v h.mem e h1
      have hyv : y.id ≠ v.id := by rw [hk]; exact ((h.good.each v h.mem).halves e h1).2.2.1
      have hl : look X e.key = some y := by rw [← hk]; exact look1 (h.mem_iff.2 (.inl ⟨hy, hyv⟩))
      have hf := find_ent (h.good.each y hy).hrise hm
      rw [if_neg (fun e' => hap e'.1.symm), if_neg (fun e' => h2 e'.2)]
      simp only [judgeX, hl, hf, if_true]
    · have hl : look X u.id = some u := look1 (h.mem_iff.2 (.inl ⟨h.mem2, hap⟩))
      have hf := find_ent (h.good.each u h.mem2).hrise h.back
      rw [if_neg (fun e' => hap e'.1.symm), if_pos ⟨rfl, rfl⟩]
      simp only [judgeX, hl, hf]
      rw [if_neg (fun e' => h.ne e'.symm)]
/-- What is told where a graph's vertices are parted by what is left of their numbers by 2, one half being odd. -/
structure OddAt (L : Gr) (v u : Vtx) (o : Val) (b : Bool) (ls : List Ls) : Prop where
  parted : Parted (oddL L v u o b) (dat ls)
  par : ∀ (i : Nat) (l : List Vtx), (dat ls)[i]? = some l → ∀ z ∈ l, z.id % 2 = i
theorem OddAt.node {ls : List Ls} (h : OddAt L v u o b ls) {up : List Bool} {p : Nat × Vs} (hp : p ∈ held up 0 ls) : p.1 = p.2.x.id % 2 := by
  obtain ⟨_, s, h1, _, h3⟩ := held_up up ls 0 p hp
  rw [Nat.sub_zero] at h1
  exact (h.par p.1 (s.l.map Vs.x) (by rw [dat, List.getElem?_map, h1]; rfl) _ (List.mem_map_of_mem h3)).symm
theorem Odd.told (h : Odd L v u c o) {ls : List Ls} (ha : OddAt L v u o b ls) {up : List Bool} (hu : ∀ i, i < ls.length → up[i]? = some true) (all : Bool) :
    (b = false → allR (held up 0 ls) all = [⟨2, u.id % 2, u.id, v.id⟩]) ∧ (b = true → (allR (held up 0 ls) all).Perm [⟨3, u.id % 2, u.id, v.id⟩, ⟨3, v.id % 2, v.id, u.id⟩]) := by
  have hap := h.apart
  have hall := held_all up ls 0 (fun i hi => by rw [Nat.zero_add]; exact hu i hi)
  have hX : ∀ z, z ∈ (held up 0 ls).map (·.2.x) ↔ z ∈ oddL L v u o b := fun z => by rw [hall]; exact ha.parted.perm.mem_iff
  have hnd : ((held up 0 ls).map fun p : Nat × Vs => p.2.x.id).Nodup := by
    have h1 : (((held up 0 ls).map (·.2.x)).map Vtx.id).Nodup := by rw [hall]; exact (ha.parted.perm.map Vtx.id).nodup_iff.2 (rise_nodup h.rise)
    rw [List.map_map] at h1
    exact h1
  have hin : ∀ p ∈ held up 0 ls, p.2.x ∈ oddL L v u o b := fun p hp => (hX _).1 (List.mem_map_of_mem (f := fun q : Nat × Vs => q.2.x) hp)
  have hj : ∀ p ∈ held up 0 ls, ∀ e ∈ p.2.x.halves, judgeN (held up 0 ls) p.2.x.id e all = if p.2.x.id = u.id ∧ e.key = v.id then (if b then 3 else 2) else if p.2.x.id = v.id ∧ e.key = u.id then 3 else 0 := fun p hp e he => by
    rw [judge_of]; exact h.judge hX (hin p hp) he all
  have hrep : ∀ p ∈ held up 0 ls, repOf (held up 0 ls) all p = p.2.x.halves.flatMap (halfR (held up 0 ls) all p) := fun p hp => by
    rw [repOf, pre_none hnd hp, List.nil_append]
  have hno : ∀ p ∈ held up 0 ls, p.2.x.id ≠ u.id → (p.2.x.id ≠ v.id ∨ b = false) → repOf (held up 0 ls) all p = [] := fun p hp h1 h2 => by
    rw [hrep p hp, List.flatMap_eq_nil_iff]
    intro e he
    refine halfR_zero ?_
    rw [hj p hp e he, if_neg (fun e' => h1 e'.1)]
    by_cases h3 : p.2.x.id = v.id ∧ e.key = u.id
    · exfalso
      rcases h2 with h2 | h2
      · exact h2 h3.1
      · subst h2
        rcases h.mem_iff.1 (hin p hp) with ⟨_, hne⟩ | hx
        · exact hne h3.1
        · rw [hx] at he
          rcases (setH_mem (h.good.each v h.mem).hrise).1 he with ⟨_, h4⟩ | ⟨h4, _⟩
          · exact h4 h3.2
          · cases h4
    · rw [if_neg h3]
  obtain ⟨pu, hpu, hpx⟩ : ∃ p ∈ held up 0 ls, p.2.x = u := by
    have := (hX u).2 (h.mem_iff.2 (.inl ⟨h.mem2, hap⟩))
    rw [List.mem_map] at this
    exact this
  obtain ⟨pv, hpv, hpy⟩ : ∃ p ∈ held up 0 ls, p.2.x = setH v u.id o b := by
    have := (hX _).2 (h.mem_iff.2 (.inr rfl))
    rw [List.mem_map] at this
    exact this
  have hU : repOf (held up 0 ls) all pu = [⟨if b then 3 else 2, u.id % 2, u.id, v.id⟩] := by
    rw [hrep pu hpu, flatM_one Ent.key (x := ⟨v.id, c⟩) (by rw [hpx]; exact rise_nodup (h.good.each u h.mem2).hrise) (by rw [hpx]; exact h.back) (fun z hz hk => by
      refine halfR_zero ?_
      rw [hj pu hpu z hz, if_neg (fun e' => hk e'.2), if_neg (fun e' => hap (by rw [← e'.1, hpx]))])]
    rw [halfR_some (k := if b then 3 else 2) (by rw [hj pu hpu _ (by rw [hpx]; exact h.back), if_pos ⟨by rw [hpx], rfl⟩]) (by cases b <;> simp), ha.node hpu, hpx]
  refine ⟨fun hb => ?_, fun hb => ?_⟩
  · have : allR (held up 0 ls) all = repOf (held up 0 ls) all pu := flatM_one (fun p : Nat × Vs => p.2.x.id) hnd hpu (fun z hz hk => hno z hz (fun e => hk (by rw [e, hpx])) (.inr hb))
    rw [this, hU, hb]
    rfl
  · have hV : repOf (held up 0 ls) all pv = [⟨3, v.id % 2, v.id, u.id⟩] := by
      have hme : (⟨u.id, o⟩ : Ent) ∈ pv.2.x.halves := by rw [hpy]; exact (setH_mem (h.good.each v h.mem).hrise).2 (.inr ⟨hb, rfl⟩)
      have hpi : pv.2.x.id = v.id := by rw [hpy]; rfl
      rw [hrep pv hpv, flatM_one Ent.key (x := ⟨u.id, o⟩) (by rw [hpy]; exact rise_nodup (h.vgood (b := b)).hrise) hme (fun z hz hk => by
        refine halfR_zero ?_
        rw [hj pv hpv z hz, if_neg (fun e' => hap (by rw [← e'.1, hpi])), if_neg (fun e' => hk e'.2)])]
      rw [halfR_some (k := 3) (by rw [hj pv hpv _ hme, if_neg (fun e' => hap (by rw [← e'.1, hpi])), if_pos ⟨hpi, rfl⟩]) (by decide), ha.node hpv, hpi]
    have hp := flatM_two (fun p : Nat × Vs => p.2.x.id) (g := repOf (held up 0 ls) all) hnd hpu hpv (by rw [hpx, hpy]; exact hap) (fun z hz h1 h2 => hno z hz (fun e => h1 (by rw [e, hpx])) (.inl (fun e => h2 (by rw [e, hpy]; rfl))))
    rw [hU, hV, hb] at hp
    exact hp
end
end Go.Proofs.YtnkmfgklmfmfeaaGreatDoor
