/- gussetref12.Count counts the ghosts: plain. -/
import Derived.Test.YtdblilhkojafgaaG9
import Derived.Test.YtdblilhkojafgaaG4
namespace Go.Proofs.Ytdblilhkojafgaa
set_option linter.unusedVariables false
open Go.RowKit

theorem holdB_snoc (r : List Vs) (x : Vs) (k : Nat) : holdB (r ++ [x]) k = (holdB r k || x.x.id == k) := by simp [holdB, List.any_append]
theorem holdB_mem {l : List Vs} {k : Nat} : holdB l k = true ↔ ∃ s ∈ l, s.x.id = k := by simp [holdB, List.any_eq_true]
theorem heldL_snoc (l : List Vs) (x : Vs) : heldL (l ++ [x]) = (heldL l).filter (fun s => !(s.x.id == x.x.id)) ++ (if x.x.there then [x] else []) := by
  induction l with
  | nil => simp [heldL, holdB]
  | cons s r ih =>
    rw [List.cons_append]
    unfold heldL
    rw [holdB_snoc, ih]
    have h4 : (s.x.id == x.x.id) = (x.x.id == s.x.id) := by
      rw [Bool.eq_iff_iff]
      simp only [beq_iff_eq]
      exact ⟨Eq.symm, Eq.symm⟩
    cases h1 : s.x.there <;> cases h2 : holdB r s.x.id <;> cases h3 : x.x.id == s.x.id <;> simp [h4, h3]
theorem heldL_nodup (l : List Vs) : ((heldL l).map fun s => s.x.id).Nodup := by
  induction l using snoc_ind with
  | h0 => simp [heldL]
  | hs l x ih =>
    rw [heldL_snoc, List.map_append, List.nodup_append]
    refine ⟨ih.sublist ((List.filter_sublist).map _), ?_, ?_⟩
    · split <;> simp
    · intro a ha b hb
      obtain ⟨s, hs, rfl⟩ := List.mem_map.1 ha
      rw [List.mem_filter] at hs
      split at hb
      · simp at hb
        subst hb
        simpa using hs.2
      · simp at hb
theorem mem_turnAll (l : List Vs) (p : Nat × List Nat) : p ∈ turnAll l ↔ ∃ s ∈ heldL l, p = (s.x.id, keysS s) := by
  induction l using snoc_ind with
  | h0 => simp [turnAll, heldL]
  | hs l x ih =>
    rw [turnAll_snoc, heldL_snoc]
    unfold turnH
    have key : (p ∈ turnAll l ∧ p.1 ≠ x.x.id) ↔ ∃ s ∈ (heldL l).filter (fun s => !(s.x.id == x.x.id)), p = (s.x.id, keysS s) := by
      rw [ih]
      constructor
      · rintro ⟨⟨s, hs, rfl⟩, h⟩
        exact ⟨s, List.mem_filter.2 ⟨hs, by simpa using h⟩, rfl⟩
      · rintro ⟨s, hs, rfl⟩
        rw [List.mem_filter] at hs
        exact ⟨⟨s, hs.1, rfl⟩, by simpa using hs.2⟩
    cases ht : x.x.there with
    | true =>
      rw [if_pos rfl, mem_putG, if_pos rfl, key]
      constructor
      · rintro (rfl | ⟨s, hs, rfl⟩)
        · exact ⟨x, by simp, rfl⟩
        · exact ⟨s, by rw [List.mem_append]; exact .inl hs, rfl⟩
      · rintro ⟨s, hs, rfl⟩
        rcases List.mem_append.1 hs with hs | hs
        · exact .inr ⟨s, hs, rfl⟩
        · rw [List.mem_singleton] at hs; subst hs; exact .inl rfl
    | false =>
      rw [if_neg (by simp), mem_delG, if_neg (by simp), key]
      simp
theorem turnAll_ris (l : List Vs) : Ris (turnAll l) := by rw [turnAll_x]; exact turnX_ris _
theorem nodup_of_map {α β : Type} (f : α → β) {l : List α} (h : (l.map f).Nodup) : l.Nodup := (List.pairwise_map.1 h).imp (fun hne e => hne (congrArg f e))
theorem turnAll_perm (l : List Vs) : (turnAll l).Perm ((heldL l).map fun s => (s.x.id, keysS s)) := by
  have h1 : (turnAll l).Nodup := by
    have := (turnAll_ris l).nodup
    exact nodup_of_map _ this
  have h2 : ((heldL l).map fun s => (s.x.id, keysS s)).Nodup := by
    have := heldL_nodup l
    refine nodup_of_map (fun p : Nat × List Nat => p.1) ?_
    rw [List.map_map]
    exact this
  rw [List.perm_ext_iff_of_nodup h1 h2]
  intro p
  rw [mem_turnAll, List.mem_map]
  constructor
  · rintro ⟨s, hs, rfl⟩; exact ⟨s, hs, rfl⟩
  · rintro ⟨s, hs, rfl⟩; exact ⟨s, hs, rfl⟩
theorem tot_held (l : List Vs) (k : Nat) : tot (turnAll l) k = cntS (heldL l) k := by
  rw [tot_perm (turnAll_perm l)]
  unfold tot cntS
  rw [List.flatMap_map]
theorem get_held (l : List Vs) (k : Nat) : getG k (turnAll l) = none ↔ holdB (heldL l) k = false := by
  constructor
  · intro h
    cases hh : holdB (heldL l) k with
    | false => rfl
    | true =>
      obtain ⟨s, hs, rfl⟩ := holdB_mem.1 hh
      have := getG_of_mem (turnAll_ris l) ((mem_turnAll l _).2 ⟨s, hs, rfl⟩)
      rw [this] at h
      exact absurd h (by simp)
  · intro h
    cases hg : getG k (turnAll l) with
    | none => rfl
    | some b =>
      obtain ⟨s, hs, e⟩ := (mem_turnAll l _).1 (getG_mem hg)
      have : holdB (heldL l) k = true := holdB_mem.2 ⟨s, hs, by injection e with e1 e2; exact e1.symm⟩
      rw [this] at h
      exact absurd h (by simp)
theorem nmFold_mem (hl : List Vs) (p : Nat) : ∀ (t ns : List Nat), p ∈ t.foldl (nmStep hl) ns ↔ p ∈ ns ∨ (p ∈ t ∧ holdB hl p = false)
  | [], ns => by simp
  | k :: r, ns => by
    rw [List.foldl_cons, nmFold_mem hl p r]
    have : p ∈ nmStep hl ns k ↔ p ∈ ns ∨ (p = k ∧ holdB hl p = false) := by
      unfold nmStep
      split
      · rename_i h
        constructor
        · exact .inl
        · rintro (h2 | ⟨rfl, h2⟩)
          · exact h2
          · rw [h] at h2; exact absurd h2 (by simp)
      · rename_i h
        rw [insN_mem]
        constructor
        · rintro (rfl | h2)
          · exact .inr ⟨rfl, by simpa using h⟩
          · exact .inl h2
        · rintro (h2 | ⟨rfl, _⟩)
          · exact .inr h2
          · exact .inl rfl
    rw [this, List.mem_cons]
    constructor
    · rintro ((h | ⟨rfl, h⟩) | ⟨h, h2⟩)
      · exact .inl h
      · exact .inr ⟨.inl rfl, h⟩
      · exact .inr ⟨.inr h, h2⟩
    · rintro (h | ⟨rfl | h, h2⟩)
      · exact .inl (.inl h)
      · exact .inl (.inr ⟨rfl, h2⟩)
      · exact .inr ⟨h, h2⟩
theorem nmFold_rising (hl : List Vs) : ∀ (t ns : List Nat), ns.Pairwise (· < ·) → (t.foldl (nmStep hl) ns).Pairwise (· < ·)
  | [], ns, h => h
  | k :: r, ns, h => by
    rw [List.foldl_cons]
    refine nmFold_rising hl r _ ?_
    unfold nmStep
    split
    · exact h
    · exact insN_rising h
theorem nmAll_mem (hl t : List Vs) (p : Nat) : p ∈ nmAll hl t ↔ (∃ s ∈ t, p ∈ keysS s) ∧ holdB hl p = false := by
  induction t using snoc_ind with
  | h0 => simp [nmAll]
  | hs t s ih =>
    rw [nmAll_snoc, nmFold_mem, ih]
    constructor
    · rintro (⟨⟨u, hu, h1⟩, h2⟩ | ⟨h1, h2⟩)
      · exact ⟨⟨u, by simp [hu], h1⟩, h2⟩
      · exact ⟨⟨s, by simp, h1⟩, h2⟩
    · rintro ⟨⟨u, hu, h1⟩, h2⟩
      rcases List.mem_append.1 hu with hu | hu
      · exact .inl ⟨⟨u, hu, h1⟩, h2⟩
      · rw [List.mem_singleton] at hu; subst hu; exact .inr ⟨h1, h2⟩
theorem nmAll_rising (hl t : List Vs) : (nmAll hl t).Pairwise (· < ·) := by
  induction t using snoc_ind with
  | h0 => exact List.Pairwise.nil
  | hs t s ih => rw [nmAll_snoc]; exact nmFold_rising hl _ _ ih
theorem cntS_pos (hl : List Vs) (k : Nat) : 0 < cntS hl k ↔ ∃ s ∈ hl, k ∈ keysS s := by
  unfold cntS
  rw [List.count_pos_iff, List.mem_flatMap]
theorem refG_ghosts (l : List Vs) : GhostsOf (turnAll l) (refG (heldL l)) := by
  refine ⟨?_, fun k n => ?_⟩
  · unfold refG
    rw [List.pairwise_map]
    exact nmAll_rising _ _
  · unfold refG
    rw [List.mem_map, get_held, tot_held]
    constructor
    · rintro ⟨a, ha, e⟩
      injection e with e1 e2
      subst e1 e2
      obtain ⟨h1, h2⟩ := (nmAll_mem _ _ _).1 ha
      exact ⟨h2, (cntS_pos _ _).2 h1, rfl⟩
    · rintro ⟨h1, h2, rfl⟩
      exact ⟨k, (nmAll_mem _ _ _).2 ⟨(cntS_pos _ _).1 h2, h1⟩, rfl⟩
end Go.Proofs.Ytdblilhkojafgaa
