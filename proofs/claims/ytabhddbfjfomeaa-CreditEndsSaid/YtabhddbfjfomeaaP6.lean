/- The same with doubled messages: the plain law of what is still to be worked on. -/
import Derived.Test.YtabhddbfjfomeaaP5
namespace Go.Proofs.Ytabhddbfjfomeaa
set_option linter.unusedVariables false
open Go.Maps

structure EInv (bag : List Msg) (next : Nat) (gone : Bool) (D : DataW Unit) (L out : Int) : Prop where
  msgs : ∀ m ∈ bag, m.num < next ∧ m.depth ≤ 8 ∧ low m.depth ≤ m.credit
  nodup : (bag.map (·.num)).Nodup
  fresh : ∀ m ∈ bag, Maps.has D (noteKey 1 m.num) = false
  fresh2 : ∀ b : Nat, next ≤ b → b < 18446744073709551616 → Maps.has D (noteKey 1 b) = false
  sum : out = total bag + L
  L0 : gone = false → L = 0
  L1 : gone = true → 0 < L
  hi : out ≤ 1152921504606846976
  isMap : IsMap D

theorem EInv.Lnn {bag : List Msg} {next : Nat} {gone : Bool} {D : DataW Unit} {L out : Int} (h : EInv bag next gone D L out) : 0 ≤ L := by
  cases hg : gone
  · rw [h.L0 hg]; exact Int.le_refl _
  · exact Int.le_of_lt (h.L1 hg)
theorem EInv.start : EInv [⟨0, 1152921504606846976, 0⟩] 1 false (.map []) 0 1152921504606846976 :=
  ⟨by simp [low], by simp, fun _ _ => rfl, fun _ _ _ => rfl, by simp [total], fun _ => rfl, by simp, Int.le_refl _, isMap_empty⟩
theorem EInv.head {x : Msg} {rest : List Msg} {next : Nat} {gone : Bool} {D : DataW Unit} {L out : Int} (h : EInv (x :: rest) next gone D L out) : 4722366482 ≤ x.credit ∧ x.credit ≤ out ∧ x.depth ≤ 8 ∧ x.num < next ∧ low x.depth ≤ x.credit := by
  have h1 := h.msgs x (by simp)
  have h2 := low_pos (by omega : x.depth ≤ 12)
  have h3 := total_nonneg (bag := rest) (fun m hm => (h.msgs m (by simp [hm])).2)
  have h4 := h.sum
  rw [total_cons] at h4
  have h5 := h.Lnn
  refine ⟨by omega, by omega, h1.2.1, h1.1, h1.2.2⟩
theorem EInv.done {bag : List Msg} {next : Nat} {gone : Bool} {D : DataW Unit} {L out : Int} (h : EInv bag next gone D L out) : (out == 0) = (!gone && bag.length == 0) := by
  have h5 := h.Lnn
  have h4 := h.sum
  cases bag with
  | nil =>
    simp [total] at h4
    cases hg : gone
    · have := h.L0 hg; simp; omega
    · have := h.L1 hg; simp; omega
  | cons x r =>
    have := h.head
    simp; omega
theorem EInv.drop {x : Msg} {rest : List Msg} {next : Nat} {gone : Bool} {D : DataW Unit} {L out : Int} (h : EInv (x :: rest) next gone D L out) : EInv rest next true D (L + x.credit) out := by
  have h5 := h.Lnn
  have h6 := h.head
  refine ⟨fun m hm => h.msgs m (by simp [hm]), ?_, fun m hm => h.fresh m (by simp [hm]), h.fresh2, ?_, by simp, fun _ => by omega, h.hi, h.isMap⟩
  · have := h.nodup; simp only [List.map_cons, List.nodup_cons] at this; exact this.2
  · have := h.sum; rw [total_cons] at this; omega
theorem EInv.step {x : Msg} {rest : List Msg} {next : Nat} {gone : Bool} {D : DataW Unit} {L out S R : Int} {m : Nat} (h : EInv (x :: rest) next gone D L out) (hm : m ≤ 4) (hd : m = 0 ∨ x.depth < 8) (hS : S = x.credit / ((m : Int) + 1)) (hR : R = x.credit - S * m)
    (hn : next < 18446744073709551616) (hn : next + m < 18446744073709551616) :
    EInv (rest ++ kids next m S (x.depth + 1)) (next + m) gone (D.put (noteKey 1 x.num) (.agg [])) L (out - R) := by
  have h6 := h.head
  have h7 := h.nodup
  have h8 := h.sum
  rw [total_cons] at h8
  simp only [List.map_cons, List.nodup_cons] at h7
  have hS2 : S * m ≤ x.credit := by
    have : S * (m + 1) ≤ x.credit := by rw [hS]; exact Int.ediv_mul_le _ (by omega)
    have hS0 : 0 ≤ S := by rw [hS]; exact Int.ediv_nonneg (by omega) (by omega)
    rw [Int.mul_add] at this; omega
  have hput : ∀ b : Nat, b ≠ x.num → b < 18446744073709551616 → Maps.has (D.put (noteKey 1 x.num) (.agg [])) (noteKey 1 b) = Maps.has D (noteKey 1 b) := fun b hb hb2 => by
    refine has_put_other (fun e => hb ?_) _
    have := (noteKey_inj (by decide) (wf_u64 hb2) (by decide) (wf_u64 (by omega)) e).2
    omega
  refine ⟨?_, ?_, ?_, ?_, ?_, h.L0, h.L1, by have := h.hi; omega, h.isMap.put _ _⟩
  · intro y hy
    rcases List.mem_append.1 hy with hy | hy
    · have := h.msgs y (by simp [hy]); exact ⟨by omega, this.2⟩
    · obtain ⟨a, b, c, d⟩ := kids_mem hy
      have hm1 : m ≠ 0 := by omega
      refine ⟨by omega, by omega, ?_⟩
      rw [c, d, hS]
      exact low_div h6.2.2.2.2 (by omega) (by omega) (by omega)
  · rw [List.map_append]
    refine List.nodup_append.2 ⟨h7.2, kids_nodup _ _ _ _, ?_⟩
    intro a ha b hb
    obtain ⟨y, hy, rfl⟩ := List.mem_map.1 ha
    obtain ⟨z, hz, rfl⟩ := List.mem_map.1 hb
    have h1 := (h.msgs y (by simp [hy])).1
    have h2 := kids_mem hz
    omega
  · intro y hy
    rcases List.mem_append.1 hy with hy | hy
    · have h1 := (h.msgs y (by simp [hy])).1
      rw [hput _ (fun e => h7.1 (e ▸ List.mem_map_of_mem hy)) (by omega)]
      exact h.fresh y (by simp [hy])
    · have h2 := kids_mem hy
      rw [hput _ (by omega) (by omega)]
      exact h.fresh2 _ h2.1 (by omega)
  · intro b hb hb2
    rw [hput b (by omega) hb2]
    exact h.fresh2 b (by omega) hb2
  · rw [total_append, kids_total]; omega

theorem total_perm {a b : List Msg} (h : a.Perm b) : total a = total b := by
  induction h with
  | nil => rfl
  | cons x _ ih => rw [total_cons, total_cons, ih]
  | swap x y l => simp only [total_cons]; omega
  | trans _ _ h1 h2 => exact h1.trans h2
theorem EInv.perm {a b : List Msg} {next : Nat} {gone : Bool} {D : DataW Unit} {L out : Int} (h : EInv a next gone D L out) (p : a.Perm b) : EInv b next gone D L out :=
  ⟨fun m hm => h.msgs m (p.mem_iff.2 hm), ((p.map _).nodup_iff).1 h.nodup, fun m hm => h.fresh m (p.mem_iff.2 hm), h.fresh2, by rw [← total_perm p]; exact h.sum, h.L0, h.L1, h.hi, h.isMap⟩

/-- What is in the bag has been worked on, or is live; what is live is in the bag. -/
structure BInv (bag live : List Msg) (next : Nat) (isDone : Nat → Bool) (D : DataW Unit) (out : Int) : Prop where
  inv : EInv live next false D 0 out
  each : ∀ x ∈ bag, isDone x.num = true ∨ x ∈ live
  there : ∀ x ∈ live, x ∈ bag
  fresh : ∀ x ∈ live, isDone x.num = false
  lt : ∀ x ∈ bag, x.num < next
  old : ∀ a, isDone a = true → a < next ∧ Maps.has D (noteKey 1 a) = true
theorem BInv.start : BInv [⟨0, 1152921504606846976, 0⟩] [⟨0, 1152921504606846976, 0⟩] 1 (fun _ => false) (.map []) 1152921504606846976 :=
  ⟨EInv.start, fun x hx => Or.inr hx, fun x hx => hx, fun _ _ => rfl, by simp, by simp⟩
theorem BInv.copy {bag live : List Msg} {next : Nat} {isDone : Nat → Bool} {D : DataW Unit} {out : Int} (h : BInv bag live next isDone D out) {x : Msg} (hx : x ∈ bag) : BInv (bag ++ [x]) live next isDone D out :=
  ⟨h.inv, fun y hy => by
    rcases List.mem_append.1 hy with hy | hy
    · exact h.each y hy
    · rw [List.mem_singleton.1 hy]; exact h.each x hx,
   fun y hy => List.mem_append.2 (Or.inl (h.there y hy)), h.fresh, fun y hy => by
    rcases List.mem_append.1 hy with hy | hy
    · exact h.lt y hy
    · rw [List.mem_singleton.1 hy]; exact h.lt x hx, h.old⟩
theorem mem_cut {bag : List Msg} {k : Nat} {x y : Msg} (hk : bag[k]? = some x) (hy : y ∈ bag) (hne : y ≠ x) : y ∈ bag.take k ++ bag.drop (k + 1) := by
  obtain ⟨hlt, e⟩ := List.getElem?_eq_some_iff.1 hk
  have : bag = bag.take k ++ x :: bag.drop (k + 1) := by rw [← e, List.getElem_cons_drop, List.take_append_drop]
  rw [this] at hy
  rcases List.mem_append.1 hy with h | h
  · exact List.mem_append.2 (Or.inl h)
  · rcases List.mem_cons.1 h with h | h
    · exact absurd h hne
    · exact List.mem_append.2 (Or.inr h)
theorem mem_of_cut {bag : List Msg} {k : Nat} {y : Msg} (hy : y ∈ bag.take k ++ bag.drop (k + 1)) : y ∈ bag := by
  rcases List.mem_append.1 hy with h | h
  · exact List.mem_of_mem_take h
  · exact List.mem_of_mem_drop h
/-- A doubled word of one that has been worked on. -/
theorem BInv.again {bag live : List Msg} {next k : Nat} {isDone : Nat → Bool} {D : DataW Unit} {out : Int} {x : Msg} (h : BInv bag live next isDone D out) (hk : bag[k]? = some x) (hd : isDone x.num = true) : BInv (bag.take k ++ bag.drop (k + 1)) live next isDone D out :=
  ⟨h.inv, fun y hy => h.each y (mem_of_cut hy), fun y hy => mem_cut hk (h.there y hy) (fun e => by have := h.fresh y hy; rw [e, hd] at this; cases this), h.fresh, fun y hy => h.lt y (mem_of_cut hy), h.old⟩
theorem BInv.live {bag live : List Msg} {next k : Nat} {isDone : Nat → Bool} {D : DataW Unit} {out : Int} {x : Msg} (h : BInv bag live next isDone D out) (hk : bag[k]? = some x) (hd : isDone x.num = false) : ∃ rest, live.Perm (x :: rest) ∧ EInv (x :: rest) next false D 0 out := by
  have hx : x ∈ live := by
    rcases h.each x (List.mem_of_getElem? hk) with h1 | h1
    · rw [hd] at h1; cases h1
    · exact h1
  obtain ⟨l1, l2, e⟩ := List.append_of_mem hx
  have p : live.Perm (x :: (l1 ++ l2)) := by rw [e]; exact List.perm_middle
  exact ⟨_, p, h.inv.perm p⟩
/-- One that is worked on, and causes further ones. -/
theorem BInv.work {bag live rest : List Msg} {next k m : Nat} {isDone : Nat → Bool} {D : DataW Unit} {out S R : Int} {x : Msg} (h : BInv bag live next isDone D out) (hk : bag[k]? = some x) (hd : isDone x.num = false) (p : live.Perm (x :: rest))
    (hE : EInv (rest ++ kids next m S (x.depth + 1)) (next + m) false (D.put (noteKey 1 x.num) (.agg [])) 0 (out - R)) (hn : next + m < 18446744073709551616) :
    BInv (bag.take k ++ bag.drop (k + 1) ++ kids next m S (x.depth + 1)) (rest ++ kids next m S (x.depth + 1)) (next + m) (fun a => a == x.num || isDone a) (D.put (noteKey 1 x.num) (.agg [])) (out - R) := by
  have hnd := ((p.map (·.num)).nodup_iff).1 h.inv.nodup
  simp only [List.map_cons, List.nodup_cons] at hnd
  have hxn := h.lt x (List.mem_of_getElem? hk)
  refine ⟨hE, ?_, ?_, ?_, ?_, ?_⟩
  · intro y hy
    rcases List.mem_append.1 hy with hy | hy
    · rcases h.each y (mem_of_cut hy) with h1 | h1
      · exact Or.inl (by simp [h1])
      · rcases List.mem_cons.1 (p.mem_iff.1 h1) with h2 | h2
        · exact Or.inl (by simp [h2])
        · exact Or.inr (List.mem_append.2 (Or.inl h2))
    · exact Or.inr (List.mem_append.2 (Or.inr hy))
  · intro y hy
    rcases List.mem_append.1 hy with hy | hy
    · refine List.mem_append.2 (Or.inl (mem_cut hk (h.there y (p.mem_iff.2 (List.mem_cons_of_mem _ hy))) (fun e => hnd.1 (e ▸ List.mem_map_of_mem hy))))
    · exact List.mem_append.2 (Or.inr hy)
  · intro y hy
    rcases List.mem_append.1 hy with hy | hy
    · have h1 := h.fresh y (p.mem_iff.2 (List.mem_cons_of_mem _ hy))
      have h2 : y.num ≠ x.num := fun e => hnd.1 (e ▸ List.mem_map_of_mem hy)
      simp [h1, h2]
    · have h1 := kids_mem hy
      have h2 : isDone y.num = false := by
        cases e : isDone y.num with
        | false => rfl
        | true => have := (h.old _ e).1; omega
      have h3 : y.num ≠ x.num := by omega
      simp [h2, h3]
  · intro y hy
    rcases List.mem_append.1 hy with hy | hy
    · have := h.lt y (mem_of_cut hy); omega
    · have := kids_mem hy; omega
  · intro a ha
    have hm : IsMap D := h.inv.isMap
    simp only [Bool.or_eq_true, beq_iff_eq] at ha
    by_cases e : a = x.num
    · subst e
      exact ⟨by omega, has_put_same hm (noteLaw.key (note_key 1 x.num (by decide) (wf_u64 (by omega)))) _⟩
    · have h1 := h.old a (by rcases ha with h1 | h1; exact absurd h1 e; exact h1)
      refine ⟨by omega, ?_⟩
      rw [has_put_other (fun e2 => e ?_)]
      · exact h1.2
      · have := (noteKey_inj (by decide) (wf_u64 (by omega)) (by decide) (wf_u64 (by omega)) e2).2
        omega
theorem BInv.done {bag live : List Msg} {next : Nat} {isDone : Nat → Bool} {D : DataW Unit} {out : Int} (h : BInv bag live next isDone D out) : (out == 0) = !(bag.any fun x => !isDone x.num) := by
  have h1 := h.inv.done
  rw [h1]
  cases live with
  | nil =>
    have : bag.any (fun x => !isDone x.num) = false := by
      rw [List.any_eq_false]
      intro x hx
      rcases h.each x hx with h2 | h2
      · simp [h2]
      · simp at h2
    simp [this]
  | cons y r =>
    have : bag.any (fun x => !isDone x.num) = true := List.any_eq_true.2 ⟨y, h.there y (by simp), by simp [h.fresh y (by simp)]⟩
    simp [this]
end Go.Proofs.Ytabhddbfjfomeaa
