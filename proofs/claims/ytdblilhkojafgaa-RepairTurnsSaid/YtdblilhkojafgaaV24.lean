/- The plain law of RepairTurns: with no number twice the counts by kind don't hang on the turn. -/
import Derived.Test.YtdblilhkojafgaaV23
namespace Go.Proofs.Ytdblilhkojafgaa
set_option linter.unusedVariables false
open Go.RowKit

def okX : Option Nat → List Vtx → Bool
  | _, [] => true
  | p, x :: r => ((x.there && x.right) && above p x.id) && okX (some x.id) r
theorem okX_of : ∀ (p : Option Nat) (l : List Vs), listOK p l = okX p (l.map Vs.x)
  | _, [] => rfl
  | p, s :: r => by simp only [listOK, List.map_cons, okX, okX_of (some s.x.id) r]
theorem notOK_of (ls : List Ls) : ls.any notOK = (dat ls).any (fun l => !okX none l) := by
  rw [dat, List.any_map]
  congr 1
  funext s
  simp [notOK, okX_of]
def look (xs : List Vtx) (k : Nat) : Option Vtx := xs.find? fun x => x.id == k
theorem look_of (ps : List (Nat × Vs)) (k : Nat) : (seatF ps k).map (·.2.x) = look (ps.map (·.2.x)) k := by
  rw [look, List.find?_map, seatF]
  rfl
def judgeX (xs : List Vtx) (id : Nat) (h : Ent) (all : Bool) : Nat :=
  match look xs h.key with
  | none => if all then 2 else 4
  | some p => match p.halves.find? (fun e => e.key == id) with
    | none => 2
    | some e => if e.val = h.val then 0 else 3
theorem judge_of (ps : List (Nat × Vs)) (id : Nat) (h : Ent) (all : Bool) : judgeN ps id h all = judgeX (ps.map (·.2.x)) id h all := by
  unfold judgeN judgeX
  rw [← look_of]
  cases seatF ps h.key <;> rfl
theorem find_self {α : Type} (f : α → Nat) : ∀ (l : List α) (x : α), (l.map f).Nodup → x ∈ l → l.find? (fun y => f y == f x) = some x
  | [], x, _, h => by simp at h
  | y :: r, x, hn, h => by
    rw [List.map_cons, List.nodup_cons] at hn
    rcases List.mem_cons.1 h with rfl | h
    · simp
    · have hne : f y ≠ f x := fun e => hn.1 (by rw [e]; exact List.mem_map_of_mem h)
      rw [List.find?_cons_of_neg (by simpa using hne)]
      exact find_self f r x hn.2 h
theorem pre_none {ps : List (Nat × Vs)} (hn : (ps.map (·.2.x.id)).Nodup) {p : Nat × Vs} (hp : p ∈ ps) : preR ps p = [] := by
  have := find_self (fun q : Nat × Vs => q.2.x.id) ps p hn hp
  simp only [preR, seatF, this, Option.map_some, if_true]
def kindX (xs : List Vtx) (all : Bool) (x : Vtx) : List Nat := x.halves.flatMap fun h => if judgeX xs x.id h all = 0 then [] else [judgeX xs x.id h all]
def kinds (xs : List Vtx) (all : Bool) : List Nat := xs.flatMap (kindX xs all)
theorem map_flat {α β γ : Type} (f : β → γ) (g : α → List β) : ∀ l : List α, (l.flatMap g).map f = l.flatMap fun x => (g x).map f
  | [] => rfl
  | x :: r => by simp [map_flat f g r]
theorem flat_congr {α β : Type} {f g : α → List β} : ∀ {l : List α}, (∀ x ∈ l, f x = g x) → l.flatMap f = l.flatMap g
  | [], _ => rfl
  | x :: r, h => by rw [List.flatMap_cons, List.flatMap_cons, h x (by simp), flat_congr (fun y hy => h y (by simp [hy]))]
theorem kinds_of {ps : List (Nat × Vs)} (hn : (ps.map (·.2.x.id)).Nodup) (all : Bool) : (allR ps all).map (·.kind) = kinds (ps.map (·.2.x)) all := by
  rw [allR, map_flat, kinds, List.flatMap_map]
  apply flat_congr
  intro p hp
  rw [repOf, pre_none hn hp, List.nil_append, map_flat, kindX]
  apply flat_congr
  intro h _
  rw [halfR, judge_of]
  split <;> simp
theorem mem_of_find {α : Type} {p : α → Bool} {l : List α} {x : α} (h : l.find? p = some x) : x ∈ l ∧ p x = true := ⟨List.mem_of_find?_eq_some h, List.find?_some h⟩
theorem look_perm {xs ys : List Vtx} (h : xs.Perm ys) (hn : (xs.map Vtx.id).Nodup) (k : Nat) : look xs k = look ys k := by
  have hn' : (ys.map Vtx.id).Nodup := (h.map Vtx.id).nodup_iff.1 hn
  cases hx : look xs k with
  | some x =>
    obtain ⟨h1, h2⟩ := mem_of_find hx
    have := find_self Vtx.id ys x hn' (h.mem_iff.1 h1)
    rw [show x.id = k by simpa using h2] at this
    exact this.symm
  | none =>
    cases hy : look ys k with
    | none => rfl
    | some y =>
      obtain ⟨h1, h2⟩ := mem_of_find hy
      have := List.find?_eq_none.1 hx y (h.mem_iff.2 h1)
      exact absurd h2 this
theorem kinds_perm {xs ys : List Vtx} (h : xs.Perm ys) (hn : (xs.map Vtx.id).Nodup) (all : Bool) : (kinds xs all).Perm (kinds ys all) := by
  have e : kindX xs all = kindX ys all := by
    funext x
    unfold kindX
    congr 1
    funext g
    have : judgeX xs x.id g all = judgeX ys x.id g all := by unfold judgeX; rw [look_perm h hn]
    rw [this]
  unfold kinds
  rw [e]
  exact h.flatMap_right _
/-- What is held, by the pairs of flag and list. -/
def heldX (P : List (Bool × List Vtx)) : List Vtx := P.flatMap fun p => if p.1 then p.2 else []
theorem held_of : ∀ (P : List (Bool × List Vtx)) (ls : List Ls) (pre : List Bool), dat ls = P.map Prod.snd → (held (pre ++ P.map Prod.fst) pre.length ls).map (·.2.x) = heldX P
  | [], [], pre, _ => rfl
  | [], s :: r, pre, h => by simp [dat] at h
  | p :: P, [], pre, h => by simp [dat] at h
  | p :: P, s :: r, pre, h => by
    simp only [dat, List.map_cons, List.cons.injEq] at h
    have ih := held_of P r (pre ++ [p.1]) h.2
    simp only [List.append_assoc, List.singleton_append, List.length_append, List.length_singleton] at ih
    simp only [held, List.map_cons, List.map_append, ih, heldX, List.flatMap_cons]
    congr 1
    have hp : (pre ++ p.1 :: P.map Prod.fst)[pre.length]? = some p.1 := by simp
    rw [hp]
    cases hb : p.1 with
    | false => simp
    | true => simp [List.map_map, Function.comp_def, ← h.1]
theorem held_of0 {P : List (Bool × List Vtx)} {ls : List Ls} (h : dat ls = P.map Prod.snd) : (held (P.map Prod.fst) 0 ls).map (·.2.x) = heldX P := held_of P ls [] h
def cntK (l : List Rep) (j : Nat) : Nat := l.countP fun r => r.kind % 5 == j
theorem cntK_of (l : List Rep) (j : Nat) : cntK l j = (l.map (·.kind)).countP (fun k => k % 5 == j) := by
  rw [cntK, List.countP_map]; rfl
theorem heldX_sub (P : List (Bool × List Vtx)) : (heldX P).Sublist (P.map Prod.snd).flatten := by
  induction P with
  | nil => exact List.Sublist.refl _
  | cons p r ih =>
    simp only [heldX, List.flatMap_cons, List.map_cons, List.flatten_cons]
    refine List.Sublist.append ?_ ih
    split
    · exact List.Sublist.refl _
    · exact List.nil_sublist _
theorem any_perm {α : Type} {l m : List α} (h : l.Perm m) (p : α → Bool) : l.any p = m.any p := by
  rw [Bool.eq_iff_iff, List.any_eq_true, List.any_eq_true]
  exact ⟨fun ⟨x, hx, hp⟩ => ⟨x, h.mem_iff.1 hx, hp⟩, fun ⟨x, hx, hp⟩ => ⟨x, h.mem_iff.2 hx, hp⟩⟩
/-- What Compare answers: a code, the reports. -/
def cmpR (ls : List Ls) (up : List Bool) : Nat × List Rep := if ls.any notOK then (3, []) else (0, allR (held up 0 ls) (!up.any (!·)))
theorem turn_law {P Q : List (Bool × List Vtx)} (h : P.Perm Q) {ls1 ls2 : List Ls} (h1 : dat ls1 = P.map Prod.snd) (h2 : dat ls2 = Q.map Prod.snd) (nd : ((P.map Prod.snd).flatten.map Vtx.id).Nodup) :
    (cmpR ls1 (P.map Prod.fst)).1 = (cmpR ls2 (Q.map Prod.fst)).1 ∧ ∀ j, cntK (cmpR ls1 (P.map Prod.fst)).2 j = cntK (cmpR ls2 (Q.map Prod.fst)).2 j := by
  have e1 : ls1.any notOK = ls2.any notOK := by
    rw [notOK_of, notOK_of, h1, h2]
    exact any_perm (h.map _) _
  have e2 : (P.map Prod.fst).any (!·) = (Q.map Prod.fst).any (!·) := any_perm (h.map _) _
  unfold cmpR
  rw [e1]
  cases ls2.any notOK with
  | true => simp
  | false =>
    simp only [Bool.false_eq_true, if_false, true_and]
    intro j
    have hP : (heldX P).Perm (heldX Q) := h.flatMap_right _
    have n1 : ((heldX P).map Vtx.id).Nodup := ((heldX_sub P).map Vtx.id).nodup nd
    have n2 : ((heldX Q).map Vtx.id).Nodup := (hP.map Vtx.id).nodup_iff.1 n1
    have m1 : ((held (P.map Prod.fst) 0 ls1).map (·.2.x.id)).Nodup := by
      rw [← held_of0 h1, List.map_map] at n1; exact n1
    have m2 : ((held (Q.map Prod.fst) 0 ls2).map (·.2.x.id)).Nodup := by
      rw [← held_of0 h2, List.map_map] at n2; exact n2
    rw [cntK_of, cntK_of, kinds_of m1, kinds_of m2, held_of0 h1, held_of0 h2, e2]
    exact (kinds_perm hP n1 _).countP_eq _
theorem held_len (up : List Bool) : ∀ (ls : List Ls) (n m : Nat), (∀ s ∈ ls, s.l.length ≤ m) → (held up n ls).length ≤ m * ls.length
  | [], n, m, _ => by simp [held]
  | s :: r, n, m, h => by
    have ih := held_len up r (n + 1) m (fun t ht => h t (by simp [ht]))
    have hs := h s (by simp)
    simp only [held, List.length_append, List.length_cons, Nat.mul_add, Nat.mul_one]
    have : (if up[n]? = some true then s.l.map (fun x => (n, x)) else []).length ≤ m := by split <;> simp [hs]
    omega
theorem flat_len {α β : Type} (g : α → List β) : ∀ (l : List α) (m : Nat), (∀ x ∈ l, (g x).length ≤ m) → (l.flatMap g).length ≤ m * l.length
  | [], m, _ => by simp
  | x :: r, m, h => by
    have ih := flat_len g r m (fun y hy => h y (by simp [hy]))
    have hx := h x (by simp)
    simp only [List.flatMap_cons, List.length_append, List.length_cons, Nat.mul_add, Nat.mul_one]
    omega
theorem allR_len (ps : List (Nat × Vs)) (all : Bool) (m : Nat) (h : ∀ p ∈ ps, p.2.x.halves.length ≤ m) : (allR ps all).length ≤ (m + 1) * ps.length := by
  refine flat_len _ ps (m + 1) (fun p hp => ?_)
  have h1 : (p.2.x.halves.flatMap (halfR ps all p)).length ≤ 1 * p.2.x.halves.length := flat_len _ _ 1 (fun e _ => by unfold halfR; split <;> simp)
  have h2 : (preR ps p).length ≤ 1 := by unfold preR; split <;> simp
  have h3 := h p hp
  simp only [repOf, List.length_append]
  omega
/-- Small lists. -/
def Small (d : List (List Vtx)) : Prop := ∀ l ∈ d, l.length ≤ 20 ∧ ∀ x ∈ l, x.halves.length ≤ 60
theorem cmpR_len {ls : List Ls} {up : List Bool} (h : Small (dat ls)) (h4 : ls.length ≤ 4) : (held up 0 ls).length ≤ 80 ∧ (allR (held up 0 ls) (!up.any (!·))).length ≤ 4880 ∧ ∀ s ∈ ls, s.l.length ≤ 20 := by
  have hs : ∀ s ∈ ls, s.l.length ≤ 20 := fun s hs => by
    have := (h (s.l.map Vs.x) (List.mem_map_of_mem hs)).1
    simpa using this
  have h1 := held_len up ls 0 20 hs
  have h2 := allR_len (held up 0 ls) (!up.any (!·)) 60 (fun p hp => by
    obtain ⟨s, hs, hm⟩ := held_mem up ls 0 p hp
    exact (h (s.l.map Vs.x) (List.mem_map_of_mem hs)).2 _ (List.mem_map_of_mem hm))
  exact ⟨by omega, by omega, hs⟩
theorem compare_all (v vu : Value) (ls : List Ls) (up : List Bool) (w : World) (hv : LLRd w v ls) (hu : FRd w vu up) (hl : up.length = ls.length) (h4 : ls.length ≤ 4) (hs : Small (dat ls)) :
    Calls Try.prog 11 #[v, vu] w fun e w' => ∃ vo, e = .returned (.tuple #[vo, .int .i64 ((cmpR ls up).1 : Int)]) ∧ Mod (fun _ => False) w w' ∧ RdS w' 4 vo (cmpR ls up).2.length (rcells (cmpR ls up).2) ∧ (cmpR ls up).2.length ≤ 4880 := by
  obtain ⟨b1, b2, b3⟩ := cmpR_len (up := up) hs h4
  cases hk : ls.any notOK with
  | true =>
    simp only [cmpR, hk, if_true]
    refine (compare_bad v vu ls up w hv hu hl h4 (fun s hs => by have := b3 s hs; omega) hk).mono ?_
    rintro e w' ⟨rfl, hm⟩
    exact ⟨_, rfl, hm, (Seg.nil w' 39 4).rdS, Nat.zero_le _⟩
  | false =>
    simp only [cmpR, hk, Bool.false_eq_true, if_false]
    refine (compare_good v vu ls up w hv hu hl h4 (fun s hs => by have := b3 s hs; omega) hk (by unfold maxLen; omega) (by omega)).mono ?_
    rintro e w' ⟨vo, rfl, ht⟩
    exact ⟨vo, rfl, ht.mod, ht.out.rdS, b2⟩
end Go.Proofs.Ytdblilhkojafgaa
