/- HD: what is needed of it (by shake.py). -/
import Derived.Test.YtnkmfgklmfmfeaaGreatDoorM34

/- HD, as far as the seat goes. -/
/- The plain laws of RepairTwice and RepairFinds. -/
namespace Go.Proofs.YtnkmfgklmfmfeaaGreatDoor
set_option linter.unusedVariables false
set_option linter.unusedSimpArgs false
open Go.RowKit
theorem look_sub {L : Gr} (hr : Rising Vtx.id L) {X : List Vtx} (hX : ∀ z ∈ X, z ∈ L) {y : Vtx} (hy : y ∈ X) : look X y.id = some y := by
  unfold look
  cases h : X.find? (fun x => x.id == y.id) with
  | none =>
    have := List.find?_eq_none.1 h y hy
    simp at this
  | some z =>
    have h1 := List.mem_of_find?_eq_some h
    have h2 : z.id = y.id := by simpa using List.find?_some h
    rw [hr.uniq (hX z h1) (hX y hy) h2]
theorem judge_zero {L : Gr} (hL : Good L) {X : List Vtx} (hX : ∀ z ∈ X, z ∈ L) (hA : ∀ z ∈ L, z ∈ X) {x : Vtx} (hx : x ∈ L) {h : Ent} (hh : h ∈ x.halves) (all : Bool) : judgeX X x.id h all = 0 := by
  obtain ⟨y, hy, hk, hm⟩ := hL.pair x hx h hh
  have h1 : look X h.key = some y := by rw [← hk]; exact look_sub hL.rise hX (hA y hy)
  have h2 : y.halves.find? (fun e => e.key == x.id) = some ⟨x.id, h.val⟩ := find_self Ent.key y.halves ⟨x.id, h.val⟩ (rise_nodup (hL.each y hy).hrise) hm
  simp only [judgeX, h1, h2, if_true]
theorem halves_none {L : Gr} (hL : Good L) {ps : List (Nat × Vs)} (hX : ∀ z ∈ ps.map (·.2.x), z ∈ L) (hA : ∀ z ∈ L, z ∈ ps.map (·.2.x)) {p : Nat × Vs} (hp : p.2.x ∈ L) (all : Bool) : p.2.x.halves.flatMap (halfR ps all p) = [] := by
  rw [List.flatMap_eq_nil_iff]
  intro h hh
  unfold halfR
  rw [judge_of, judge_zero hL hX hA hp hh all, if_pos rfl]
theorem seat_front {A : List Vs} {x : Nat} {r : List (Nat × Vs)} {u : Vs} (hu : u ∈ A) : (seatF (A.map (fun s => (x, s)) ++ r) u.x.id).map (·.1) = some x := by
  unfold seatF
  rw [List.find?_append]
  cases h : (A.map (fun s => (x, s))).find? (fun p => p.2.x.id == u.x.id) with
  | none =>
    have := List.find?_eq_none.1 h (x, u) (List.mem_map_of_mem hu)
    simp at this
  | some p =>
    have h1 := List.mem_of_find?_eq_some h
    rw [List.mem_map] at h1
    obtain ⟨s, _, rfl⟩ := h1
    rfl
theorem twice_front {L : Gr} (hL : Good L) {A : List Vs} {v' : Vs} {x y : Nat} (hA : A.map Vs.x = L) (hv : v'.x ∈ L) (hne : x ≠ y) (all : Bool) : allR (A.map (fun s => (x, s)) ++ [(y, v')]) all = [⟨1, y, v'.x.id, 0⟩] := by
  have hX : (A.map (fun s => (x, s)) ++ [(y, v')]).map (·.2.x) = L ++ [v'.x] := by
    rw [List.map_append, List.map_map, ← hA]; rfl
  have h1 : ∀ z ∈ (A.map (fun s => (x, s)) ++ [(y, v')]).map (·.2.x), z ∈ L := fun z hz => by
    rw [hX, List.mem_append, List.mem_singleton] at hz
    rcases hz with h | h
    · exact h
    · rw [h]; exact hv
  have h2 : ∀ z ∈ L, z ∈ (A.map (fun s => (x, s)) ++ [(y, v')]).map (·.2.x) := fun z hz => by rw [hX]; simp [hz]
  have e1 : (A.map (fun s => (x, s))).flatMap (repOf (A.map (fun s => (x, s)) ++ [(y, v')]) all) = [] := by
    rw [List.flatMap_eq_nil_iff]
    intro p hp
    rw [List.mem_map] at hp
    obtain ⟨s, hs, rfl⟩ := hp
    have hm : s.x ∈ L := by rw [← hA]; exact List.mem_map_of_mem hs
    rw [repOf, halves_none hL h1 h2 hm all, List.append_nil, preR, if_pos (seat_front hs)]
  obtain ⟨u, hu, hux⟩ : ∃ u ∈ A, u.x = v'.x := by rw [← hA, List.mem_map] at hv; exact hv
  have e2 : (seatF (A.map (fun s => (x, s)) ++ [(y, v')]) v'.x.id).map (·.1) = some x := by rw [← hux]; exact seat_front hu
  rw [allR, List.flatMap_append, e1, List.nil_append, List.flatMap_cons, List.flatMap_nil, List.append_nil, repOf, halves_none hL h1 h2 hv all, List.append_nil, preR, e2, if_neg (by simpa using hne)]
theorem flatM_one {α β : Type} (key : α → Nat) {g : α → List β} : ∀ {l : List α} {x : α}, (l.map key).Nodup → x ∈ l → (∀ z ∈ l, key z ≠ key x → g z = []) → l.flatMap g = g x
  | [], x, _, h, _ => by simp at h
  | y :: r, x, hn, h, hz => by
    rw [List.map_cons, List.nodup_cons] at hn
    rw [List.flatMap_cons]
    rcases List.mem_cons.1 h with e | hr
    · subst e
      have : r.flatMap g = [] := by
        rw [List.flatMap_eq_nil_iff]
        intro z hzr
        exact hz z (by simp [hzr]) (fun e => hn.1 (by rw [← e]; exact List.mem_map_of_mem hzr))
      rw [this, List.append_nil]
    · have hne : key y ≠ key x := fun e => hn.1 (by rw [e]; exact List.mem_map_of_mem hr)
      rw [hz y (by simp) hne, List.nil_append]
      exact flatM_one key hn.2 hr (fun z hzr => hz z (by simp [hzr]))
theorem twice_back {L : Gr} (hL : Good L) {A : List Vs} {v' : Vs} {x y : Nat} (hA : A.map Vs.x = L) (hv : v'.x ∈ L) (hne : x ≠ y) (all : Bool) : allR ((y, v') :: A.map (fun s => (x, s))) all = [⟨1, x, v'.x.id, 0⟩] := by
  have hX : ((y, v') :: A.map (fun s => (x, s))).map (·.2.x) = v'.x :: L := by
    rw [List.map_cons, List.map_map, ← hA]; rfl
  have h1 : ∀ z ∈ ((y, v') :: A.map (fun s => (x, s))).map (·.2.x), z ∈ L := fun z hz => by
    rw [hX, List.mem_cons] at hz
    rcases hz with h | h
    · rw [h]; exact hv
    · exact h
  have h2 : ∀ z ∈ L, z ∈ ((y, v') :: A.map (fun s => (x, s))).map (·.2.x) := fun z hz => by rw [hX]; simp [hz]
  obtain ⟨u, hu, hux⟩ : ∃ u ∈ A, u.x = v'.x := by rw [← hA, List.mem_map] at hv; exact hv
  have e0 : repOf ((y, v') :: A.map (fun s => (x, s))) all (y, v') = [] := by
    rw [repOf, halves_none hL h1 h2 hv all, List.append_nil, preR, if_pos (by simp [seatF])]
  have e1 : ∀ s ∈ A, s.x.id ≠ u.x.id → repOf ((y, v') :: A.map (fun s => (x, s))) all (x, s) = [] := fun s hs hne' => by
    have hm : s.x ∈ L := by rw [← hA]; exact List.mem_map_of_mem hs
    rw [repOf, halves_none hL h1 h2 (p := (x, s)) hm all, List.append_nil, preR, if_pos]
    have hb : ¬ (v'.x.id == s.x.id) = true := by rw [← hux]; simpa using fun e => hne' e.symm
    have h := seat_front (x := x) (r := []) hs
    rw [List.append_nil] at h
    simp only [seatF] at h ⊢
    have hf : List.find? (fun p : Nat × Vs => p.2.x.id == s.x.id) ((y, v') :: A.map (fun s => (x, s))) = List.find? (fun p : Nat × Vs => p.2.x.id == s.x.id) (A.map (fun s => (x, s))) := List.find?_cons_of_neg hb
    rw [hf]
    exact h
  have hn : ((A.map fun s => (x, s)).map fun p : Nat × Vs => p.2.x.id).Nodup := by
    rw [List.map_map]
    have := rise_nodup hL.rise
    rw [← hA, List.map_map] at this
    exact this
  have e2 : (A.map (fun s => (x, s))).flatMap (repOf ((y, v') :: A.map (fun s => (x, s))) all) = repOf ((y, v') :: A.map (fun s => (x, s))) all (x, u) :=
    flatM_one (fun p : Nat × Vs => p.2.x.id) hn (List.mem_map_of_mem hu) (fun z hz hk => by
      rw [List.mem_map] at hz
      obtain ⟨s, hs, rfl⟩ := hz
      exact e1 s hs hk)
  have hum : u.x ∈ L := by rw [hux]; exact hv
  rw [allR, List.flatMap_cons, e0, List.nil_append, e2, repOf, halves_none hL h1 h2 (p := (x, u)) hum all, List.append_nil, preR, if_neg, hux]
  have hf : List.find? (fun p : Nat × Vs => p.2.x.id == u.x.id) ((y, v') :: A.map (fun s => (x, s))) = some (y, v') := List.find?_cons_of_pos (by simp [hux])
  simp only [seatF]
  rw [hf]
  simp
  exact fun e => hne e.symm
theorem lay_len {α : Type} {key : α → Nat} {x : α} : ∀ {l : List α}, Rising key l → (∃ y ∈ l, key y = key x) → (layG key x false l).length ≤ l.length
  | [], _, ⟨y, hy, _⟩ => by simp at hy
  | z :: r, hr, ⟨y, hy, he⟩ => by
    have h2 := List.pairwise_cons.1 hr
    by_cases c1 : key z = key x
    · have := layG_length (key := key) (x := x) (t := r) (d := false)
      simp only [layG, c1, Nat.lt_irrefl, decide_false, Bool.and_false, Bool.or_false, Bool.false_eq_true, if_false, if_true, List.nil_append, List.length_cons]
      exact this
    · have hyr : y ∈ r := by
        rcases List.mem_cons.1 hy with e | e
        · subst e; exact absurd he c1
        · exact e
      have hzy := h2.1 y hyr
      have c2 : ¬ key x < key z := by omega
      have ih := lay_len h2.2 ⟨y, hyr, he⟩
      simp only [layG, c1, c2, decide_false, Bool.and_false, Bool.or_false, Bool.false_eq_true, if_false, List.nil_append, List.cons_append, List.length_cons]
      omega
theorem VGood.put {x : Vtx} (h : VGood x) {f : Nat} {v : Val} (hx : ∃ e ∈ x.halves, e.key = f) (hv : v.ok = true) : VGood (setH x f v true) := by
  obtain ⟨e0, he0, hk0⟩ := hx
  have h0 := h.halves e0 he0
  rw [hk0] at h0
  refine ⟨h.there, h.id, h.prise, Rising.lay h.hrise, h.props, fun e he => ?_, ?_⟩
  · rcases (setH_mem h.hrise).1 he with ⟨h1, _⟩ | ⟨_, rfl⟩
    · exact h.halves e h1
    · exact ⟨h0.1, h0.2.1, h0.2.2.1, hv⟩
  · have := lay_len (key := Ent.key) (x := (⟨f, v⟩ : Ent)) h.hrise ⟨e0, he0, hk0⟩
    exact Nat.le_trans this h.few
section
variable {L : Gr} {v u : Vtx} {c o : Val} {b : Bool}
end
/-- A graph's vertices in one list, one of them in another one too. -/
def twParts (x y k : Nat) (M : List Vtx) : List (List Vtx) := ((List.replicate 4 ([] : List Vtx)).set x M).set y (M.filter fun z => z.id == k)
theorem twParts_x {x y k : Nat} {M : List Vtx} (hx : x < 4) (hne : x ≠ y) : (twParts x y k M)[x]? = some M := by
  unfold twParts
  rw [List.getElem?_set_ne (Ne.symm hne), List.getElem?_set_self (by simpa using hx)]
theorem twParts_y {x y k : Nat} {M : List Vtx} (hy : y < 4) : (twParts x y k M)[y]? = some (M.filter fun z => z.id == k) := by
  unfold twParts
  rw [List.getElem?_set_self (by simpa using hy)]
theorem twParts_no {x y k : Nat} {M : List Vtx} {z : Vtx} (hne : x ≠ y) (hz : z.id ≠ k) : twParts x y k (M ++ [z]) = (twParts x y k M).set x (M ++ [z]) := by
  unfold twParts
  rw [List.set_comm _ _ (Ne.symm hne), List.set_set, List.filter_append]
  congr 1
  simp [hz]
theorem twParts_yes {x y k : Nat} {M : List Vtx} {z : Vtx} (hne : x ≠ y) (hz : z.id = k) : twParts x y k (M ++ [z]) = ((twParts x y k M).set x (M ++ [z])).set y ((M.filter fun z => z.id == k) ++ [z]) := by
  unfold twParts
  rw [List.set_comm _ _ (Ne.symm hne), List.set_set, List.set_set, List.filter_append]
  congr 1
  simp [hz]
theorem filter_one {L : List Vtx} (hr : Rising Vtx.id L) {v : Vtx} (hv : v ∈ L) : (L.filter fun z => z.id == v.id) = [v] := by
  induction L with
  | nil => simp at hv
  | cons z r ih =>
    have h2 := List.pairwise_cons.1 hr
    rcases List.mem_cons.1 hv with e | e
    · subst e
      rw [List.filter_cons_of_pos (by simp)]
      congr 1
      rw [List.filter_eq_nil_iff]
      intro y hy
      have := h2.1 y hy
      simp
      omega
    · have := h2.1 v e
      rw [List.filter_cons_of_neg (by simp; omega)]
      exact ih h2.2 e
theorem map_nil_iff {l : List Vs} (h : l.map Vs.x = []) : l = [] := by simpa using h
theorem twice_law {L : Gr} (hL : Good L) {v : Vtx} (hv : v ∈ L) {x y mx : Nat} (hx : x < 4) (hy : y < 4) (hne : x ≠ y) (hmx : max x y = mx) {ls : List Ls} (h4 : ls.length = 4) (hd : dat ls = twParts x y v.id L) (all : Bool) : allR (held [true, true, true, true] 0 ls) all = [⟨1, mx, v.id, 0⟩] := by
  subst hmx
  unfold twParts at hd
  rw [filter_one hL.rise hv] at hd
  match ls, h4 with
  | [a, b, c, d], _ =>
    have key : ∀ (A : List Vs) (u : Vs), A.map Vs.x = L → u.x = v → ∀ p q : Nat, p ≠ q → (p < q → allR (A.map (fun s => (p, s)) ++ [(q, u)]) all = [⟨1, max p q, v.id, 0⟩]) ∧ (q < p → allR ([(q, u)] ++ A.map (fun s => (p, s))) all = [⟨1, max p q, v.id, 0⟩]) := fun A u hA hu p q hpq => ⟨fun hlt => by
        have := twice_front (v' := u) hL hA (by rw [hu]; exact hv) hpq all
        rw [this, hu, Nat.max_eq_right (Nat.le_of_lt hlt)], fun hlt => by
        have := twice_back (v' := u) hL hA (by rw [hu]; exact hv) hpq all
        rw [List.singleton_append, this, hu, Nat.max_eq_left (Nat.le_of_lt hlt)]⟩
    have one : ∀ {l : List Vs}, l.map Vs.x = [v] → ∃ u, l = [u] ∧ u.x = v := fun {l} h => by
      match l, h with
      | [u], h => exact ⟨u, rfl, by simpa using h⟩
    have hx' : x = 0 ∨ x = 1 ∨ x = 2 ∨ x = 3 := by omega
    have hy' : y = 0 ∨ y = 1 ∨ y = 2 ∨ y = 3 := by omega
    rcases hx' with rfl | rfl | rfl | rfl <;> rcases hy' with rfl | rfl | rfl | rfl <;> (try exact absurd rfl hne) <;>
      (simp only [dat, List.map_cons, List.map_nil, List.replicate, List.set_cons_zero, List.set_cons_succ, List.cons.injEq, and_true] at hd
       obtain ⟨e0, e1, e2, e3⟩ := hd
       simp only [held]
       (try have z0 := map_nil_iff e0)
       (try have z1 := map_nil_iff e1)
       (try have z2 := map_nil_iff e2)
       (try have z3 := map_nil_iff e3)
       first
         | (obtain ⟨u, eu, hu⟩ := one e0; have k := key _ u (by first | exact e1 | exact e2 | exact e3) hu _ _ hne; (first | (have k2 := k.1 (by omega)) | (have k2 := k.2 (by omega))); clear key one; (try rw [z0]); (try rw [z1]); (try rw [z2]); (try rw [z3]); rw [eu]; simpa using k2)
         | (obtain ⟨u, eu, hu⟩ := one e1; have k := key _ u (by first | exact e0 | exact e2 | exact e3) hu _ _ hne; (first | (have k2 := k.1 (by omega)) | (have k2 := k.2 (by omega))); clear key one; (try rw [z0]); (try rw [z1]); (try rw [z2]); (try rw [z3]); rw [eu]; simpa using k2)
         | (obtain ⟨u, eu, hu⟩ := one e2; have k := key _ u (by first | exact e0 | exact e1 | exact e3) hu _ _ hne; (first | (have k2 := k.1 (by omega)) | (have k2 := k.2 (by omega))); clear key one; (try rw [z0]); (try rw [z1]); (try rw [z2]); (try rw [z3]); rw [eu]; simpa using k2)
         | (obtain ⟨u, eu, hu⟩ := one e3; have k := key _ u (by first | exact e0 | exact e1 | exact e2) hu _ _ hne; (first | (have k2 := k.1 (by omega)) | (have k2 := k.2 (by omega))); clear key one; (try rw [z0]); (try rw [z1]); (try rw [z2]); (try rw [z3]); rw [eu]; simpa using k2))
theorem twParts_in {L : Gr} {x y k : Nat} : ∀ l ∈ twParts x y k L, l.Sublist L := fun l hl => by
  unfold twParts at hl
  rcases List.mem_or_eq_of_mem_set hl with h | h
  · rcases List.mem_or_eq_of_mem_set h with h | h
    · rw [(List.mem_replicate.1 h).2]; exact List.nil_sublist _
    · rw [h]; exact List.Sublist.refl _
  · rw [h]; exact List.filter_sublist
end Go.Proofs.YtnkmfgklmfmfeaaGreatDoor
