/- Lemmas for the claim, in one text: VH, HA, HB. -/
import Derived.Test.YtnkmfgklmfmfeaaGreatDoorM06
import Derived.Test.YtnkmfgklmfmfeaaGreatDoorM13
import Derived.Test.YtnkmfgklmfmfeaaGreatDoorM32

/- VH: what is needed of it (by shake.py). -/

/- VH, as far as the seat goes. -/
/- V23, V24, V25, V26 in one. -/
/- gussetlaw23.awake, walked. -/
namespace Go.Proofs.YtnkmfgklmfmfeaaGreatDoor
set_option linter.unusedVariables false
open Go.RowKit
/-- Reports that were told, later on. -/
structure Got (w : World) (vo : Value) (l : List Rep) (wr : World) : Prop where
  mod : Mod (fun _ => False) w wr
  rd : RdS wr 4 vo l.length (rcells l)
theorem Got.more {w wr wy : World} {vo : Value} {l : List Rep} (h : Got w vo l wr) (m : Mod (fun _ => False) wr wy) : Got w vo l wy := ⟨h.mod.trans m, h.rd.keep m⟩
set_option maxRecDepth 100000 in
set_option maxHeartbeats 2000000 in
theorem awake23_any (w : World) :
    Calls Tryz.prog 6 #[] w fun e w' => e = .returned (.bool true) ∧ Mod (fun _ => False) w w' := by
  go_enter Tryz.func6, Tryz.ntmps6
  go_upto_region 2 with (first
      | (go_at_call 15; have hdum := M1; clear hdum; refine (vertex_b _).mono ?_; rintro e w2 ⟨vh2, rfl, hm2, hn2⟩; (obtain ⟨a2, c2, l2, rfl⟩ : ∃ a c n, vh2 = .slice a n c := (by obtain ⟨a, c, e, _⟩ := hn2.halves.shape; exact ⟨_, _, _, e⟩)); have M2 := Lib.hid hm2; have HN2 := Lib.hid hn2; clear hm2 hn2)
      | (go_at_call 15; refine (vertex_a w.heap.size (w.alloc (.cells #[.int .u32 2] 28)) (heap_alloc_new' _ _)).mono ?_; rintro e w1 ⟨vh1, rfl, hm1, hn1⟩; (obtain ⟨a1, c1, l1, rfl⟩ : ∃ a c n, vh1 = .slice a n c := (by obtain ⟨a, c, e, _⟩ := hn1.halves.shape; exact ⟨_, _, _, e⟩)); have M1 := Lib.hid hm1; have HN1 := Lib.hid hn1; clear hm1 hn1)
      | (go_at_call 12; refine (awake_cmp _ _ w1 w2 a1 a2 l1 l2 c1 c2 true HN1.out M2.out HN2.out).mono ?_; rintro e w3 ⟨vo, rfl, ht⟩; (obtain ⟨ao, co, no, rfl⟩ : ∃ a c n, vo = .slice a n c := (by obtain ⟨a, c, e, _⟩ := ht.out.shape; exact ⟨_, _, _, e⟩)); have HT3 : Hid (Got w (.slice ao no co) [⟨if true then 2 else 4, 0, 1, 2⟩] w3) := Lib.hid ⟨((Mod.refl (fun _ => False) _).alloc _).trans (M1.out.trans (((Mod.refl (fun _ => False) _).alloc _).trans (M2.out.trans (((((Mod.refl (fun _ => False) _).alloc _).alloc _).alloc _).trans ht.mod)))), ht.out.rdS⟩; clear ht))
  have HA : Hid (Got w (.slice ao no co) [⟨2, 0, 1, 2⟩] w3) := HT3
  clear HT3 M1 M2 HN1 HN2
  go_upto_region 3 with (first
      | (go_at_call 15; have hdum := M1; clear hdum; refine (vertex_b _).mono ?_; rintro e w2 ⟨vh2, rfl, hm2, hn2⟩; (obtain ⟨a2, c2, l2, rfl⟩ : ∃ a c n, vh2 = .slice a n c := (by obtain ⟨a, c, e, _⟩ := hn2.halves.shape; exact ⟨_, _, _, e⟩)); have M2 := Lib.hid hm2; have HN2 := Lib.hid hn2; clear hm2 hn2)
      | (go_at_call 15; refine (vertex_a w3.heap.size (w3.alloc (.cells #[.int .u32 2] 28)) (heap_alloc_new' _ _)).mono ?_; rintro e w1 ⟨vh1, rfl, hm1, hn1⟩; (obtain ⟨a1, c1, l1, rfl⟩ : ∃ a c n, vh1 = .slice a n c := (by obtain ⟨a, c, e, _⟩ := hn1.halves.shape; exact ⟨_, _, _, e⟩)); have M1 := Lib.hid hm1; have HN1 := Lib.hid hn1; clear hm1 hn1)
      | (go_at_call 12; refine (awake_cmp _ _ w1 w2 a1 a2 l1 l2 c1 c2 false HN1.out M2.out HN2.out).mono ?_; rintro e w4 ⟨vo, rfl, ht⟩; (obtain ⟨ao, co, no, rfl⟩ : ∃ a c n, vo = .slice a n c := (by obtain ⟨a, c, e, _⟩ := ht.out.shape; exact ⟨_, _, _, e⟩)); have HT3 : Hid (Got w3 (.slice ao no co) [⟨if false then 2 else 4, 0, 1, 2⟩] w4) := Lib.hid ⟨((Mod.refl (fun _ => False) _).alloc _).trans (M1.out.trans (((Mod.refl (fun _ => False) _).alloc _).trans (M2.out.trans (((((Mod.refl (fun _ => False) _).alloc _).alloc _).alloc _).trans ht.mod)))), ht.out.rdS⟩; clear ht))

  have HB : Hid (Got w3 _ [⟨4, 0, 1, 2⟩] w4) := HT3
  have HA := Lib.hid (HA.out.more HB.out.mod)
  clear HT3 M1 M2 HN1 HN2
  go_wp2_with (first
    | (go_at_call 16; have hdum := G2; clear hdum; refine (same_yes _ _ [⟨4, 0, 1, 2⟩] (w7.alloc (.cells #[.int .u8 4, .int .i64 0, .int .u32 1, .int .u32 2] 65)) (G2.out.seg.rdS.keep ((Mod.refl (fun _ => False) _).alloc _)) (rd_lit w7 _ #[.int .u8 4, .int .i64 0, .int .u32 1, .int .u32 2] 1 4 _ rfl rfl (by simp [maxLen]) (by simp [Value.oneCell']))).mono ?_; rintro e w8 ⟨rfl, hm⟩; have S2 : Hid (Mod (fun _ => False) w6 w8) := Lib.hid ((G2.out.mod.trans ((Mod.refl (fun _ => False) _).alloc _)).trans hm); clear hm)
    | (go_at_call 17; have hdum := S1; clear hdum; refine (reports_any _ [⟨4, 0, 1, 2⟩] w6 (HB.out.rd.keep S1.out) (by simp)).mono ?_; rintro e w7 ⟨vo, rfl, hg⟩; (obtain ⟨ao, co, no, rfl⟩ : ∃ a c n, vo = .slice a n c := (by obtain ⟨a, c, e, _⟩ := hg.seg.shape; exact ⟨_, _, _, e⟩)); have G2 := Lib.hid hg; clear hg)
    | (go_at_call 16; have hdum := G1; clear hdum; refine (same_yes _ _ [⟨2, 0, 1, 2⟩] (w5.alloc (.cells #[.int .u8 2, .int .i64 0, .int .u32 1, .int .u32 2] 65)) (G1.out.seg.rdS.keep ((Mod.refl (fun _ => False) _).alloc _)) (rd_lit w5 _ #[.int .u8 2, .int .i64 0, .int .u32 1, .int .u32 2] 1 4 _ rfl rfl (by simp [maxLen]) (by simp [Value.oneCell']))).mono ?_; rintro e w6 ⟨rfl, hm⟩; have S1 : Hid (Mod (fun _ => False) w4 w6) := Lib.hid ((G1.out.mod.trans ((Mod.refl (fun _ => False) _).alloc _)).trans hm); clear hm)
    | (go_at_call 17; refine (reports_any _ [⟨2, 0, 1, 2⟩] w4 (HA.out.rd) (by simp)).mono ?_; rintro e w5 ⟨vo, rfl, hg⟩; (obtain ⟨ao, co, no, rfl⟩ : ∃ a c n, vo = .slice a n c := (by obtain ⟨a, c, e, _⟩ := hg.seg.shape; exact ⟨_, _, _, e⟩)); have G1 := Lib.hid hg; clear hg))
  go_ret
  exact ⟨rfl, HA.out.mod.trans (S1.out.trans S2.out)⟩
end Go.Proofs.YtnkmfgklmfmfeaaGreatDoor
/- The plain law of RepairTurns: with no number twice the counts by kind don't hang on the turn. -/
namespace Go.Proofs.YtnkmfgklmfmfeaaGreatDoor
set_option linter.unusedVariables false
open Go.RowKit
def okX : Option Nat → List Vtx → Bool
  | _, [] => true
  | p, x :: r => ((x.there && x.right) && above p x.id) && okX (some x.id) r
theorem okX_of : ∀ (p : Option Nat) (l : List Vs), listOK p l = okX p (l.map Vs.x)
  | _, [] => rfl
  | p, s :: r => by simp only [listOK, List.map_cons, okX, okX_of (some s.x.id) r]
theorem notOK_of (ls : List Ls) : ls.any notOK = (dat ls).any (fun l => !okX none l) := by
  rw [dat, List.any_map]
  congr 1
  funext s
  simp [notOK, okX_of]
def look (xs : List Vtx) (k : Nat) : Option Vtx := xs.find? fun x => x.id == k
theorem look_of (ps : List (Nat × Vs)) (k : Nat) : (seatF ps k).map (·.2.x) = look (ps.map (·.2.x)) k := by
  rw [look, List.find?_map, seatF]
  rfl
def judgeX (xs : List Vtx) (id : Nat) (h : Ent) (all : Bool) : Nat :=
  match look xs h.key with
  | none => if all then 2 else 4
  | some p => match p.halves.find? (fun e => e.key == id) with
    | none => 2
    | some e => if e.val = h.val then 0 else 3
theorem judge_of (ps : List (Nat × Vs)) (id : Nat) (h : Ent) (all : Bool) : judgeN ps id h all = judgeX (ps.map (·.2.x)) id h all := by
  unfold judgeN judgeX
  rw [← look_of]
  cases seatF ps h.key <;> rfl
theorem find_self {α : Type} (f : α → Nat) : ∀ (l : List α) (x : α), (l.map f).Nodup → x ∈ l → l.find? (fun y => f y == f x) = some x
  | [], x, _, h => by simp at h
  | y :: r, x, hn, h => by
    rw [List.map_cons, List.nodup_cons] at hn
    rcases List.mem_cons.1 h with rfl | h
    · simp
    · have hne : f y ≠ f x := fun e => hn.1 (by rw [e]; exact List.mem_map_of_mem h)
      rw [List.find?_cons_of_neg (by simpa using hne)]
      exact find_self f r x hn.2 h
theorem pre_none {ps : List (Nat × Vs)} (hn : (ps.map (·.2.x.id)).Nodup) {p : Nat × Vs} (hp : p ∈ ps) : preR ps p = [] := by
  have := find_self (fun q : Nat × Vs => q.2.x.id) ps p hn hp
  simp only [preR, seatF, this, Option.map_some, if_true]
theorem held_len (up : List Bool) : ∀ (ls : List Ls) (n m : Nat), (∀ s ∈ ls, s.l.length ≤ m) → (held up n ls).length ≤ m * ls.length
  | [], n, m, _ => by simp [held]
  | s :: r, n, m, h => by
    have ih := held_len up r (n + 1) m (fun t ht => h t (by simp [ht]))
    have hs := h s (by simp)
    simp only [held, List.length_append, List.length_cons, Nat.mul_add, Nat.mul_one]
    have : (if up[n]? = some true then s.l.map (fun x => (n, x)) else []).length ≤ m := by split <;> simp [hs]
    omega
/-- Small lists. -/
def Small (d : List (List Vtx)) : Prop := ∀ l ∈ d, l.length ≤ 20 ∧ ∀ x ∈ l, x.halves.length ≤ 60
end Go.Proofs.YtnkmfgklmfmfeaaGreatDoor
/- gussetlaw23.RepairTurns: the states of its loops. -/
namespace Go.Proofs.YtnkmfgklmfmfeaaGreatDoor
set_option linter.unusedVariables false
open Go.RowKit
end Go.Proofs.YtnkmfgklmfmfeaaGreatDoor
/- gussetlaw23.RepairTurns, walked. -/
namespace Go.Proofs.YtnkmfgklmfmfeaaGreatDoor
set_option linter.unusedVariables false
open Go.RowKit
end Go.Proofs.YtnkmfgklmfmfeaaGreatDoor

/- HA: what is needed of it (by shake.py). -/

/- HA, as far as the seat goes. -/
/- The plain laws of repair: the vertices of a graph in form, parted among lists, and what Compare tells of them. -/
namespace Go.Proofs.YtnkmfgklmfmfeaaGreatDoor
set_option linter.unusedVariables false
set_option linter.unusedSimpArgs false
open Go.RowKit
theorem chain_of (ok : Ent → Bool) : ∀ (p : Option Nat) (l : List Ent), Rising Ent.key l → (∀ e ∈ l, ok e = true) → (∀ e ∈ l, above p e.key = true) → chain ok p l = true
  | _, [], _, _, _ => rfl
  | p, x :: r, hr, ho, ha => by
    have h2 := List.pairwise_cons.1 hr
    rw [chain, ho x (by simp), ha x (by simp), chain_of ok (some x.key) r h2.2 (fun e he => ho e (by simp [he])) (fun e he => by simpa [above] using h2.1 e he)]
    rfl
theorem VGood.isRight {x : Vtx} (h : VGood x) : x.right = true := by
  unfold Vtx.right
  rw [h.there, chain_of propOK none x.props h.prise (fun e he => by
    obtain ⟨h1, h2, h3⟩ := h.props e he
    simp [propOK, h1, h2, h3]) (fun _ _ => rfl), chain_of (halfOK x.id) none x.halves h.hrise (fun e he => by
    obtain ⟨h1, h2, h3, h4⟩ := h.halves e he
    simp [halfOK, numB, h1, h2, h3, h4]) (fun _ _ => rfl)]
  have h1 := h.id
  have h2 := h.few
  simp [numB, h1, h2]
theorem okX_rise : ∀ (p : Option Nat) (l : List Vtx), Rising Vtx.id l → (∀ x ∈ l, x.there = true ∧ x.right = true) → (∀ x ∈ l, above p x.id = true) → okX p l = true
  | _, [], _, _, _ => rfl
  | p, x :: r, hr, ho, ha => by
    have h2 := List.pairwise_cons.1 hr
    rw [okX, (ho x (by simp)).1, (ho x (by simp)).2, ha x (by simp), okX_rise (some x.id) r h2.2 (fun e he => ho e (by simp [he])) (fun e he => by simpa [above] using h2.1 e he)]
    rfl
theorem rise_nodup {α : Type} {key : α → Nat} {l : List α} (h : Rising key l) : (l.map key).Nodup := by
  rw [List.nodup_iff_pairwise_ne, List.pairwise_map]
  exact List.Pairwise.imp (fun h => Nat.ne_of_lt h) h
/-- Some lists hold a graph's vertices, each once, each list in order. -/
structure Parted (L : Gr) (ps : List (List Vtx)) : Prop where
  perm : ps.flatten.Perm L
  sub : ∀ l ∈ ps, l.Sublist L
theorem Parted.nil (n : Nat) : Parted [] (List.replicate n []) := by
  refine ⟨?_, fun l hl => ?_⟩
  · have : (List.replicate n ([] : List Vtx)).flatten = [] := by simp
    rw [this]
  · rw [(List.mem_replicate.1 hl).2]; exact List.nil_sublist _
theorem flat_set_perm {α : Type} : ∀ (ps : List (List α)) (i : Nat) (l : List α) (x : α), ps[i]? = some l → (ps.set i (l ++ [x])).flatten.Perm (ps.flatten ++ [x])
  | [], i, l, x, h => by simp at h
  | p :: r, 0, l, x, h => by
    simp only [List.getElem?_cons_zero, Option.some.injEq] at h
    subst h
    simp only [List.set_cons_zero, List.flatten_cons, List.append_assoc]
    exact List.Perm.append_left _ (List.perm_append_comm)
  | p :: r, i + 1, l, x, h => by
    simp only [List.getElem?_cons_succ] at h
    simp only [List.set_cons_succ, List.flatten_cons, List.append_assoc]
    exact List.Perm.append_left _ (flat_set_perm r i l x h)
theorem Parted.snoc {L : Gr} {ps : List (List Vtx)} {i : Nat} {l : List Vtx} {x : Vtx} (h : Parted L ps) (hi : ps[i]? = some l) : Parted (L ++ [x]) (ps.set i (l ++ [x])) := by
  refine ⟨(flat_set_perm ps i l x hi).trans (h.perm.append_right _), fun l' hl' => ?_⟩
  rcases List.mem_or_eq_of_mem_set hl' with e | e
  · exact (h.sub l' e).trans (List.sublist_append_left _ _)
  · rw [e]; exact (h.sub l (List.mem_of_getElem? hi)).append_right _
/-- What is told of a half, where a graph's vertices are held, each once. -/
theorem judge_in {L : Gr} (hL : Good L) {X : List Vtx} (hn : (X.map Vtx.id).Nodup) (hX : ∀ y ∈ X, y ∈ L) {x : Vtx} (hx : x ∈ L) {h : Ent} (hh : h ∈ x.halves) (all : Bool) :
    (judgeX X x.id h all = 0 ∧ ∃ y ∈ X, y.id = h.key) ∨ (judgeX X x.id h all = (if all then 2 else 4) ∧ ∃ y ∈ L, y ∉ X ∧ y.id = h.key) := by
  obtain ⟨y, hy, hk, hm⟩ := hL.pair x hx h hh
  by_cases hyX : y ∈ X
  · refine .inl ⟨?_, y, hyX, hk⟩
    have h1 : look X h.key = some y := by
      have := find_self Vtx.id X y hn hyX
      rw [hk] at this
      exact this
    have h2 : y.halves.find? (fun e => e.key == x.id) = some ⟨x.id, h.val⟩ := find_self Ent.key y.halves ⟨x.id, h.val⟩ (rise_nodup (hL.each y hy).hrise) hm
    simp only [judgeX, h1, h2, if_true]
  · refine .inr ⟨?_, y, hy, hyX, hk⟩
    have h1 : look X h.key = none := by
      unfold look
      rw [List.find?_eq_none]
      intro z hz e
      have e' : z.id = h.key := by simpa using e
      have : z = y := hL.rise.uniq (hX z hz) hy (by rw [e', hk])
      exact hyX (this ▸ hz)
    simp only [judgeX, h1]
theorem held_up (up : List Bool) : ∀ (ls : List Ls) (n : Nat) (p : Nat × Vs), p ∈ held up n ls → up[p.1]? = some true ∧ ∃ s, ls[p.1 - n]? = some s ∧ n ≤ p.1 ∧ p.2 ∈ s.l
  | [], n, p, h => by simp [held] at h
  | s :: r, n, p, h => by
    simp only [held, List.mem_append] at h
    rcases h with h | h
    · split at h
      · rename_i hu
        rw [List.mem_map] at h
        obtain ⟨x, hx, rfl⟩ := h
        exact ⟨hu, s, by simp, Nat.le_refl _, hx⟩
      · simp at h
    · obtain ⟨h1, t, h2, h3, h4⟩ := held_up up r (n + 1) p h
      refine ⟨h1, t, ?_, by omega, h4⟩
      rw [show p.1 - n = (p.1 - (n + 1)) + 1 by omega, List.getElem?_cons_succ]
      exact h2
theorem held_in (up : List Bool) : ∀ (ls : List Ls) (n i : Nat) (s : Ls) (x : Vs), ls[i]? = some s → x ∈ s.l → up[n + i]? = some true → (n + i, x) ∈ held up n ls
  | [], n, i, s, x, h, _, _ => by simp at h
  | t :: r, n, 0, s, x, h, hx, hu => by
    simp only [List.getElem?_cons_zero, Option.some.injEq] at h
    subst h
    simp only [held, List.mem_append]
    rw [Nat.add_zero] at hu ⊢
    rw [if_pos hu]
    exact .inl (List.mem_map_of_mem hx)
  | t :: r, n, i + 1, s, x, h, hx, hu => by
    simp only [List.getElem?_cons_succ] at h
    simp only [held, List.mem_append]
    have := held_in up r (n + 1) i s x h hx (by rw [show n + 1 + i = n + (i + 1) by omega]; exact hu)
    rw [show n + 1 + i = n + (i + 1) by omega] at this
    exact .inr this
theorem held_sub (up : List Bool) : ∀ (ls : List Ls) (n : Nat), ((held up n ls).map (·.2.x)).Sublist (dat ls).flatten
  | [], n => by simp [held, dat]
  | s :: r, n => by
    simp only [held, List.map_append, dat, List.map_cons, List.flatten_cons]
    refine List.Sublist.append ?_ (held_sub up r (n + 1))
    split
    · rw [List.map_map]; exact List.Sublist.refl _
    · exact List.nil_sublist _
/-- The pairs that are held, of a graph that is parted. -/
structure HeldOf (L : Gr) (up : List Bool) (ls : List Ls) : Prop where
  nd : (((held up 0 ls).map (·.2.x)).map Vtx.id).Nodup
  sub : ∀ y ∈ (held up 0 ls).map (·.2.x), y ∈ L
theorem Parted.heldOf {L : Gr} (hL : Good L) {ls : List Ls} (h : Parted L (dat ls)) (up : List Bool) : HeldOf L up ls := by
  have hs := held_sub up ls 0
  refine ⟨(hs.map Vtx.id).nodup ((h.perm.map Vtx.id).nodup_iff.2 (rise_nodup hL.rise)), fun y hy => h.perm.mem_iff.1 (hs.subset hy)⟩
theorem Parted.ok {L : Gr} (hL : Good L) {ls : List Ls} (h : Parted L (dat ls)) : ls.any notOK = false := by
  rw [notOK_of, List.any_eq_false]
  intro l hl
  have hs := h.sub l hl
  rw [okX_rise none l (List.Pairwise.sublist hs hL.rise) (fun x hx => ⟨(hL.each x (hs.subset hx)).there, (hL.each x (hs.subset hx)).isRight⟩) (fun _ _ => rfl)]
  simp
/-- Every report that is told of a graph that is parted. -/
theorem Parted.rep {L : Gr} (hL : Good L) {ls : List Ls} (h : Parted L (dat ls)) {up : List Bool} {all : Bool} {r : Rep} (hr : r ∈ allR (held up 0 ls) all) :
    r.kind = (if all then 2 else 4) ∧ up[r.node]? = some true ∧ ∃ y ∈ L, y.id = r.far ∧ y ∉ (held up 0 ls).map (·.2.x) := by
  have hh := h.heldOf hL up
  rw [allR, List.mem_flatMap] at hr
  obtain ⟨p, hp, hr⟩ := hr
  have hpre : preR (held up 0 ls) p = [] := pre_none (by have := hh.nd; rw [List.map_map] at this; exact this) hp
  rw [repOf, hpre, List.nil_append, List.mem_flatMap] at hr
  obtain ⟨e, he, hr⟩ := hr
  have hpx : p.2.x ∈ (held up 0 ls).map (·.2.x) := List.mem_map_of_mem (f := fun q : Nat × Vs => q.2.x) hp
  have hj := judge_in hL hh.nd hh.sub (hh.sub _ hpx) he all
  unfold halfR at hr
  rw [judge_of] at hr
  rcases hj with ⟨h0, -⟩ | ⟨h0, y, hy, hny, hk⟩
  · rw [if_pos h0] at hr; simp at hr
  · have hne : ¬ judgeX ((held up 0 ls).map (·.2.x)) p.2.x.id e all = 0 := by rw [h0]; cases all <;> simp
    rw [if_neg hne, List.mem_singleton] at hr
    subst hr
    exact ⟨h0, (held_up up ls 0 p hp).1, y, hy, hk, hny⟩
/-- All up: nothing is told. -/
theorem Parted.whole {L : Gr} (hL : Good L) {ls : List Ls} (h : Parted L (dat ls)) {up : List Bool} (hu : ∀ i, i < ls.length → up[i]? = some true) (all : Bool) : allR (held up 0 ls) all = [] := by
  rw [List.eq_nil_iff_forall_not_mem]
  intro r hr
  obtain ⟨-, -, y, hy, -, hny⟩ := h.rep hL hr
  apply hny
  have hm := h.perm.mem_iff.2 hy
  rw [List.mem_flatten] at hm
  obtain ⟨l, hl, hyl⟩ := hm
  rw [dat, List.mem_map] at hl
  obtain ⟨s, hs, rfl⟩ := hl
  rw [List.mem_map] at hyl
  obtain ⟨z, hz, rfl⟩ := hyl
  obtain ⟨i, hi, hsi⟩ := List.getElem_of_mem hs
  have := held_in up ls 0 i s z (by rw [List.getElem?_eq_getElem hi, hsi]) hz (by rw [Nat.zero_add]; exact hu i hi)
  exact List.mem_map_of_mem (f := fun q : Nat × Vs => q.2.x) this
/-- One down: nothing but that its vertices are out of reach. -/
theorem Parted.down {L : Gr} (hL : Good L) {ls : List Ls} (h : Parted L (dat ls)) {up : List Bool} {k : Nat} (hu : ∀ i, i < ls.length → i ≠ k → up[i]? = some true) (hk : up[k]? = some false) {r : Rep} (hr : r ∈ allR (held up 0 ls) false) :
    r.kind = 4 ∧ r.node ≠ k ∧ ∃ l, (dat ls)[k]? = some l ∧ ∃ z ∈ l, z.id = r.far := by
  obtain ⟨h1, h2, y, hy, hf, hny⟩ := h.rep hL hr
  refine ⟨h1, (fun e => by rw [e, hk] at h2; cases h2), ?_⟩
  have hm := h.perm.mem_iff.2 hy
  rw [List.mem_flatten] at hm
  obtain ⟨l, hl, hyl⟩ := hm
  rw [dat, List.mem_map] at hl
  obtain ⟨s, hs, rfl⟩ := hl
  rw [List.mem_map] at hyl
  obtain ⟨z, hz, rfl⟩ := hyl
  obtain ⟨i, hi, hsi⟩ := List.getElem_of_mem hs
  have hsi' : ls[i]? = some s := by rw [List.getElem?_eq_getElem hi, hsi]
  by_cases e : i = k
  · subst e; exact ⟨_, by rw [dat, List.getElem?_map, hsi']; rfl, z.x, List.mem_map_of_mem hz, hf⟩
  · have := held_in up ls 0 i s z hsi' hz (by rw [Nat.zero_add]; exact hu i hi e)
    exact absurd (List.mem_map_of_mem (f := fun q : Nat × Vs => q.2.x) this) hny
end Go.Proofs.YtnkmfgklmfmfeaaGreatDoor

/- HB: what is needed of it (by shake.py). -/

/- HB, as far as the seat goes. -/
/- Lists of vertices that a law lays out by itself, in a block of their own: what is there, and what becomes of it. -/
namespace Go.Proofs.YtnkmfgklmfmfeaaGreatDoor
set_option linter.unusedVariables false
set_option linter.unusedSimpArgs false
open Go.RowKit Go.Maps
theorem off_type {w : World} {t t' : TypeId} {size n b : Nat} {v : Value} {us : List Value} {cs : Array Value} (hs : Seg w t size v n us) (hb : w.heap[b]? = some (.cells cs t' (0, 0))) (hne : t ≠ t') : ∀ k, v.ownBlock = some k → ¬ k = b := fun k e eb => by
  obtain ⟨cur, hc⟩ := seg_box hs e
  rw [eb, hb] at hc
  injection hc with hc
  injection hc with _ hc _
  exact hne hc.symm
theorem VOwn.offV {w : World} {s : Vs} (h : VOwn w s) {v : Value} {n : Nat} {us : List Value} (hv : Seg w 44 4 v n us) : VOff (fun k => v.ownBlock = some k) s := by
  refine ⟨fun b hb e => ?_, fun b hb e => ?_⟩
  · obtain ⟨cur, hc⟩ := seg_box hv e
    exact off_type h.props hc (by decide) b hb rfl
  · obtain ⟨cur, hc⟩ := seg_box hv e
    exact off_type h.halves hc (by decide) b hb rfl
theorem LOwn.offB {w : World} {v : Value} {l : List Vs} (h : LOwn w v l) {b : Nat} {cs : Array Value} (hb : w.heap[b]? = some (.cells cs 40 (0, 0))) : LOff (fun k => k = b) v l :=
  ⟨fun k hk e => off_type h.row hb (by decide) k hk e, fun s hs => ⟨fun k hk e => off_type (h.each s hs).props hb (by decide) k hk e, fun k hk e => off_type (h.each s hs).halves hb (by decide) k hk e⟩⟩
theorem mk2_lists (w : World) : (Instr.makeSlice 38 (.int .i64 2) (.int .i64 2)).run Tryz.prog w = .ok (.slice (some ⟨w.heap.size, 0, none⟩) 2 2) (w.alloc (.cells #[.slice none 0 0, .slice none 0 0] 40)) := by kernel_rfl
theorem dat_set (ls : List Ls) (i : Nat) (v : Value) (l : List Vs) : dat (ls.set i ⟨v, l⟩) = (dat ls).set i (l.map Vs.x) := by
  unfold dat
  rw [List.map_set]
theorem frd_box {w : World} {b n : Nat} {up : List Bool} (hb : w.heap[b]? = some (.cells (up.map Value.bool).toArray 4 (0, 0))) (hn : n = up.length) (hm : n ≤ 1000) : FRd w (.slice (some ⟨b, 0, none⟩) n n) up := by
  subst hn
  refine ⟨by simp, ⟨_, _, rfl, Nat.le_refl _, by omega, by simp⟩, fun a c e j u hu => ?_⟩
  injection e with e1 e2 e3
  subst e1
  refine ⟨b, 0, rfl, lt_of_block hb, ?_⟩
  rw [Nat.zero_add, cell_of_row hb]
  simpa using hu
theorem Parted.short {L : Gr} (hL : Good L) {ls : List Ls} (hp : Parted L (dat ls)) : ∀ s ∈ ls, s.l.length ≤ 1000 := fun s hs => by
  have h1 := (hp.sub (s.l.map Vs.x) (List.mem_map_of_mem hs)).length_le
  have := hL.short
  rw [List.length_map] at h1
  omega
end Go.Proofs.YtnkmfgklmfmfeaaGreatDoor
