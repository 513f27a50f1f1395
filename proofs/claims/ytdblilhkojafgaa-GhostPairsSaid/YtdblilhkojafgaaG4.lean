/- Names that come in any order; lists of ghosts. -/
import Derived.Test.YtdblilhkojafgaaG1
import Derived.Test.YtdblilhkojafgaaG3
namespace Go.Proofs.Ytdblilhkojafgaa
set_option linter.unusedVariables false
open Go.RowKit Go.Maps

def keysX (x : Vtx) : List Nat := x.halves.map Ent.key
def allH (l : List Vtx) : Names := l.foldl (fun H x => putH x H) []
theorem allH_snoc (l : List Vtx) (x : Vtx) : allH (l ++ [x]) = putH x (allH l) := by simp [allH]
def turnX (l : List Vtx) : Names := l.foldl (fun H x => turnH x.id x.there (keysX x) H) []
theorem turnX_snoc (l : List Vtx) (x : Vtx) : turnX (l ++ [x]) = turnH x.id x.there (keysX x) (turnX l) := by simp [turnX]
theorem foldl_map' {α β γ : Type} (f : γ → β → γ) (g : α → β) : ∀ (l : List α) (c : γ), (l.map g).foldl f c = l.foldl (fun c x => f c (g x)) c
  | [], _ => rfl
  | x :: r, c => by simp [foldl_map' f g r]
theorem turnAll_x (l : List Vs) : turnAll l = turnX (l.map Vs.x) := (foldl_map' (fun (H : Names) (x : Vtx) => turnH x.id x.there (keysX x) H) Vs.x l []).symm
theorem snoc_ind {α : Type} {P : List α → Prop} (h0 : P []) (hs : ∀ l x, P l → P (l ++ [x])) (l : List α) : P l := by
  rw [← List.reverse_reverse l]
  induction l.reverse with
  | nil => exact h0
  | cons x r ih => rw [List.reverse_cons]; exact hs _ _ ih
theorem allH_turn (l : List Vtx) (h : ∀ x ∈ l, x.right = true) : allH l = turnX l := by
  induction l using snoc_ind with
  | h0 => rfl
  | hs l x ih =>
    rw [allH_snoc, turnX_snoc, ih (fun y hy => h y (by simp [hy]))]
    unfold putH
    rw [h x (by simp)]
    rfl
theorem turnX_ris (l : List Vtx) : Ris (turnX l) := by
  induction l using snoc_ind with
  | h0 => exact List.Pairwise.nil
  | hs l x ih => rw [turnX_snoc]; exact ih.turn _ _ _
theorem turnX_mem (l : List Vtx) (hd : (l.map Vtx.id).Nodup) (p : Nat × List Nat) : p ∈ turnX l ↔ ∃ x ∈ l, x.there = true ∧ p = (x.id, keysX x) := by
  induction l using snoc_ind with
  | h0 => simp [turnX]
  | hs l x ih =>
    rw [List.map_append, List.nodup_append] at hd
    have ih := ih hd.1
    have hne : ∀ y ∈ l, y.id ≠ x.id := fun y hy => hd.2.2 y.id (List.mem_map_of_mem hy) x.id (by simp)
    have hp : p ∈ turnX l → p.1 ≠ x.id := fun h => by
      obtain ⟨y, hy, _, rfl⟩ := ih.1 h
      exact hne y hy
    rw [turnX_snoc]
    unfold turnH
    cases ht : x.there with
    | true =>
      rw [if_pos rfl, mem_putG]
      constructor
      · rintro (rfl | ⟨h, _⟩)
        · exact ⟨x, by simp, ht, rfl⟩
        · obtain ⟨y, hy, h1, h2⟩ := ih.1 h
          exact ⟨y, by simp [hy], h1, h2⟩
      · rintro ⟨y, hy, h1, h2⟩
        rcases List.mem_append.1 hy with hy | hy
        · have := ih.2 ⟨y, hy, h1, h2⟩
          exact .inr ⟨this, hp this⟩
        · rw [List.mem_singleton] at hy
          subst hy
          exact .inl h2
    | false =>
      rw [if_neg (by simp), mem_delG]
      constructor
      · rintro ⟨h, _⟩
        obtain ⟨y, hy, h1, h2⟩ := ih.1 h
        exact ⟨y, by simp [hy], h1, h2⟩
      · rintro ⟨y, hy, h1, h2⟩
        rcases List.mem_append.1 hy with hy | hy
        · have := ih.2 ⟨y, hy, h1, h2⟩
          exact ⟨this, hp this⟩
        · rw [List.mem_singleton] at hy
          subst hy
          rw [ht] at h1
          exact absurd h1 (by simp)
theorem ris_ext {β : Type} : ∀ {a b : List (Nat × β)}, Ris a → Ris b → (∀ p, p ∈ a ↔ p ∈ b) → a = b
  | [], b, _, _, h => by
    cases b with
    | nil => rfl
    | cons y r => exact absurd ((h y).2 (by simp)) (by simp)
  | x :: r, [], _, _, h => absurd ((h x).1 (by simp)) (by simp)
  | x :: r, y :: s, ha, hb, h => by
    obtain ⟨h1, h2⟩ := List.pairwise_cons.1 ha
    obtain ⟨h3, h4⟩ := List.pairwise_cons.1 hb
    have e : x = y := by
      rcases List.mem_cons.1 ((h x).1 (by simp)) with e | hx
      · exact e
      · rcases List.mem_cons.1 ((h y).2 (by simp)) with e | hy
        · exact e.symm
        · have := h3 x hx
          have := h1 y hy
          omega
    subst e
    have hr : r = s := ris_ext h2 h4 (fun p => by
      constructor
      · intro hp
        rcases List.mem_cons.1 ((h p).1 (by simp [hp])) with e | hp'
        · have := h1 p hp
          rw [e] at this; omega
        · exact hp'
      · intro hp
        rcases List.mem_cons.1 ((h p).2 (by simp [hp])) with e | hp'
        · have := h3 p hp
          rw [e] at this; omega
        · exact hp')
    rw [hr]
theorem turnX_perm {a b : List Vtx} (hd : (a.map Vtx.id).Nodup) (h : a.Perm b) : turnX a = turnX b := by
  refine ris_ext (turnX_ris a) (turnX_ris b) (fun p => ?_)
  rw [turnX_mem a hd, turnX_mem b ((h.map Vtx.id).nodup_iff.1 hd)]
  constructor <;> rintro ⟨x, hx, h1, h2⟩
  · exact ⟨x, h.mem_iff.1 hx, h1, h2⟩
  · exact ⟨x, h.mem_iff.2 hx, h1, h2⟩
def rotL {α : Type} (k : Nat) (l : List α) : List α := l.drop k ++ l.take k
theorem rotL_perm {α : Type} (k : Nat) (l : List α) : (rotL k l).Perm l := by
  unfold rotL
  refine List.perm_append_comm.trans ?_
  rw [List.take_append_drop]
theorem rotL_length {α : Type} (k : Nat) (l : List α) : (rotL k l).length = l.length := (rotL_perm k l).length_eq
theorem rotL_get {α : Type} (k i : Nat) (l : List α) (hk : k ≤ l.length) (hi : i < l.length) : (rotL k l)[i]? = l[(k + i) % l.length]? := by
  unfold rotL
  by_cases h : k + i < l.length
  · rw [List.getElem?_append_left (by rw [List.length_drop]; omega), List.getElem?_drop, Nat.mod_eq_of_lt h]
  · rw [List.getElem?_append_right (by rw [List.length_drop]; omega), List.length_drop, List.getElem?_take, Nat.mod_eq_sub_mod (by omega), Nat.mod_eq_of_lt (by omega), if_pos (by omega)]
    congr 1
    omega

theorem talList (g bh bn : Nat) (H : Names) (m : Nat) (w : World) (hT : TalAt w g bh bn H m) (hm : m < 999999) :
    Calls Try.prog 28 #[.pointer (some ⟨g, 0, none⟩)] w fun e w' => ∃ v gl, e = .returned v ∧ SegP 60 w v gl w' ∧ GhostsOf H gl ∧ gl.length ≤ 999999 := by
  obtain ⟨Z, en, h1, rfl⟩ := hT
  refine (tlist_any g bh bn Z en _ m w h1 hm).mono ?_
  rintro e w' ⟨v, rfl, hs⟩
  refine ⟨v, _, rfl, hs, glist_ghosts h1, ?_⟩
  have := glist_length (namesZ Z) (tot (namesZ Z)) (en.map (·.1))
  rw [List.length_map] at this
  have := h1.len
  omega
set_option maxRecDepth 100000 in
theorem countL_any (v : Value) (l : List Vs) (w : World) (hv : LRd w v l) (hw : wt l < 999999) :
    Calls Try.prog 16 #[v] w fun e w' => ∃ vo gl, e = .returned vo ∧ SegP 60 w vo gl w' ∧ GhostsOf (turnAll l) gl ∧ gl.length ≤ 999999 := by
  have HO := Lib.hid (tof_any v l w hv hw)
  obtain ⟨a, c, rfl, -⟩ := hv.row.shape
  have HW := Lib.hid hw
  clear hv hw
  generalize l.length = n at HO ⊢
  go_enter Try.func16, Try.ntmps16
  go_wp2_with (first
    | (go_at_call 46; refine HO.out.mono ?_; (rintro e w1 ⟨g, bh, bn, rfl, ho⟩); have HO1 := Lib.hid ho; clear ho; have HL := Lib.hid (talList g bh bn _ _ w1 HO1.out.tal HW.out))
    | (go_at_call 28; refine HL.out.mono ?_; (rintro e w2 ⟨vo, gl, rfl, hp, hg, hl⟩); have HP := Lib.hid hp; have HG := Lib.hid (And.intro hg hl); clear hp hg hl))
  go_ret
  exact ⟨vo, _, rfl, ⟨HP.out.seg, fun b hb => Nat.le_trans HO1.out.mod.size (HP.out.own b hb), HO1.out.mod.trans HP.out.mod⟩, HG.out⟩
end Go.Proofs.Ytdblilhkojafgaa
