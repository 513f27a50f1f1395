/- A tally and the list of those who are held, side by side. -/
import Derived.Test.YtdblilhkojafgaaG10
namespace Go.Proofs.Ytdblilhkojafgaa
set_option linter.unusedVariables false
open Go.RowKit Go.Maps

theorem Seg.offMaps {S : Nat → Prop} {w w' : World} {e : TypeId} {size n : Nat} {v : Value} {xs : List Value} (h : Seg w e size v n xs) (m : Mod S w w') (hS : ∀ k, S k → MapAt w k) : Seg w' e size v n xs := by
  refine h.mod m (fun b hb hs => ?_)
  obtain ⟨P, kt, q, es, hU⟩ := hS b hs
  obtain ⟨o, ho, hc⟩ := h.own_cells b hb
  cases o <;> first | exact map_ne_cells hU ho rfl | exact absurd hc (by simp [Obj.isCells])
theorem wt_rights {l : List Vs} (h : ∀ s ∈ l, s.x.right = true) : wt l ≤ l.length * 17 := by
  induction l with
  | nil => simp [wt]
  | cons s r ih =>
    have h1 := right_len (h s (by simp))
    have h2 := ih (fun t ht => h t (by simp [ht]))
    simp only [wt, List.map_cons, List.sum_cons, List.length_cons] at h2 ⊢
    omega
structure HeldAt (w : World) (v : Value) (l : List Vs) (wr : World) : Prop where
  row : Seg wr 31 4 v l.length (vcells l)
  own : ∀ b, v.ownBlock = some b → w.heap.size ≤ b
  each : ∀ s ∈ l, VRd w s.vp s.vh s.x
  right : ∀ s ∈ l, s.x.right = true
/-- The tally tells H; the list is l. -/
structure TlSt (w : World) (g bh bn : Nat) (v : Value) (l : List Vs) (H : Names) (m : Nat) (wr : World) : Prop where
  mod : Mod (fun _ => False) w wr
  lo : w.heap.size ≤ g ∧ w.heap.size ≤ bh ∧ w.heap.size ≤ bn
  tal : ∃ Z en, TAt wr g bh bn Z en (tot (namesZ Z)) m ∧ namesZ Z = H ∧ ∀ z ∈ Z, ∀ b, z.2.1.ownBlock = some b → v.ownBlock ≠ some b
  held : HeldAt w v l wr
  apart : ∀ b, v.ownBlock = some b → b ≠ g ∧ b ≠ bh ∧ b ≠ bn
section
variable {w wr wx : World} {g bh bn : Nat} {v : Value} {l : List Vs} {H : Names} {m : Nat}
theorem TlSt.keep (h : TlSt w g bh bn v l H m wr) (mm : Mod (fun _ => False) wr wx) : TlSt w g bh bn v l H m wx := by
  obtain ⟨Z, en, h1, h2, h3⟩ := h.tal
  exact ⟨h.mod.trans mm, h.lo, ⟨Z, en, h1.keep mm, h2, h3⟩, ⟨h.held.row.mod mm (fun _ _ f => f), h.held.own, h.held.each, h.held.right⟩, h.apart⟩
theorem TlSt.one (h : TlSt w g bh bn v l H m wr) : TalAt wr g bh bn H m := by
  obtain ⟨Z, en, h1, h2, h3⟩ := h.tal
  exact ⟨Z, en, h1, h2⟩
theorem TlSt.up (h : TlSt w g bh bn v l H m wr) {m' : Nat} (hm : m ≤ m') : TlSt w g bh bn v l H m' wr := by
  obtain ⟨Z, en, h1, h2, h3⟩ := h.tal
  exact ⟨h.mod, h.lo, ⟨Z, en, h1.up hm, h2, h3⟩, h.held, h.apart⟩
theorem TlSt.rd (h : TlSt w g bh bn v l H m wr) : LRd wr v l := ⟨h.held.row.rdS, fun s hs => (h.held.each s hs).keep h.mod⟩
theorem TlSt.put (h : TlSt w g bh bn v l H m wr) (x : Vtx) (vp vh : Value) (hx : VRd wr vp vh x) (hm : m < 990000) :
    Calls Try.prog 26 #[.pointer (some ⟨g, 0, none⟩), vtxV x vp vh] wr fun e w' => e = .returned (.int .i64 (errB x.right)) ∧ TlSt w g bh bn v l (putH x H) (m + 17) w' ∧ Mod (fun k => k = bh ∨ k = bn) wr w' := by
  cases hr : x.right with
  | false =>
    refine (tput_bad x vp vh _ wr hx hr).mono ?_
    rintro e w' ⟨rfl, mm⟩
    have : putH x H = H := by unfold putH; rw [hr]; rfl
    rw [this]
    exact ⟨rfl, (h.keep mm).up (by omega), mm.mono (fun _ _ f => f.elim)⟩
  | true =>
    obtain ⟨Z, en, h1, h2, h3⟩ := h.tal
    have hl := right_len hr
    refine (tput_fresh x vp vh g bh bn Z en m wr hx hr h1 (by omega)).mono ?_
    rintro e w' ⟨rfl, Z', en', h4, h5, mm, hf⟩
    have lo := h.lo
    have tm := h1.maps
    have e1 : namesZ Z' = putH x H := by unfold putH; rw [hr, h5, h2]; rfl
    refine ⟨rfl, ⟨h.mod.trans' mm (fun i hi e => by omega), h.lo, ⟨Z', en', h4.up (by omega), e1, fun z hz b hb e => ?_⟩, ⟨h.held.row.offMaps mm (fun k hk => hk.elim (fun e => e ▸ tm.1) (fun e => e ▸ tm.2)), h.held.own, h.held.each, h.held.right⟩, h.apart⟩, mm⟩
    rcases hf z hz with hz | hz
    · exact h3 z hz b hb e
    · have := hz b hb
      have := h.held.row.lt b e
      omega
theorem TlSt.app {w3 : World} {v3 : Value} {o : Obj} (h : TlSt w g bh bn v l H m wr) (s : Vs) (hs : Seg w3 31 4 v3 (l.length + 1) (vcells l ++ s.cells)) (hg : (wr.alloc o).grownBy w3 v.ownBlock) (ho : v3.ownBlock = v.ownBlock ∨ v3.ownBlock = some (wr.alloc o).heap.size)
    (hv : VRd w s.vp s.vh s.x) (hr : s.x.right = true) : TlSt w g bh bn v3 (l ++ [s]) H m w3 := by
  obtain ⟨Z, en, h1, h2, h3⟩ := h.tal
  have mm : Mod (fun k => v.ownBlock = some k) wr w3 := by
    have m1 := mod_grown hg
    exact (((Mod.refl (fun _ => False) wr).alloc o).mono (fun _ _ f => f.elim)).trans m1
  have hsz : wr.heap.size + 1 ≤ w3.heap.size := by have := hg.size; simpa using this
  have bg := lt_of_block h1.box
  have b1 := h1.held.lt
  have b2 := h1.named.lt
  refine ⟨(h.mod.alloc o).grown hg (fun b hb hlt => by have := h.held.own b hb; omega), h.lo, ⟨Z, en, ⟨mm.heap h1.box (fun e => (h.apart _ e).1 rfl), h1.held.mod mm (fun e => (h.apart _ e).2.1 rfl), h1.named.mod mm (fun e => (h.apart _ e).2.2 rfl), h1.ne, fun z hz => (h1.seg z hz).mod mm (fun b hb e => h3 z hz b hb e), h1.cnt, h1.len, h1.zlen, h1.top⟩, h2, fun z hz b hb e => ?_⟩, ⟨by rw [vcells_snoc]; simpa using hs, fun b hb => ?_, ?_, ?_⟩, fun b hb => ?_⟩
  · rcases ho with e' | e'
    · exact h3 z hz b hb (e' ▸ e)
    · have := (h1.seg z hz).lt b hb
      rw [e'] at e
      simp at e; omega
  · rcases ho with e' | e'
    · exact h.held.own b (e' ▸ hb)
    · have := h.mod.size
      rw [e'] at hb; simp at hb; omega
  · intro t ht
    rcases List.mem_append.1 ht with ht | ht
    · exact h.held.each t ht
    · rw [List.mem_singleton] at ht; subst ht; exact hv
  · intro t ht
    rcases List.mem_append.1 ht with ht | ht
    · exact h.held.right t ht
    · rw [List.mem_singleton] at ht; subst ht; exact hr
  · rcases ho with e' | e'
    · exact h.apart b (e' ▸ hb)
    · rw [e'] at hb; simp at hb; omega
theorem TlSt.start {w1 w2 : World} (m1 : Mod (fun _ => False) w w1) (m2 : Mod (fun _ => False) w1 w2) (t : TAt w2 (w1.heap.size + 2) w1.heap.size (w1.heap.size + 1) [] [] (fun _ => 0) 0) :
    TlSt w (w1.heap.size + 2) w1.heap.size (w1.heap.size + 1) (.slice none 0 0) [] (turnAll []) 0 w2 := by
  have := m1.size
  refine ⟨m1.trans m2, ⟨by omega, by omega, by omega⟩, ⟨[], [], t.alike (fun k => by simp [tot, namesZ, mapG]), rfl, fun z hz => by simp at hz⟩, ⟨Seg.nil _ _ _, fun b hb => by simp [Value.ownBlock] at hb, by simp, by simp⟩, fun b hb => by simp [Value.ownBlock] at hb⟩
end
structure TlBx (w : World) (g bh bn : Nat) (v : Value) (l : List Vs) (H : Names) (m n0 : Nat) (o : Array Value) (wr : World) : Prop where
  st : TlSt w g bh bn v l H m wr
  box : wr.heap[n0]? = some (.cells o 31 (0, 0))
theorem TlBx.keep {w wr wx : World} {g bh bn : Nat} {v : Value} {l : List Vs} {H : Names} {m n0 : Nat} {o : Array Value} (h : TlBx w g bh bn v l H m n0 o wr) (mm : Mod (fun _ => False) wr wx) : TlBx w g bh bn v l H m n0 o wx := ⟨h.st.keep mm, mm.heap h.box (fun f => f)⟩
theorem TlBx.put {w wr : World} {g bh bn : Nat} {v : Value} {l : List Vs} {H : Names} {m n0 : Nat} {o : Array Value} (h : TlBx w g bh bn v l H m n0 o wr) (x : Vtx) (vp vh : Value) (hx : VRd wr vp vh x) (hm : m < 990000) :
    Calls Try.prog 26 #[.pointer (some ⟨g, 0, none⟩), vtxV x vp vh] wr fun e w' => e = .returned (.int .i64 (errB x.right)) ∧ TlBx w g bh bn v l (putH x H) (m + 17) n0 o w' := by
  refine (h.st.put x vp vh hx hm).mono ?_
  rintro e w' ⟨rfl, h1, mm⟩
  have t := h.st.one.maps
  exact ⟨rfl, h1, mm.heap h.box (fun hs => hs.elim (t.1.box h.box) (t.2.box h.box))⟩
theorem TlSt.begin {w wr : World} {g bh bn : Nat} {v : Value} {l : List Vs} {H : Names} {m : Nat} (h : TlSt w g bh bn v l H m wr) (o : Array Value) : TlBx w g bh bn v l H m wr.heap.size o (wr.alloc (.cells o 31)) := ⟨h.keep ((Mod.refl _ _).alloc _), heap_alloc_new' wr _⟩
/-- A vertex of which fewer halves are read. -/
theorem VRd.less {w : World} {vp : Value} {id : Nat} {there : Bool} {xs ys : List Ent} {ah : Option Addr} {nh ch q : Nat} (h : VRd w vp (.slice ah nh ch) ⟨id, there, xs, ys⟩) (hn : nh = ys.length) (hq : q ≤ nh) : VRd w vp (.slice ah q ch) ⟨id, there, xs, ys.take q⟩ := by
  have hh := h.halves
  simp only at hh
  rw [← hn] at hh
  obtain ⟨a, c, e, h1, h2, h3⟩ := hh.shape
  injection e with e1 e2 e3
  subst e1 e3
  have hl : (ys.take q).length = q := by rw [List.length_take]; omega
  refine ⟨⟨h.fits.id, h.fits.props, fun p hp => h.fits.halves p (List.mem_of_mem_take hp)⟩, h.props, ⟨?_, ?_, fun a' c' e j u hu => ?_⟩⟩
  · exact cellsOf_length _ _
  · exact ⟨_, _, by simp only; rw [hl], by simp only; omega, h2, h3⟩
  · simp only at e hu
    injection e with e1 e2 e3
    subst e1 e3
    rw [← cellsOf_take, List.getElem?_take] at hu
    split at hu
    · exact hh.cell _ _ rfl j u hu
    · simp at hu
/-- What the list of ghosts tells of one number. -/
def lkp (v : Nat) (t : List (Nat × Nat)) : Nat := t.foldl (fun a p => if p.1 = v then p.2 else a) 0
theorem lkp_snoc (v : Nat) (t : List (Nat × Nat)) (p : Nat × Nat) : lkp v (t ++ [p]) = if p.1 = v then p.2 else lkp v t := by simp [lkp]
theorem lkp_val (v c : Nat) (t : List (Nat × Nat)) (h : ∀ p ∈ t, p.1 = v → p.2 = c) : lkp v t = if t.any (fun p => p.1 == v) then c else 0 := by
  induction t using snoc_ind with
  | h0 => rfl
  | hs t p ih =>
    rw [lkp_snoc, ih (fun q hq => h q (by simp [hq])), List.any_append]
    by_cases hp : p.1 = v
    · have := h p (by simp) hp
      simp [hp, this]
    · have hx : (t.any (fun p => p.1 == v) || [p].any fun p => p.1 == v) = t.any fun p => p.1 == v := by
        cases hx : [p].any (fun p => p.1 == v) with
        | false => rw [Bool.or_false]
        | true =>
          exfalso
          obtain ⟨q, hq, e⟩ := List.any_eq_true.1 hx
          rw [List.mem_singleton] at hq
          subst hq
          exact hp (by simpa using e)
      rw [hx, if_neg hp]
theorem lkp_of {H : Names} {gl : List (Nat × Nat)} (h : GhostsOf H gl) (v : Nat) : lkp v gl = ofC H (tot H) v := by
  rw [lkp_val v (tot H v) gl (fun p hp e => by
    obtain ⟨a, b⟩ := p
    simp only at e
    subst e
    exact ((h.2 a b).1 hp).2.2)]
  unfold ofC
  cases ha : gl.any (fun p => p.1 == v) with
  | true =>
    obtain ⟨p, hp, e⟩ := List.any_eq_true.1 ha
    obtain ⟨a, b⟩ := p
    simp only [beq_iff_eq] at e
    subst e
    have := ((h.2 a b).1 hp).1
    rw [this]; rfl
  | false =>
    cases hg : getG v H with
    | some x => rfl
    | none =>
      rw [if_neg (by simp), if_neg (by simp)]
      rcases Nat.eq_zero_or_pos (tot H v) with e | e
      · exact e.symm
      · have := (h.2 v (tot H v)).2 ⟨hg, e, rfl⟩
        have h2 : gl.any (fun p => p.1 == v) = true := List.any_eq_true.2 ⟨_, this, by simp⟩
        rw [ha] at h2
        exact absurd h2 (by simp)
end Go.Proofs.Ytdblilhkojafgaa
