import Derived.Test.YtlpdifinkcjckaaGreatDoorMEn10
set_option linter.unusedVariables false
set_option linter.unusedSimpArgs false
namespace Go.Proofs.YtlpdifinkcjckaaGreatDoor
abbrev Wt := Nat × Nat
def modeO (o : Opr) (v : Nat) : Nat :=
 if v = o.a ∧ (o.kind = 5 ∨ o.kind = 6 ∨ o.kind ≤ 3) then 2 else if v = o.b ∧ (o.kind = 5 ∨ o.kind = 6) then 2 else if v = o.a then 1 else 0
def modeL (ops : List Opr) (v : Nat) : Nat := ops.foldl (fun m o => max m (modeO o v)) 0
def wput (k m : Nat) (l : List Wt) : List Wt := layG Prod.fst (k, m) false l
def wget (k : Nat) (l : List Wt) : Nat := ((l.find? fun y => y.1 == k).map (·.2)).getD 0
def wstep (l : List Wt) (o : Opr) : List Wt :=
 if o.kind = 5 ∨ o.kind = 6 then wput o.a 2 (wput o.b 2 l)
 else if o.kind = 1 ∨ o.kind = 2 ∨ o.kind = 3 then wput o.a 2 l
 else wput o.a (max (wget o.a l) 1) l
def wantsP (ops : List Opr) : List Wt := ops.foldl wstep []
theorem modeO_le (o : Opr) (v : Nat) : modeO o v ≤ 2 := by unfold modeO; split <;> (try split) <;> (try split) <;> omega
theorem modeL_snoc (ops : List Opr) (o : Opr) (v : Nat) : modeL (ops ++ [o]) v = max (modeL ops v) (modeO o v) := by simp [modeL]
theorem wantsP_snoc (ops : List Opr) (o : Opr) : wantsP (ops ++ [o]) = wstep (wantsP ops) o := by simp [wantsP]
theorem esnoc_ind {α : Type} {P : List α → Prop} (h0 : P []) (hs : ∀ l x, P l → P (l ++ [x])) (l : List α) : P l := by
 rw [← List.reverse_reverse l]
 induction l.reverse with
 | nil => exact h0
 | cons x r ih => rw [List.reverse_cons]; exact hs _ _ ih
theorem modeL_le (ops : List Opr) (v : Nat) : modeL ops v ≤ 2 := by
 induction ops using esnoc_ind with
 | h0 => simp [modeL]
 | hs l o ih => rw [modeL_snoc]; have := modeO_le o v; omega
theorem modeL_zero {ops : List Opr} {v : Nat} : modeL ops v = 0 ↔ ∀ o ∈ ops, modeO o v = 0 := by
 induction ops using esnoc_ind with
 | h0 => simp [modeL]
 | hs l o ih =>
   rw [modeL_snoc]
   constructor
   · intro h p hp
     rcases List.mem_append.1 hp with h1 | h1
     · exact ih.1 (by omega) p h1
     · rw [List.mem_singleton] at h1; subst h1; omega
   · intro h
     have h1 := ih.2 (fun p hp => h p (by simp [hp]))
     have h2 := h o (by simp)
     omega
structure WOK (l : List Wt) (m : Nat → Nat) : Prop where
 rise : Rising Prod.fst l
 mem : ∀ x : Wt, x ∈ l ↔ x.2 = m x.1 ∧ x.2 ≠ 0
theorem WOK.nil : WOK [] (fun _ => 0) := ⟨List.Pairwise.nil, fun x => by simp⟩
theorem WOK.get {l : List Wt} {m : Nat → Nat} (h : WOK l m) (k : Nat) : wget k l = m k := by
 unfold wget
 cases hf : l.find? fun y => y.1 == k with
 | none =>
   simp only [Option.map_none, Option.getD_none]
   apply Classical.byContradiction
   intro hn
   have := (h.mem (k, m k)).2 ⟨rfl, fun e => hn e.symm⟩
   exact absurd (List.find?_eq_none.1 hf _ this) (by simp)
 | some y =>
   simp only [Option.map_some, Option.getD_some]
   have h1 := (h.mem y).1 (List.mem_of_find?_eq_some hf)
   have h2 : y.1 = k := by simpa using List.find?_some hf
   rw [h1.1, h2]
theorem WOK.put {l : List Wt} {m m' : Nat → Nat} (h : WOK l m) {k c : Nat} (hc : c ≠ 0) (hm : ∀ v, m' v = if v = k then c else m v) : WOK (wput k c l) m' := by
 refine ⟨Rising.lay h.rise, fun x => ?_⟩
 unfold wput
 rw [layG_mem h.rise, h.mem, hm]
 obtain ⟨a, b⟩ := x
 by_cases e : a = k
 · subst e
   simp
   intro e; omega
 · simp [e]
theorem WOK.ext {l : List Wt} {m m' : Nat → Nat} (h : WOK l m) (e : ∀ v, m v = m' v) : WOK l m' := ⟨h.rise, fun x => by rw [h.mem, e]⟩
theorem WOK.step {l : List Wt} {m : Nat → Nat} (h : WOK l m) (hm : ∀ v, m v ≤ 2) (o : Opr) (hk : 1 ≤ o.kind) : WOK (wstep l o) (fun v => max (m v) (modeO o v)) := by
 unfold wstep
 by_cases h1 : o.kind = 5 ∨ o.kind = 6
 · rw [if_pos h1]
   refine (h.put (m' := fun v => if v = o.b then 2 else m v) (by omega) (fun v => rfl)).put (by omega) (fun v => ?_)
   have := hm v
   show max (m v) (modeO o v) = if v = o.a then 2 else (if v = o.b then 2 else m v)
   unfold modeO
   by_cases ea : v = o.a
   · rw [if_pos (⟨ea, by omega⟩ : v = o.a ∧ (o.kind = 5 ∨ o.kind = 6 ∨ o.kind ≤ 3)), if_pos ea]; omega
   · rw [if_neg (fun e : v = o.a ∧ (o.kind = 5 ∨ o.kind = 6 ∨ o.kind ≤ 3) => ea e.1)]
     by_cases eb : v = o.b
     · rw [if_pos (⟨eb, h1⟩ : v = o.b ∧ (o.kind = 5 ∨ o.kind = 6)), if_neg ea, if_pos eb]; omega
     · rw [if_neg (fun e : v = o.b ∧ (o.kind = 5 ∨ o.kind = 6) => eb e.1), if_neg ea, if_neg ea, if_neg eb]; omega
 · rw [if_neg h1]
   by_cases h2 : o.kind = 1 ∨ o.kind = 2 ∨ o.kind = 3
   · rw [if_pos h2]
     refine h.put (by omega) (fun v => ?_)
     have := hm v
     show max (m v) (modeO o v) = if v = o.a then 2 else m v
     unfold modeO
     by_cases ea : v = o.a
     · rw [if_pos (⟨ea, by omega⟩ : v = o.a ∧ (o.kind = 5 ∨ o.kind = 6 ∨ o.kind ≤ 3)), if_pos ea]; omega
     · rw [if_neg (fun e : v = o.a ∧ (o.kind = 5 ∨ o.kind = 6 ∨ o.kind ≤ 3) => ea e.1), if_neg (fun e : v = o.b ∧ (o.kind = 5 ∨ o.kind = 6) => h1 e.2), if_neg ea, if_neg ea]; omega
   · rw [if_neg h2]
     refine h.put (by omega) (fun v => ?_)
     have hk2 : 1 ≤ o.kind := hk
     show max (m v) (modeO o v) = if v = o.a then max (wget o.a l) 1 else m v
     unfold modeO
     rw [if_neg (fun e : v = o.a ∧ (o.kind = 5 ∨ o.kind = 6 ∨ o.kind ≤ 3) => by omega), if_neg (fun e : v = o.b ∧ (o.kind = 5 ∨ o.kind = 6) => h1 e.2)]
     by_cases ea : v = o.a
     · rw [if_pos ea, if_pos ea, h.get, ea]
     · rw [if_neg ea, if_neg ea]; omega
theorem wantsP_ok {ops : List Opr} (h : ∀ o ∈ ops, opOK o = true) : WOK (wantsP ops) (modeL ops) := by
 induction ops using esnoc_ind with
 | h0 => exact WOK.nil
 | hs l o ih =>
   rw [wantsP_snoc]
   exact ((ih (fun p hp => h p (by simp [hp]))).step (modeL_le l) o (opOK_parts (h o (by simp))).1.1).ext (fun v => (modeL_snoc l o v).symm)
theorem modeO_num {o : Opr} (h : opOK o = true) {v : Nat} (hv : modeO o v ≠ 0) : 1 ≤ v ∧ v ≤ 40 ∧ (v = o.a ∨ v = o.b) := by
 obtain ⟨hk, ha, hb, -⟩ := opOK_parts h
 unfold modeO at hv
 split at hv
 · rename_i e; rw [e.1]; exact ⟨ha.1, ha.2, .inl rfl⟩
 · split at hv
   · rename_i e
     have := hb (by unfold Opr.two; rcases e.2 with k | k <;> simp [k])
     rw [e.1]; exact ⟨this.1.1, this.1.2, .inr rfl⟩
   · split at hv
     · rename_i e; rw [e]; exact ⟨ha.1, ha.2, .inl rfl⟩
     · exact absurd rfl hv
theorem modeL_num {ops : List Opr} (h : ∀ o ∈ ops, opOK o = true) {v : Nat} (hv : modeL ops v ≠ 0) : 1 ≤ v ∧ v ≤ 40 ∧ ∃ o ∈ ops, v = o.a ∨ v = o.b := by
 have : ¬ ∀ o ∈ ops, modeO o v = 0 := fun e => hv (modeL_zero.2 e)
 simp only [Classical.not_forall] at this
 obtain ⟨o, ho, h1⟩ := this
 have h2 := modeO_num (h o ho) h1
 exact ⟨h2.1, h2.2.1, o, ho, h2.2.2⟩
theorem wants_mem {ops : List Opr} (h : ∀ o ∈ ops, opOK o = true) {x : Wt} (hx : x ∈ wantsP ops) : 1 ≤ x.1 ∧ x.1 ≤ 40 ∧ x.2 = modeL ops x.1 ∧ (x.2 = 1 ∨ x.2 = 2) := by
 obtain ⟨h1, h2⟩ := ((wantsP_ok h).mem x).1 hx
 have h3 := modeL_num h (v := x.1) (by omega)
 have h4 := modeL_le ops x.1
 exact ⟨h3.1, h3.2.1, h1, by omega⟩
theorem wants_short {ops : List Opr} (h : ∀ o ∈ ops, opOK o = true) : (wantsP ops).length ≤ 40 :=
 (wantsP_ok h).rise.short (b := 1) (m := 41) (fun x hx => by have := wants_mem h hx; omega)
open Go.RowKit Go.Maps
theorem chain_rise (ok : Ent → Bool) : ∀ (p : Option Nat) (l : List Ent), chain ok p l = true → Rising Ent.key l ∧ (∀ e ∈ l, ok e = true) ∧ ∀ e ∈ l, above p e.key = true
 | p, [], _ => ⟨List.Pairwise.nil, by simp, by simp⟩
 | p, x :: r, h => by
   rw [chain, Bool.and_eq_true, Bool.and_eq_true] at h
   obtain ⟨⟨h1, h2⟩, h3⟩ := h
   obtain ⟨i1, i2, i3⟩ := chain_rise ok (some x.key) r h3
   have lt : ∀ e ∈ r, x.key < e.key := fun e he => by have := i3 e he; simpa [above] using this
   refine ⟨List.pairwise_cons.2 ⟨lt, i1⟩, fun e he => ?_, fun e he => ?_⟩
   · rcases List.mem_cons.1 he with rfl | he
     · exact h1
     · exact i2 e he
   · rcases List.mem_cons.1 he with rfl | he
     · exact h2
     · have := lt e he
       cases p with
       | none => rfl
       | some q => simp [above] at h2 ⊢; omega
theorem right_parts {x : Vtx} (h : x.right = true) : (1 ≤ x.id ∧ x.id ≤ 40) ∧ (x.there = true ∨ (x.props = [] ∧ x.halves = [])) ∧ x.halves.length ≤ 16 ∧ chain propOK none x.props = true ∧ chain (halfOK x.id) none x.halves = true := by
 unfold Vtx.right at h
 simp only [Bool.and_eq_true, Bool.or_eq_true, decide_eq_true_eq, numB, List.isEmpty_iff] at h
 exact ⟨h.1.1.1, h.1.1.2, h.1.2, h.2.1, h.2.2⟩
theorem right_good {x : Vtx} (h : x.right = true) (ht : x.there = true) : VGood x := by
 obtain ⟨h1, h2, h3, h4, h5⟩ := right_parts h
 obtain ⟨a1, a2, -⟩ := chain_rise _ _ _ h4
 obtain ⟨b1, b2, -⟩ := chain_rise _ _ _ h5
 refine ⟨ht, h1, a1, b1, fun p hp => ?_, fun e he => ?_, h3⟩
 · have := a2 p hp
   simp only [propOK, Bool.and_eq_true, decide_eq_true_eq] at this
   exact ⟨this.1.1, this.2, this.1.2⟩
 · have := b2 e he
   simp only [halfOK, numB, Bool.and_eq_true, decide_eq_true_eq] at this
   exact ⟨this.1.1.1, this.1.1.2, this.1.2, this.2⟩
theorem lay_last {x : Ent} {l : List Ent} (h : Rising Ent.key (l ++ [x])) : layG Ent.key x false l = l ++ [x] := by
 have hr := (List.pairwise_append.1 h).1
 have hl : ∀ y ∈ l, y.key < x.key := fun y hy => (List.pairwise_append.1 h).2.2 y hy x (by simp)
 rw [layG_open _ _ hr, List.filter_eq_self.2 (fun y hy => by simpa using hl y hy), List.filter_eq_nil_iff.2 (fun y hy => by have := hl y hy; simp; omega)]
theorem putAll_pents (l : List Ent) : Rising Ent.key l → putAll [] l = pents l := by
 induction l using esnoc_ind with
 | h0 => intro _; rfl
 | hs l x ih =>
   intro h
   have hr := (List.pairwise_append.1 h).1
   have e : putAll [] (l ++ [x]) = putL x.key x.val.v (putAll [] l) := by simp [putAll]
   rw [e, ih hr, putL_pents x.key x.val hr, lay_last h]
theorem right_put {x : Vtx} (h : x.right = true) : putAll [] x.props = pents x.props ∧ putAll [] x.halves = pents x.halves := by
 obtain ⟨-, -, -, h4, h5⟩ := right_parts h
 exact ⟨putAll_pents _ (chain_rise _ _ _ h4).1, putAll_pents _ (chain_rise _ _ _ h5).1⟩
theorem layV_gone {x : Vtx} (ht : x.there = false) (L : Gr) : layV x L = layV ⟨x.id, false, [], []⟩ L := by
 unfold layV
 rw [ht]
 show layG Vtx.id x true L = layG Vtx.id _ true L
 rw [layG_done, layG_done]
theorem put_any (x : Vtx) (vp vh : Value) (g bm : Nat) (ns : List Node) (w : World) (hx : VRd w vp vh x) (hr : x.right = true) (hp : PG w g bm ns) (hn : ns.length < 1000000) :
   Calls Tryz.prog 68 #[.pointer (some ⟨g, 0, none⟩), vtxV x vp vh] w fun e w' => e = .returned (.int .i64 0) ∧ ∃ ns', Turned g bm ns (layV x (ns.map Node.x)) (fun k => k ≠ x.id) w w' ns' := by
 cases ht : x.there with
 | true =>
   refine (put_new x vp vh g bm (ns.map Node.f) w hx hr ht ⟨hp.cell, hp.nm.map⟩ (by rw [List.length_map]; exact hn)).mono ?_
   rintro e w' ⟨a, mp, me, rfl, hm, ha, hmp, hme, hd, hg, hb, h1, h2⟩
   rw [(right_put hr).1] at h1
   rw [(right_put hr).2] at h2
   refine ⟨rfl, _, Turned.add hp (n := ⟨x, a, mp, me⟩) ht (Mod.refl _ w) hm hg.map ⟨hb, h1, h2, hx.fits⟩ (fun b hb => ?_) hd⟩
   rcases Node.in_blocks.1 hb with rfl | rfl | rfl
   · exact ha
   · exact hmp
   · exact hme
 | false =>
   refine (put_del x vp vh g bm (ns.map Node.f) w hx hr ht ⟨hp.cell, hp.nm.map⟩).mono ?_
   rintro e w' ⟨rfl, hm, hg⟩
   rw [layV_gone ht]
   exact ⟨rfl, _, Turned.drop hp x.id hm hg.map⟩
def layAll (l : List Vtx) : Gr := l.foldl (fun L v => layV v L) []
theorem layAll_snoc (l : List Vtx) (x : Vtx) : layAll (l ++ [x]) = layV x (layAll l) := by simp [layAll]
theorem layAll_fair (l : List Vtx) : (∀ x ∈ l, x.right = true) → Fair (layAll l) := by
 induction l using esnoc_ind with
 | h0 => intro _; exact Fair.nil
 | hs l x ih =>
   intro h
   rw [layAll_snoc]
   exact (ih (fun y hy => h y (by simp [hy]))).lay (fun ht => right_good (h x (by simp)) ht)
def seenK (l : List Vtx) : List Nat := l.foldl (fun s v => layG id v.id false s) []
theorem seenK_snoc (l : List Vtx) (x : Vtx) : seenK (l ++ [x]) = layG id x.id false (seenK l) := by simp [seenK]
theorem seenK_rise (l : List Vtx) : Rising id (seenK l) := by
 induction l using esnoc_ind with
 | h0 => exact List.Pairwise.nil
 | hs l x ih => rw [seenK_snoc]; exact Rising.lay ih
theorem seenK_mem (l : List Vtx) (k : Nat) : k ∈ seenK l ↔ ∃ x ∈ l, x.id = k := by
 induction l using esnoc_ind with
 | h0 => simp [seenK]
 | hs l x ih =>
   rw [seenK_snoc, layG_mem (seenK_rise l), ih]
   simp only [id, true_and, List.mem_append, List.mem_singleton]
   constructor
   · rintro (⟨⟨y, hy, rfl⟩, _⟩ | h)
     · exact ⟨y, .inl hy, rfl⟩
     · exact ⟨x, .inr rfl, h.symm⟩
   · rintro ⟨y, hy | hy, rfl⟩
     · by_cases e : y.id = x.id
       · exact .inr e
       · exact .inl ⟨⟨y, hy, rfl⟩, e⟩
     · subst hy; exact .inr rfl
def apartL (l : List Vtx) : Prop := (l.map Vtx.id).Nodup
theorem layG_len {x : Nat} {l : List Nat} (h : Rising id l) : (layG id x false l).length = if x ∈ l then l.length else l.length + 1 := by
 by_cases hx : x ∈ l
 · rw [if_pos hx, layG_hit h ⟨x, hx, rfl⟩, List.length_map]
 · rw [if_neg hx, layG_open _ _ h, List.length_append, List.length_cons]
   have key : ∀ m : List Nat, (∀ y ∈ m, y ≠ x) → (m.filter fun y => decide (id y < id x)).length + (m.filter fun y => decide (id x < id y)).length = m.length := by
     intro m
     induction m with
     | nil => intro _; rfl
     | cons z r ih =>
       intro hm
       have := ih (fun y hy => hm y (by simp [hy]))
       have hz := hm z (by simp)
       rw [List.filter_cons, List.filter_cons]
       by_cases c : z < x
       · have c2 : ¬ x < z := by omega
         simp [c, c2] at this ⊢; omega
       · have c2 : x < z := by omega
         simp [c, c2] at this ⊢; omega
   have := key l (fun y hy e => hx (e ▸ hy))
   omega
theorem seenK_len (l : List Vtx) : (seenK l).length ≤ l.length ∧ ((seenK l).length = l.length ↔ apartL l) := by
 induction l using esnoc_ind with
 | h0 => simp [seenK, apartL]
 | hs l x ih =>
   rw [seenK_snoc, layG_len (seenK_rise l), List.length_append, List.length_singleton]
   unfold apartL at ih ⊢
   rw [List.map_append, List.nodup_append]
   by_cases hx : x.id ∈ seenK l
   · rw [if_pos hx]
     refine ⟨by omega, ⟨fun h => by omega, fun h => ?_⟩⟩
     obtain ⟨y, hy, e⟩ := (seenK_mem l x.id).1 hx
     exact absurd e (h.2.2 y.id (List.mem_map_of_mem hy) x.id (by simp))
   · rw [if_neg hx]
     refine ⟨by omega, ?_⟩
     rw [show (seenK l).length + 1 = l.length + 1 ↔ (seenK l).length = l.length by omega, ih.2]
     constructor
     · intro h
       refine ⟨h, by simp, fun a ha b hb e => ?_⟩
       simp at hb
       obtain ⟨y, hy, e2⟩ := List.mem_map.1 ha
       exact hx ((seenK_mem l x.id).2 ⟨y, hy, by rw [e2, e, hb]⟩)
     · intro h; exact h.1
def formL (l : List Vtx) : Bool := l.all Vtx.right && decide ((seenK l).length = l.length)
def edgeG (L : Gr) (y x : Nat) : Prop := ∃ z ∈ L, z.id = y ∧ ∃ h ∈ z.halves, h.key = x
theorem near_succ {L : Gr} {v d x : Nat} : nearG L v (d + 1) x = true ↔ nearG L v d x = true ∨ ∃ y, nearG L v d y = true ∧ edgeG L y x := by
 show (nearG L v d x || L.any fun y => nearG L v d y.id && (y.halves.any fun h => h.key == x)) = true ↔ _
 rw [Bool.or_eq_true, List.any_eq_true]
 constructor
 · rintro (h | ⟨z, hz, h⟩)
   · exact .inl h
   · rw [Bool.and_eq_true, List.any_eq_true] at h
     obtain ⟨h1, e, he, h2⟩ := h
     exact .inr ⟨z.id, h1, z, hz, rfl, e, he, by simpa using h2⟩
 · rintro (h | ⟨y, h1, z, hz, rfl, e, he, h2⟩)
   · exact .inl h
   · refine .inr ⟨z, hz, ?_⟩
     rw [Bool.and_eq_true, List.any_eq_true]
     exact ⟨h1, e, he, by simpa using h2⟩
theorem near_zero {L : Gr} {v x : Nat} : nearG L v 0 x = true ↔ x = v := by
 show (x == v) = true ↔ _
 simp
theorem near_in {L : Gr} (h : Good L) {v : Nat} (hv : ∃ y ∈ L, y.id = v) : ∀ d x, nearG L v d x = true → ∃ y ∈ L, y.id = x
 | 0, x, hx => by rw [near_zero] at hx; subst hx; exact hv
 | d + 1, x, hx => by
   rcases near_succ.1 hx with hx | ⟨y, _, z, hz, _, e, he, rfl⟩
   · exact near_in h hv d x hx
   · obtain ⟨u, hu, e1, _⟩ := h.pair z hz e he
     exact ⟨u, hu, e1⟩
structure Ring (L : Gr) (v d : Nat) (S : Nat → Prop) (ring : List Nat) : Prop where
 seen : ∀ x, S x ↔ nearG L v d x = true
 out : ∀ y x, nearG L v d y = true → y ∉ ring → edgeG L y x → nearG L v d x = true
 near : ∀ y ∈ ring, nearG L v d y = true
theorem Ring.start (L : Gr) (v : Nat) {S : Nat → Prop} (hS : ∀ x, S x ↔ x = v) : Ring L v 0 S [v] :=
 ⟨fun x => by rw [hS, near_zero], fun y x hy hn _ => absurd (near_zero.1 hy) (fun e => hn (by simp [e])), fun y hy => by rw [List.mem_singleton] at hy; exact near_zero.2 hy⟩
theorem Ring.next {L : Gr} {v d : Nat} {S S' : Nat → Prop} {ring next : List Nat} (h : Ring L v d S ring) (hS : ∀ x, S' x ↔ S x ∨ ∃ y ∈ ring, edgeG L y x) (hn : ∀ x, x ∈ next ↔ S' x ∧ ¬ S x) : Ring L v (d + 1) S' next := by
 have hs : ∀ x, S' x ↔ nearG L v (d + 1) x = true := fun x => by
   rw [hS, near_succ]
   constructor
   · rintro (hx | ⟨y, hy, e⟩)
     · exact .inl ((h.seen x).1 hx)
     · exact .inr ⟨y, h.near y hy, e⟩
   · rintro (hx | ⟨y, hy, e⟩)
     · exact .inl ((h.seen x).2 hx)
     · by_cases hr : y ∈ ring
       · exact .inr ⟨y, hr, e⟩
       · exact .inl ((h.seen x).2 (h.out y x hy hr e))
 refine ⟨hs, fun y x hy hny e => ?_, fun y hy => (hs y).1 ((hn y).1 hy).1⟩
 have h1 := (hs y).2 hy
 have h2 : S y := Classical.byContradiction fun c => hny ((hn y).2 ⟨h1, c⟩)
 exact near_succ.2 (.inr ⟨y, (h.seen y).1 h2, e⟩)
theorem mem_withinG {L : Gr} {v k x : Nat} : x ∈ withinG L v k ↔ nearG L v k x = true ∧ ∃ y ∈ L, y.id = x := by
 unfold withinG
 rw [List.mem_map]
 constructor
 · rintro ⟨y, hy, rfl⟩
   rw [List.mem_filter] at hy
   exact ⟨hy.2, y, hy.1, rfl⟩
 · rintro ⟨h, y, hy, rfl⟩
   exact ⟨y, List.mem_filter.2 ⟨hy, h⟩, rfl⟩
theorem withinG_rising {L : Gr} (h : Rising Vtx.id L) (v k : Nat) : (withinG L v k).Pairwise (· < ·) := by
 unfold withinG
 rw [List.pairwise_map]
 exact List.Pairwise.filter _ h
theorem rising_ext9 : ∀ {a b : List Nat}, a.Pairwise (· < ·) → b.Pairwise (· < ·) → (∀ p, p ∈ a ↔ p ∈ b) → a = b
 | [], [], _, _, _ => rfl
 | [], y :: r, _, _, h => absurd ((h y).2 (by simp)) (by simp)
 | x :: r, [], _, _, h => absurd ((h x).1 (by simp)) (by simp)
 | x :: r, y :: t, ha, hb, h => by
   obtain ⟨hx, hr⟩ := List.pairwise_cons.1 ha
   obtain ⟨hy, ht⟩ := List.pairwise_cons.1 hb
   have e : x = y := by
     rcases List.mem_cons.1 ((h x).1 (by simp)) with e | e
     · exact e
     · rcases List.mem_cons.1 ((h y).2 (by simp)) with e2 | e2
       · exact e2.symm
       · have := hx y e2; have := hy x e; omega
   subst e
   rw [rising_ext9 hr ht (fun p => ?_)]
   constructor
   · intro hp
     rcases List.mem_cons.1 ((h p).1 (by simp [hp])) with e | e
     · have := hx p hp; omega
     · exact e
   · intro hp
     rcases List.mem_cons.1 ((h p).2 (by simp [hp])) with e | e
     · have := hy p hp; omega
     · exact e
theorem Ring.all {L : Gr} (hL : Good L) {v : Nat} (hv : ∃ y ∈ L, y.id = v) {k : Nat} {S : Nat → Prop} {ring : List Nat} (h : Ring L v k S ring) {ks : List Nat} (hr : ks.Pairwise (· < ·)) (hk : ∀ x, x ∈ ks ↔ S x) : ks = withinG L v k :=
 rising_ext9 hr (withinG_rising hL.rise v k) fun x => by
   rw [hk, h.seen, mem_withinG]
   exact ⟨fun e => ⟨e, near_in hL hv k x e⟩, fun e => e.1⟩
section
variable {α : Type} {key : α → Nat}
theorem rising_extG : ∀ {a b : List α}, Rising key a → Rising key b → (∀ p, p ∈ a ↔ p ∈ b) → a = b
 | [], [], _, _, _ => rfl
 | [], y :: r, _, _, h => absurd ((h y).2 (by simp)) (by simp)
 | x :: r, [], _, _, h => absurd ((h x).1 (by simp)) (by simp)
 | x :: r, y :: t, ha, hb, h => by
   obtain ⟨hx, hr⟩ := List.pairwise_cons.1 ha
   obtain ⟨hy, ht⟩ := List.pairwise_cons.1 hb
   have e : x = y := by
     rcases List.mem_cons.1 ((h x).1 (by simp)) with e | e
     · exact e
     · rcases List.mem_cons.1 ((h y).2 (by simp)) with e2 | e2
       · exact e2.symm
       · have := hx y e2; have := hy x e; omega
   subst e
   rw [rising_extG hr ht (fun p => ?_)]
   constructor
   · intro hp
     rcases List.mem_cons.1 ((h p).1 (by simp [hp])) with e | e
     · subst e; have := hx p hp; omega
     · exact e
   · intro hp
     rcases List.mem_cons.1 ((h p).2 (by simp [hp])) with e | e
     · subst e; have := hy p hp; omega
     · exact e
end
theorem findV_iff {L : Gr} (hr : Rising Vtx.id L) {v : Nat} {x : Vtx} : findV L v = some x ↔ x ∈ L ∧ x.id = v := by
 constructor
 · exact findV_mem
 · rintro ⟨hx, rfl⟩
   cases h : findV L x.id with
   | none => exact absurd rfl (findV_none.1 h x hx)
   | some y =>
     obtain ⟨h1, h2⟩ := findV_mem h
     rw [hr.uniq h1 hx h2]
end Go.Proofs.YtlpdifinkcjckaaGreatDoor
