/- T1, T2, T3 in one. -/
import Derived.Test.YtdblilhkojafgaaKInt
import Derived.Test.YtdblilhkojafgaaVB

/- A tally's plain layer: lists by rising keys, of whatever values; how often a number is named. -/
namespace Go.Proofs.Ytdblilhkojafgaa
set_option linter.unusedVariables false
open Go.RowKit Go.Maps

section
variable {β γ : Type}
def delG (k : Nat) (l : List (Nat × β)) : List (Nat × β) := l.filter fun p => !(p.1 == k)
def getG (k : Nat) (l : List (Nat × β)) : Option β := (l.find? fun p => p.1 == k).map (·.2)
def insG (x : Nat × β) : List (Nat × β) → List (Nat × β)
  | [] => [x]
  | y :: r => if x.1 < y.1 then x :: y :: r else y :: insG x r
def putG (k : Nat) (b : β) (l : List (Nat × β)) : List (Nat × β) := insG (k, b) (delG k l)
def mapG (f : β → γ) (l : List (Nat × β)) : List (Nat × γ) := l.map fun p => (p.1, f p.2)
theorem delG_map (f : β → γ) (k : Nat) (l : List (Nat × β)) : delG k (mapG f l) = mapG f (delG k l) := by
  simp only [delG, mapG, List.filter_map]
  rfl
theorem insG_map (f : β → γ) (k : Nat) (b : β) : ∀ l : List (Nat × β), insG (k, f b) (mapG f l) = mapG f (insG (k, b) l)
  | [] => rfl
  | y :: r => by
    have ih := insG_map f k b r
    simp only [mapG, List.map_cons, insG] at ih ⊢
    split
    · rfl
    · rw [ih]; rfl
theorem putG_map (f : β → γ) (k : Nat) (b : β) (l : List (Nat × β)) : putG k (f b) (mapG f l) = mapG f (putG k b l) := by
  unfold putG; rw [delG_map, insG_map]
theorem getG_map (f : β → γ) (k : Nat) (l : List (Nat × β)) : getG k (mapG f l) = (getG k l).map f := by
  simp only [getG, mapG, List.find?_map, Option.map_map]
  rfl
theorem insL_eq (x : Nat × Value) : ∀ es : Ents, insL x es = insG x es
  | [] => rfl
  | y :: r => by simp only [insL, insG]; rw [insL_eq x r]
theorem putL_eq (k : Nat) (v : Value) (es : Ents) : putL k v es = putG k v es := by unfold putL putG; rw [insL_eq]; rfl
theorem delL_eq (k : Nat) (es : Ents) : delL k es = delG k es := rfl
theorem getL_eq (k : Nat) (es : Ents) : getL k es = getG k es := rfl
theorem getG_mem {k : Nat} {b : β} {l : List (Nat × β)} (h : getG k l = some b) : (k, b) ∈ l := by
  unfold getG at h
  cases hf : l.find? (fun p => p.1 == k) with
  | none => rw [hf] at h; cases h
  | some p =>
    rw [hf] at h
    have h1 := List.find?_some hf
    have h2 := List.mem_of_find?_eq_some hf
    simp at h h1
    obtain ⟨a, c⟩ := p
    simp only at h h1
    subst h; subst h1
    exact h2
theorem mem_delG {k : Nat} {p : Nat × β} {l : List (Nat × β)} : p ∈ delG k l ↔ p ∈ l ∧ p.1 ≠ k := by simp [delG]
theorem mem_insG {x y : Nat × β} : ∀ {l : List (Nat × β)}, y ∈ insG x l ↔ y = x ∨ y ∈ l
  | [] => by simp [insG]
  | z :: r => by
    simp only [insG]
    split
    · simp
    · rw [List.mem_cons, mem_insG]; simp; constructor <;> (intro h; rcases h with h | h | h <;> simp [h])
theorem mem_putG {k : Nat} {b : β} {p : Nat × β} {l : List (Nat × β)} : p ∈ putG k b l ↔ p = (k, b) ∨ (p ∈ l ∧ p.1 ≠ k) := by unfold putG; rw [mem_insG, mem_delG]
/-- Rising keys. -/
def Ris (l : List (Nat × β)) : Prop := l.Pairwise fun x y => x.1 < y.1
theorem Ris.del {l : List (Nat × β)} (h : Ris l) (k : Nat) : Ris (delG k l) := List.Pairwise.filter _ h
theorem Ris.ins {x : Nat × β} : ∀ {l : List (Nat × β)}, Ris l → (∀ p ∈ l, p.1 ≠ x.1) → Ris (insG x l)
  | [], _, _ => by simp [insG, Ris]
  | y :: r, h, hn => by
    obtain ⟨h1, h2⟩ := List.pairwise_cons.1 h
    simp only [insG]
    split
    · rename_i hlt
      refine List.pairwise_cons.2 ⟨fun z hz => ?_, h⟩
      rcases List.mem_cons.1 hz with rfl | hz'
      · exact hlt
      · exact Nat.lt_trans hlt (h1 z hz')
    · rename_i hge
      have hne := hn y (by simp)
      refine List.pairwise_cons.2 ⟨fun z hz => ?_, Ris.ins h2 (fun p hp => hn p (by simp [hp]))⟩
      rcases mem_insG.1 hz with rfl | hz'
      · omega
      · exact h1 z hz'
theorem Ris.put {l : List (Nat × β)} (h : Ris l) (k : Nat) (b : β) : Ris (putG k b l) := (h.del k).ins (fun p hp => (mem_delG.1 hp).2)
theorem Ris.nodup {l : List (Nat × β)} (h : Ris l) : (l.map (·.1)).Nodup := by
  rw [List.nodup_iff_pairwise_ne, List.pairwise_map]
  exact h.imp fun h => Nat.ne_of_lt h
theorem getG_of_mem {l : List (Nat × β)} (h : Ris l) {k : Nat} {b : β} (hm : (k, b) ∈ l) : getG k l = some b := by
  induction l with
  | nil => cases hm
  | cons y r ih =>
    obtain ⟨h1, h2⟩ := List.pairwise_cons.1 h
    unfold getG at ih ⊢
    rw [List.find?_cons]
    rcases List.mem_cons.1 hm with e | hm'
    · subst e; simp
    · have hlt := h1 _ hm'
      have : (y.1 == k) = false := by simp at hlt ⊢; omega
      rw [this]
      exact ih h2 hm'
theorem delG_length (k : Nat) (l : List (Nat × β)) : (delG k l).length ≤ l.length := List.length_filter_le _ _
theorem insG_length (x : Nat × β) : ∀ l : List (Nat × β), (insG x l).length = l.length + 1
  | [] => rfl
  | y :: r => by simp only [insG]; split <;> simp [insG_length x r]
theorem putG_length (k : Nat) (b : β) (l : List (Nat × β)) : (putG k b l).length ≤ l.length + 1 := by
  unfold putG; rw [insG_length]; have := delG_length k l; omega
theorem insG_perm (x : Nat × β) : ∀ l : List (Nat × β), (insG x l).Perm (x :: l)
  | [] => List.Perm.refl _
  | y :: r => by
    simp only [insG]
    split
    · exact List.Perm.refl _
    · exact ((insG_perm x r).cons y).trans (List.Perm.swap x y r)
end

/-- Who names whom. -/
abbrev Names := List (Nat × List Nat)
def tot (H : Names) (k : Nat) : Nat := (H.flatMap (·.2)).count k
theorem tot_cons (p : Nat × List Nat) (H : Names) (k : Nat) : tot (p :: H) k = p.2.count k + tot H k := by simp [tot]
theorem tot_perm {H K : Names} (h : H.Perm K) (k : Nat) : tot H k = tot K k := by
  unfold tot
  exact (h.flatMap_right (fun p => p.2)).count_eq k
theorem delG_none {β : Type} {k : Nat} {l : List (Nat × β)} (h : getG k l = none) : delG k l = l := by
  unfold delG getG at *
  rw [List.filter_eq_self]
  intro p hp
  simp only [Option.map_eq_none_iff, List.find?_eq_none] at h
  simpa using h p hp
theorem tot_del {H : Names} (hr : Ris H) {id : Nat} {l : List Nat} (h : getG id H = some l) (k : Nat) : tot (delG id H) k + l.count k = tot H k := by
  induction H with
  | nil => cases h
  | cons p r ih =>
    obtain ⟨h1, h2⟩ := List.pairwise_cons.1 hr
    by_cases e : p.1 = id
    · have hl : l = p.2 := by
        have hm := getG_of_mem hr (k := id) (b := p.2) (by rw [← e]; simp)
        rw [h] at hm
        exact Option.some.inj hm
      have hd : delG id (p :: r) = r := by
        unfold delG
        rw [List.filter_cons]
        have : (p.1 == id) = true := by simpa using e
        rw [this]
        simp only [Bool.not_true, Bool.false_eq_true, if_false]
        rw [List.filter_eq_self]
        intro q hq
        have := h1 q hq
        simp; omega
      rw [hd, tot_cons, hl]; omega
    · have hd : delG id (p :: r) = p :: delG id r := by
        unfold delG
        rw [List.filter_cons]
        have : (p.1 == id) = false := by simpa using e
        rw [this]; rfl
      have hg : getG id r = some l := by
        unfold getG at h ⊢
        rw [List.find?_cons] at h
        have : (p.1 == id) = false := by simpa using e
        rw [this] at h
        exact h
      rw [hd, tot_cons, tot_cons, ← ih h2 hg]; omega
theorem tot_put {H : Names} (id : Nat) (l : List Nat) (k : Nat) : tot (putG id l H) k = tot (delG id H) k + l.count k := by
  unfold putG
  rw [tot_perm (insG_perm _ _), tot_cons]; simp only; omega

/-- What becomes of a list of halves when one vertex is so. -/
def turnH (id : Nat) (there : Bool) (l : List Nat) (H : Names) : Names := if there then putG id l H else delG id H
theorem Ris.turn {H : Names} (h : Ris H) (id : Nat) (there : Bool) (l : List Nat) : Ris (turnH id there l H) := by
  unfold turnH; split
  · exact h.put _ _
  · exact h.del _

def subC (c : Nat → Nat) (l : List Nat) : Nat → Nat := fun x => c x - l.count x
def addC (c : Nat → Nat) (l : List Nat) : Nat → Nat := fun x => c x + l.count x
theorem subC_snoc (c : Nat → Nat) (l : List Nat) (a : Nat) : subC c (l ++ [a]) = fun k => if k = a then subC c l k - 1 else subC c l k := by
  funext k
  simp only [subC, List.count_append, List.count_singleton]
  by_cases h : k = a
  · subst h; simp; omega
  · have : (a == k) = false := by simp; omega
    simp [this, h]
theorem addC_snoc (c : Nat → Nat) (l : List Nat) (a : Nat) : addC c (l ++ [a]) = fun k => if k = a then addC c l k + 1 else addC c l k := by
  funext k
  simp only [addC, List.count_append, List.count_singleton]
  by_cases h : k = a
  · subst h; simp; omega
  · have : (a == k) = false := by simp; omega
    simp [this, h]
theorem subC_nil (c : Nat → Nat) : subC c [] = c := by funext k; simp [subC]
theorem addC_nil (c : Nat → Nat) : addC c [] = c := by funext k; simp [addC]

/-- A map of counts: nothing stands for nought. -/
def Cnt (en : Ents) (c : Nat → Nat) : Prop := ∀ k, k < 4294967296 → getL k en = if c k = 0 then none else some (.int .i64 (c k : Nat))
theorem Cnt.dec {en : Ents} {c : Nat → Nat} (h : Cnt en c) {f : Nat} (hf : f < 4294967296) (h0 : 0 < c f) (h1 : c f ≠ 1) : Cnt (putL f (.int .i64 ((c f - 1 : Nat) : Int)) en) (fun k => if k = f then c k - 1 else c k) := by
  intro k hk
  rw [getL_putL]
  simp only []
  by_cases e : f = k
  · subst e; rw [if_pos rfl, if_pos rfl, if_neg (by omega)]
  · have e' : ¬ k = f := fun e' => e e'.symm
    rw [if_neg e, if_neg e']; exact h k hk
theorem Cnt.drop {en : Ents} {c : Nat → Nat} (h : Cnt en c) {f : Nat} (v : Value) (h1 : c f = 1) : Cnt (delL f (putL f v en)) (fun k => if k = f then c k - 1 else c k) := by
  intro k hk
  rw [getL_delL]
  simp only []
  by_cases e : f = k
  · subst e; simp [h1]
  · have e' : ¬ k = f := fun e' => e e'.symm
    rw [if_neg e, if_neg e', getL_putL, if_neg e]; exact h k hk
theorem Cnt.inc {en : Ents} {c : Nat → Nat} (h : Cnt en c) {f : Nat} : Cnt (putL f (.int .i64 ((c f + 1 : Nat) : Int)) en) (fun k => if k = f then c k + 1 else c k) := by
  intro k hk
  rw [getL_putL]
  simp only []
  by_cases e : f = k
  · subst e; rw [if_pos rfl, if_pos rfl, if_neg (by omega)]
  · have e' : ¬ k = f := fun e' => e e'.symm
    rw [if_neg e, if_neg e']; exact h k hk
theorem Cnt.read {en : Ents} {c : Nat → Nat} (h : Cnt en c) {f : Nat} (hf : f < 4294967296) : (getL f en).getD (.int .i64 0) = .int .i64 (c f : Nat) := by
  rw [h f hf]
  split
  · rename_i h0; rw [h0]; rfl
  · rfl
end Go.Proofs.Ytdblilhkojafgaa

/- A tally in memory; New, Of. -/
namespace Go.Proofs.Ytdblilhkojafgaa
set_option linter.unusedVariables false
open Go.RowKit Go.Maps

abbrev Zs := List (Nat × (Value × List Nat))
def entsZ (Z : Zs) : Ents := mapG (fun b => b.1) Z
def namesZ (Z : Zs) : Names := mapG (fun b => b.2) Z
structure SegZ (w : World) (bh bn : Nat) (z : Nat × (Value × List Nat)) : Prop where
  rd : RdS w 1 z.2.1 z.2.2.length (z.2.2.map (keyV .u32))
  apart : ∀ b, z.2.1.ownBlock = some b → b ≠ bh ∧ b ≠ bn
  fit : ∀ f ∈ z.2.2, f < 4294967296
  key : z.1 < 4294967296
  lt : ∀ b, z.2.1.ownBlock = some b → b < w.heap.size
/-- The tally at g: its maps at bh and bn; who is held, by what slice of which numbers; how often each number is named. -/
structure TAt (w : World) (g bh bn : Nat) (Z : Zs) (en : Ents) (c : Nat → Nat) (m : Nat) : Prop where
  box : w.heap[g]? = some (.cells #[.map (some bh), .map (some bn)] 111 (0, 0))
  held : UMap Try.prog 27 .u32 w bh (entsZ Z)
  named : UMap Try.prog 27 .u32 w bn en
  ne : bh ≠ bn
  seg : ∀ z ∈ Z, SegZ w bh bn z
  cnt : Cnt en c
  len : en.length ≤ m
  zlen : Z.length ≤ m
  top : ∀ k, c k ≤ m
section
variable {w w' : World} {g bh bn : Nat} {Z : Zs} {en en' : Ents} {c c' : Nat → Nat} {m m' : Nat}
theorem map_ne_cells {P : Program} {kt : TypeId} {q : IntKind} {b g : Nat} {es : Ents} {cs : Array Value} {t : TypeId} {f : Nat × Nat} (hU : UMap P kt q w b es) (hb : w.heap[g]? = some (.cells cs t f)) : g ≠ b := by
  intro e
  obtain ⟨⟨es', clock, hm, _⟩⟩ := hU
  rw [e, hm] at hb
  cases hb
theorem TAt.gh (h : TAt w g bh bn Z en c m) : g ≠ bh := map_ne_cells h.held h.box
theorem TAt.gn (h : TAt w g bh bn Z en c m) : g ≠ bn := map_ne_cells h.named h.box
theorem SegZ.mod {S : Nat → Prop} {z : Nat × (Value × List Nat)} (h : SegZ w bh bn z) (mm : Mod S w w') (hs : ∀ b, z.2.1.ownBlock = some b → ¬ S b) : SegZ w' bh bn z := ⟨h.rd.mod mm hs, h.apart, h.fit, h.key, fun b hb => Nat.lt_of_lt_of_le (h.lt b hb) mm.size⟩
theorem TAt.keep (h : TAt w g bh bn Z en c m) (mm : Mod (fun _ => False) w w') : TAt w' g bh bn Z en c m :=
  ⟨mm.heap h.box (fun f => f), h.held.keep mm, h.named.keep mm, h.ne, fun z hz => (h.seg z hz).mod mm (fun _ _ f => f), h.cnt, h.len, h.zlen, h.top⟩
theorem TAt.name (h : TAt w g bh bn Z en c m) (hU : UMap Try.prog 27 .u32 w' bn en') (mm : Mod (fun i => i = bn) w w') (hc : Cnt en' c') (hl : en'.length ≤ m') (hm : m ≤ m') (ht : ∀ k, c' k ≤ m') : TAt w' g bh bn Z en' c' m' :=
  ⟨mm.heap h.box h.gn, h.held.mod mm h.ne, hU, h.ne, fun z hz => (h.seg z hz).mod mm (fun b hb => ((h.seg z hz).apart b hb).2), hc, hl, Nat.le_trans h.zlen hm, ht⟩
theorem TAt.hold {Z' : Zs} (h : TAt w g bh bn Z en c m) (hU : UMap Try.prog 27 .u32 w' bh (entsZ Z')) (mm : Mod (fun i => i = bh) w w') (hz : ∀ z ∈ Z', SegZ w bh bn z) (hm : m ≤ m') (hl : Z'.length ≤ m') : TAt w' g bh bn Z' en c m' :=
  ⟨mm.heap h.box h.gh, hU, h.named.mod mm (fun e => h.ne e.symm), h.ne, fun z hz' => (hz z hz').mod mm (fun b hb => ((hz z hz').apart b hb).1), h.cnt, Nat.le_trans h.len hm, hl, fun k => Nat.le_trans (h.top k) hm⟩
theorem TAt.rising (h : TAt w g bh bn Z en c m) : Ris Z := by
  have := UMap.rising h.held (int_keyed Try.underlying27)
  unfold entsZ mapG at this
  rw [List.pairwise_map] at this
  exact this
theorem TAt.alike (h : TAt w g bh bn Z en c m) (e : ∀ k, c' k = c k) : TAt w g bh bn Z en c' m := by
  have : c' = c := funext e
  rw [this]; exact h
end
theorem getL_entsZ (k : Nat) (Z : Zs) : getL k (entsZ Z) = (getG k Z).map (fun b => b.1) := getG_map _ _ _
theorem delL_entsZ (k : Nat) (Z : Zs) : delL k (entsZ Z) = entsZ (delG k Z) := delG_map _ _ _
theorem putL_entsZ (k : Nat) (v : Value) (l : List Nat) (Z : Zs) : putL k v (entsZ Z) = entsZ (putG k (v, l) Z) := by
  rw [putL_eq]; exact putG_map (fun b : Value × List Nat => b.1) k (v, l) Z
theorem getG_namesZ (k : Nat) (Z : Zs) : getG k (namesZ Z) = (getG k Z).map (fun b => b.2) := getG_map _ _ _
theorem delG_namesZ (k : Nat) (Z : Zs) : delG k (namesZ Z) = namesZ (delG k Z) := delG_map _ _ _
theorem putG_namesZ (k : Nat) (v : Value) (l : List Nat) (Z : Zs) : putG k l (namesZ Z) = namesZ (putG k (v, l) Z) := putG_map (fun b : Value × List Nat => b.2) k (v, l) Z

section
variable {P : Program} {kt : TypeId} {q : IntKind} {w : World} {b : Nat} {es : Ents}
theorem wpList_delete_u {ops : Array Oper} {rest : List Oper} {o : Oper} {a : Act} {Q : Exit → Act → World → Prop} (hgd : o.guard = none) (m x : Operand) (t : TypeId)
    (ho : o.op = .call { callee := .builtin .delete, args := #[m, x], argTypes := #[t, kt] }) (e : TypeId) (ht : P.underlying t = some (.map kt e)) (hk : P.underlying kt = some (.int q))
    (hm : a.eval m = .map (some b)) (h : UMap P kt q w b es) (k : Nat) (hx : a.eval x = .int q (k : Int)) (hw : (Lit.int q (k : Int)).wf = true)
    (hK : ∀ w', UMap P kt q w' b (delL k es) → Mod (fun i => i = b) w w' → wpList P ops Q rest (a.put o.dst (.tuple #[])) w') : wpList P ops Q (o :: rest) a w :=
  wpList_plain hgd fun _ hK' => by
    obtain ⟨w', hr, h1, h2⟩ := h.drop hk ht hw o.type
    unfold Oper.wp execOp
    simp only [ho, resolve, invoke, builtin, Sem.run_bind, Sem.run_pure, Result.andThen_ok, List.map_toArray, List.map_cons, List.map_nil, hm, hx, hr]
    exact hK' _ _ (hK w' h1 h2)
end

theorem tally_new (w : World) : Calls Try.prog 25 #[] w fun e w' => e = .returned (.pointer (some ⟨w.heap.size + 2, 0, none⟩)) ∧ Mod (fun _ => False) w w' ∧ TAt w' (w.heap.size + 2) w.heap.size (w.heap.size + 1) [] [] (fun _ => 0) 0 := by
  have hmm := @run_makeMap Try.prog
  have HG : Hid (Mod (fun _ => False) w (((w.alloc (.map #[] 0)).alloc (.map #[] 0)).alloc (.cells #[.map (some w.heap.size), .map (some (w.heap.size + 1))] 111)) ∧ TAt (((w.alloc (.map #[] 0)).alloc (.map #[] 0)).alloc (.cells #[.map (some w.heap.size), .map (some (w.heap.size + 1))] 111)) (w.heap.size + 2) w.heap.size (w.heap.size + 1) [] [] (fun _ => 0) 0) := by
    refine ⟨(((Mod.refl _ _).alloc _).alloc _).alloc _, ?_, ?_, ?_, by omega, (fun z hz => by cases hz), (fun k hk => by simp [getL]), by simp, by simp, (fun k => Nat.le_refl _)⟩
    · have h := heap_alloc_new' ((w.alloc (.map #[] 0)).alloc (.map #[] 0)) (.cells #[.map (some w.heap.size), .map (some (w.heap.size + 1))] 111)
      simpa using h
    · exact (UMap.made Try.prog 27 .u32 w).keep (((Mod.refl _ _).alloc _).alloc _)
    · have h := (UMap.made Try.prog 27 .u32 (w.alloc (.map #[] 0))).keep ((Mod.refl (fun _ => False) _).alloc (.cells #[.map (some w.heap.size), .map (some (w.heap.size + 1))] 111))
      simpa using h
  go_enter Try.func25, Try.ntmps25
  go_wp2
  go_ret
  exact ⟨rfl, HG.out.1, HG.out.2⟩

def ofC (H : Names) (c : Nat → Nat) (v : Nat) : Nat := if (getG v H).isSome then 0 else c v
theorem of_nil (v : Nat) (w : World) : Calls Try.prog 29 #[.pointer none, .int .u32 (v : Int)] w fun e w' => e = .returned (.int .i64 0) ∧ w = w' := by
  go_enter Try.func29, Try.ntmps29
  go_wp2
  go_ret
  exact ⟨rfl, rfl⟩
theorem list_nil (w : World) : Calls Try.prog 28 #[.pointer none] w fun e w' => e = .returned (.slice none 0 0) ∧ w = w' := by
  go_enter Try.func28, Try.ntmps28
  go_wp2
  go_ret
  exact ⟨rfl, rfl⟩
end Go.Proofs.Ytdblilhkojafgaa

/- A tally's Of; turn. -/
namespace Go.Proofs.Ytdblilhkojafgaa
set_option linter.unusedVariables false
open Go.RowKit Go.Maps

set_option maxRecDepth 100000 in
theorem of_any (g bh bn : Nat) (Z : Zs) (en : Ents) (c : Nat → Nat) (m v : Nat) (w : World) (hT : TAt w g bh bn Z en c m) (hv : v < 4294967296) :
    Calls Try.prog 29 #[.pointer (some ⟨g, 0, none⟩), .int .u32 (v : Int)] w fun e w' => e = .returned (.int .i64 (ofC (namesZ Z) c v : Nat)) ∧ Mod (fun _ => False) w w' := by
  have b0 := cell_of_row hT.box 0
  have b1 := cell_of_row hT.box 1
  simp at b0 b1
  have r1 : ∀ w', Mod (fun _ => False) w w' → (Instr.lookup 108 (.map (some bh)) (.int .u32 (v : Int)) true).run Try.prog w' = .ok (.tuple #[(getL v (entsZ Z)).getD (.slice none 0 0), .bool (getG v (namesZ Z)).isSome]) w' := fun w' mm => by
    have := (hT.held.keep mm).getOk Try.underlying27 Try.underlying108 (Try.zeroValue50 w') (u32key hv)
    rw [this]
    congr 3
    rw [getL_entsZ, getG_namesZ, Option.isSome_map, Option.isSome_map]
  have r2 : ∀ w', Mod (fun _ => False) w w' → (Instr.lookup 109 (.map (some bn)) (.int .u32 (v : Int)) false).run Try.prog w' = .ok (.int .i64 (c v : Nat)) w' := fun w' mm => by
    have := (hT.named.keep mm).get Try.underlying27 Try.underlying109 (Try.zeroValue3 w') (u32key hv)
    rw [hT.cnt.read hv] at this
    exact this
  have R1 := Lib.hid r1
  have R2 := Lib.hid r2
  have q1 := r1 w (Mod.refl _ _)
  have q2 := r2 w (Mod.refl _ _)
  have HF : Hid (∀ b, (getG v (namesZ Z)).isSome = b → ofC (namesZ Z) c v = if b then 0 else c v) := Lib.hid (fun b hb => by unfold ofC; rw [hb])
  generalize (getG v (namesZ Z)).isSome = hb at q1 HF
  generalize (getL v (entsZ Z)).getD (.slice none 0 0) = z0 at q1
  have HO := Lib.hid (HF.out hb rfl)
  generalize ofC (namesZ Z) c v = oc at HO ⊢
  clear r1 r2 R1 R2 HF hT
  cases hb
  · go_enter Try.func29, Try.ntmps29
    go_wp2
    go_ret
    exact ⟨by rw [HO.out]; rfl, Mod.refl _ _⟩
  · go_enter Try.func29, Try.ntmps29
    go_wp2
    go_ret
    exact ⟨by rw [HO.out]; rfl, Mod.refl _ _⟩
end Go.Proofs.Ytdblilhkojafgaa
