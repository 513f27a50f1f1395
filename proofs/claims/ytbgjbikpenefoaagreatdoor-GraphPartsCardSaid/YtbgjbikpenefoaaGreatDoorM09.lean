/- Lemmas for the claim, in one text: RA, R4. -/
import Derived.Test.YtbgjbikpenefoaaGreatDoorM08
import Derived.Test.YtbgjbikpenefoaaGreatDoorM02
import Derived.Test.YtbgjbikpenefoaaGreatDoorA

/- RA: what is needed of it (by shake.py). -/

/- RA, as far as the seat goes. -/
/- R1, R2, R3 in one. -/
/- The document's graph: its model; gussetref03.At. -/
namespace Go.Proofs.YtbgjbikpenefoaaGreatDoor
set_option linter.unusedVariables false
open Go.RowKit
/-! A new one in its place among those that are there, or none. -/
def layS {α : Type} (key : α → Nat) (x : α) (s : List α × Bool) (y : α) : List α × Bool :=
  (s.1 ++ (if !s.2 && decide (key x < key y) then [x] else []) ++ (if key y = key x then [] else [y]), s.2 || decide (key x < key y))
def layT {α : Type} (key : α → Nat) (x : α) (d : Bool) (t : List α) : List α × Bool := t.foldl (layS key x) ([], d)
def layG {α : Type} (key : α → Nat) (x : α) : Bool → List α → List α
  | d, [] => if d then [] else [x]
  | d, y :: r => (if !d && decide (key x < key y) then [x] else []) ++ (if key y = key x then [] else [y]) ++ layG key x (d || decide (key x < key y)) r
section
variable {α : Type} (key : α → Nat) (x : α)
theorem layF (t : List α) : ∀ (o : List α) (d : Bool), (if (t.foldl (layS key x) (o, d)).2 then (t.foldl (layS key x) (o, d)).1 else (t.foldl (layS key x) (o, d)).1 ++ [x]) = o ++ layG key x d t := by
  induction t with
  | nil => intro o d; cases d <;> simp [layG]
  | cons y r ih =>
    intro o d
    rw [List.foldl_cons]
    refine (ih _ _).trans ?_
    simp only [layG, List.append_assoc]
theorem layT_end (d : Bool) (t : List α) : (if (layT key x d t).2 then (layT key x d t).1 else (layT key x d t).1 ++ [x]) = layG key x d t :=
  (layF key x t [] d).trans (List.nil_append _)
theorem layS_length (s : List α × Bool) (y : α) : (layS key x s y).1.length + (if (layS key x s y).2 then 0 else 1) ≤ s.1.length + (if s.2 then 0 else 1) + 1 := by
  unfold layS
  obtain ⟨o, d⟩ := s
  by_cases h1 : key x < key y <;> by_cases h2 : key y = key x <;> cases d <;> simp [h1, h2] <;> omega
theorem layT_length (d : Bool) (t : List α) : (layT key x d t).1.length + (if (layT key x d t).2 then 0 else 1) ≤ t.length + 1 := by
  have gen : ∀ (t : List α) (s : List α × Bool), (t.foldl (layS key x) s).1.length + (if (t.foldl (layS key x) s).2 then 0 else 1) ≤ s.1.length + (if s.2 then 0 else 1) + t.length := by
    intro t
    induction t with
    | nil => intro s; exact Nat.le_refl _
    | cons y r ih =>
      intro s
      rw [List.foldl_cons]
      have h1 := ih (layS key x s y)
      have h2 := layS_length key x s y
      simp only [List.length_cons]
      omega
  have := gen t ([], d)
  unfold layT
  cases d <;> simp at this ⊢ <;> omega
end
end Go.Proofs.YtbgjbikpenefoaaGreatDoor
/- gussetref03.Half. -/
namespace Go.Proofs.YtbgjbikpenefoaaGreatDoor
set_option linter.unusedVariables false
open Go.RowKit
def noVal : Val := ⟨0, 0, ⟨#[]⟩⟩
def entX (l : List Ent) (f : Nat) : Option Val := (l.find? fun e => e.key == f).map Ent.val
end Go.Proofs.YtbgjbikpenefoaaGreatDoor
/- The document's graph, in plain Lean: operations, requests, and what they make of a rising list of vertices. -/
namespace Go.Proofs.YtbgjbikpenefoaaGreatDoor
set_option linter.unusedVariables false
set_option linter.unusedSimpArgs false
structure Opr where
  kind : Nat
  a : Nat
  b : Nat
  key : Nat
  val : Val
structure Rqt where
  kind : Nat
  ops : List Opr
  v : Nat
  k : Int
  dest : Int
structure Ans where
  e : Nat
  at_ : Nat
  vals : List Val
  list : List Nat
def Opr.two (o : Opr) : Bool := decide (o.kind = 5) || decide (o.kind = 6) || decide (o.kind = 7)
def Opr.hasKey (o : Opr) : Bool := decide (o.kind = 3) || decide (o.kind = 4) || decide (o.kind = 9)
def Opr.hasVal (o : Opr) : Bool := decide (o.kind = 3) || decide (o.kind = 5) || decide (o.kind = 9)
/-- Is an operation in form? -/
def opOK (o : Opr) : Bool :=
  decide (1 ≤ o.kind) && decide (o.kind ≤ 9) && numB o.a && (if o.two then numB o.b && decide (o.b ≠ o.a) else decide (o.b = 0)) &&
  (if o.hasKey then decide (o.key ≤ 3) else decide (o.key = 0)) && (if o.hasVal then o.val.ok else decide (o.val = noVal))
/-- The error of a request. -/
def checkR (r : Rqt) : Nat :=
  if r.kind < 1 ∨ 3 < r.kind ∨ (r.kind = 2 ∧ (r.k < 0 ∨ 8 < r.k)) ∨ (r.kind = 3 ∧ (r.dest < 0 ∨ 3 < r.dest)) then 1
  else if r.kind = 1 then
    if r.ops.length < 1 ∨ 6 < r.ops.length then 2
    else if r.ops.all opOK = false then 3
    else if r.v ≠ 0 ∨ r.k ≠ 0 ∨ r.dest ≠ 0 then 3 else 0
  else if 0 < r.ops.length ∨ numB r.v = false ∨ (r.kind = 2 ∧ r.dest ≠ 0) ∨ (r.kind = 3 ∧ r.k ≠ 0) then 3 else 0
abbrev Gr := List Vtx
def findV (L : Gr) (v : Nat) : Option Vtx := L.find? fun x => x.id == v
def layV (x : Vtx) (L : Gr) : Gr := layG Vtx.id x (!x.there) L
def propV (x : Vtx) (k : Nat) : Val := (entX x.props k).getD noVal
def setP (x : Vtx) (k : Nat) (v : Val) : Vtx := { x with props := layG Ent.key ⟨k, v⟩ (decide (v.k = 0)) x.props }
def setH (x : Vtx) (f : Nat) (v : Val) (there : Bool) : Vtx := { x with halves := layG Ent.key ⟨f, v⟩ (!there) x.halves }
/-- An operation: its error, the graph behind it, what it reads. -/
structure One where
  e : Nat
  g : Gr
  vals : List Val
def oneG (L : Gr) (o : Opr) : One :=
  if o.kind = 1 then
    if (findV L o.a).isSome then ⟨7, L, []⟩ else ⟨0, layV ⟨o.a, true, [], []⟩ L, []⟩
  else match findV L o.a with
  | none => ⟨6, L, []⟩
  | some v =>
    if o.kind = 2 then (if 0 < v.halves.length then ⟨8, L, []⟩ else ⟨0, layV ⟨o.a, false, [], []⟩ L, []⟩)
    else if o.kind = 3 then ⟨0, layV (setP v o.key o.val) L, []⟩
    else if o.kind = 4 then ⟨0, L, [propV v o.key]⟩
    else if o.kind = 5 then
      match findV L o.b with
      | none => ⟨6, L, []⟩
      | some u =>
        if (entX v.halves o.b).isSome then ⟨7, L, []⟩
        else if 16 ≤ v.halves.length ∨ 16 ≤ u.halves.length then ⟨10, L, []⟩
        else ⟨0, layV (setH u o.a o.val true) (layV (setH v o.b o.val true) L), []⟩
    else if o.kind = 6 ∨ o.kind = 7 then
      match entX v.halves o.b with
      | none => ⟨6, L, []⟩
      | some val =>
        if o.kind = 7 then ⟨0, L, [val]⟩
        else match findV L o.b with
          | none => ⟨0, layV (setH v o.b noVal false) L, []⟩
          | some u => ⟨0, layV (setH u o.a noVal false) (layV (setH v o.b noVal false) L), []⟩
    else if o.kind = 8 then ⟨0, L, [⟨1, (v.halves.length : Int), ⟨#[]⟩⟩]⟩
    else if o.kind = 9 then (if propV v o.key = o.val then ⟨0, L, []⟩ else ⟨9, L, []⟩)
    else ⟨0, L, []⟩
def okStep (s : Option (Gr × List Val)) (o : Opr) : Option (Gr × List Val) :=
  s.bind fun p => if (oneG p.1 o).e = 0 then some ((oneG p.1 o).g, p.2 ++ (oneG p.1 o).vals) else none
def okRun (L : Gr) (ops : List Opr) : Option (Gr × List Val) := ops.foldl okStep (some (L, []))
def failG : Gr → Nat → List Opr → Nat × Nat
  | _, i, [] => (0, i)
  | L, i, o :: r => if (oneG L o).e = 0 then failG (oneG L o).g (i + 1) r else ((oneG L o).e, i)
/-- Who is within d edges of v. -/
def nearG (L : Gr) (v : Nat) : Nat → Nat → Bool
  | 0, x => x == v
  | d + 1, x => nearG L v d x || L.any fun y => nearG L v d y.id && (y.halves.any fun h => h.key == x)
def withinG (L : Gr) (v k : Nat) : List Nat := (L.filter fun x => nearG L v k x.id).map Vtx.id
def doG (L : Gr) (r : Rqt) : Gr × Ans :=
  if checkR r ≠ 0 then (L, ⟨checkR r, 0, [], []⟩)
  else if r.kind = 1 then
    match okRun L r.ops with
    | some p => (p.1, ⟨0, 0, p.2, []⟩)
    | none => (L, ⟨(failG L 0 r.ops).1, (failG L 0 r.ops).2, [], []⟩)
  else if (findV L r.v).isNone then (L, ⟨6, 0, [], []⟩)
  else if r.kind = 2 then (L, ⟨0, 0, [], withinG L r.v r.k.toNat⟩)
  else (L, ⟨0, 0, [], []⟩)
theorem okRun_snoc (L : Gr) (ops : List Opr) (o : Opr) : okRun L (ops ++ [o]) = okStep (okRun L ops) o := by simp [okRun]
theorem okStep_none (t : List Opr) : t.foldl okStep none = none := by
  induction t with
  | nil => rfl
  | cons o r ih => rw [List.foldl_cons]; exact ih
theorem fail_at : ∀ (pre : List Opr) (L : Gr) (us : List Val) (i : Nat) (o : Opr) (post : List Opr) (L' : Gr) (vs : List Val),
    pre.foldl okStep (some (L, us)) = some (L', vs) → (oneG L' o).e ≠ 0 → failG L i (pre ++ o :: post) = ((oneG L' o).e, i + pre.length) ∧ (pre ++ o :: post).foldl okStep (some (L, us)) = none
  | [], L, us, i, o, post, L', vs, h, he => by
    simp at h
    obtain ⟨rfl, rfl⟩ := h
    refine ⟨by simp [failG, he], ?_⟩
    rw [List.nil_append, List.foldl_cons]
    have : okStep (some (L, us)) o = none := by simp [okStep, he]
    rw [this, okStep_none]
  | p :: pre, L, us, i, o, post, L', vs, h, he => by
    rw [List.foldl_cons] at h
    by_cases hp : (oneG L p).e = 0
    · have e : okStep (some (L, us)) p = some ((oneG L p).g, us ++ (oneG L p).vals) := by simp [okStep, hp]
      rw [e] at h
      obtain ⟨h1, h2⟩ := fail_at pre _ _ (i + 1) o post L' vs h he
      refine ⟨?_, ?_⟩
      · rw [List.cons_append, failG, if_pos hp, h1, List.length_cons]
        congr 1; omega
      · rw [List.cons_append, List.foldl_cons, e, h2]
    · have e : okStep (some (L, us)) p = none := by simp [okStep, hp]
      rw [e, okStep_none] at h
      cases h
/-- An operation that is refused. -/
theorem okRun_fail {L L' : Gr} {ops : List Opr} {k : Nat} {o : Opr} {vs : List Val} (h : okRun L (ops.take k) = some (L', vs)) (ho : ops[k]? = some o) (he : (oneG L' o).e ≠ 0) :
    okRun L ops = none ∧ failG L 0 ops = ((oneG L' o).e, k) := by
  obtain ⟨hk, hx⟩ := List.getElem?_eq_some_iff.1 ho
  have e : ops = ops.take k ++ o :: ops.drop (k + 1) := by
    rw [← hx, ← List.drop_eq_getElem_cons hk, List.take_append_drop]
  obtain ⟨h1, h2⟩ := fail_at (ops.take k) L [] 0 o (ops.drop (k + 1)) L' vs h he
  rw [← e] at h1 h2
  exact ⟨h2, by rw [h1, List.length_take]; congr 1; omega⟩
theorem okRun_next {L L' : Gr} {ops : List Opr} {k : Nat} {o : Opr} {vs : List Val} (h : okRun L (ops.take k) = some (L', vs)) (ho : ops[k]? = some o) (he : (oneG L' o).e = 0) :
    okRun L (ops.take (k + 1)) = some ((oneG L' o).g, vs ++ (oneG L' o).vals) := by
  rw [take_snoc ho, okRun_snoc, h]
  simp [okStep, he]
/-! the lists rise: a place that is taken is laid anew, one that is free comes where it belongs -/
section
variable {α : Type} {key : α → Nat}
def Rising (key : α → Nat) (l : List α) : Prop := l.Pairwise fun x y => key x < key y
theorem layG_done (x : α) : ∀ l : List α, layG key x true l = l.filter fun y => !decide (key y = key x)
  | [] => rfl
  | y :: r => by
    rw [layG, Bool.true_or, layG_done x r, List.filter_cons]
    by_cases h : key y = key x <;> simp [h]
theorem filter_ne_self {x : α} {l : List α} (h : ∀ y ∈ l, key y ≠ key x) : (l.filter fun y => !decide (key y = key x)) = l := by
  rw [List.filter_eq_self]
  intro y hy
  simpa using h y hy
/-- In a rising list a new one stands between the lesser ones and the greater ones. -/
theorem layG_open (x : α) : ∀ l : List α, Rising key l → layG key x false l = l.filter (fun y => decide (key y < key x)) ++ x :: l.filter (fun y => decide (key x < key y))
  | [], _ => by simp [layG]
  | y :: r, h => by
    obtain ⟨h1, h2⟩ := List.pairwise_cons.1 h
    rcases Nat.lt_trichotomy (key y) (key x) with c | c | c
    · have n1 : ¬ key x < key y := by omega
      have n2 : ¬ key y = key x := by omega
      rw [layG, show (false || decide (key x < key y)) = false by simp [n1], layG_open x r h2]
      simp [n1, n2, c]
    · have n1 : ¬ key x < key y := by omega
      have n2 : ¬ key y < key x := by omega
      rw [layG, show (false || decide (key x < key y)) = false by simp [n1], layG_open x r h2]
      simp [n1, n2, c]
    · have n2 : ¬ key y = key x := by omega
      have n3 : ¬ key y < key x := by omega
      have g : ∀ z ∈ r, key x < key z := fun z hz => by have := h1 z hz; omega
      have e1 : r.filter (fun y => decide (key y < key x)) = [] := by
        rw [List.filter_eq_nil_iff]; intro z hz; have := g z hz; simp; omega
      have e2 : r.filter (fun y => decide (key x < key y)) = r := by
        rw [List.filter_eq_self]; intro z hz; simpa using g z hz
      rw [layG]
      have e3 : layG key x (false || decide (key x < key y)) r = r := by
        have : (false || decide (key x < key y)) = true := by simp [c]
        rw [this, layG_done, filter_ne_self (fun z hz => by have := g z hz; omega)]
      rw [e3]
      simp [c, n2, n3, e1, e2]
theorem layG_mem {x y : α} {d : Bool} {l : List α} (h : Rising key l) : y ∈ layG key x d l ↔ (y ∈ l ∧ key y ≠ key x) ∨ (d = false ∧ y = x) := by
  cases d with
  | true => rw [layG_done]; simp
  | false =>
    rw [layG_open x l h]
    simp only [List.mem_append, List.mem_filter, List.mem_cons, decide_eq_true_eq, true_and]
    constructor
    · rintro (⟨h1, h2⟩ | rfl | ⟨h1, h2⟩)
      · exact .inl ⟨h1, by omega⟩
      · exact .inr rfl
      · exact .inl ⟨h1, by omega⟩
    · rintro (⟨h1, h2⟩ | rfl)
      · rcases Nat.lt_or_gt_of_ne h2 with c | c
        · exact .inl ⟨h1, c⟩
        · exact .inr (.inr ⟨h1, c⟩)
      · exact .inr (.inl rfl)
theorem Rising.lay {x : α} {d : Bool} {l : List α} (h : Rising key l) : Rising key (layG key x d l) := by
  cases d with
  | true => rw [layG_done]; exact List.Pairwise.filter _ h
  | false =>
    rw [layG_open x l h]
    unfold Rising
    rw [List.pairwise_append]
    refine ⟨List.Pairwise.filter _ h, List.pairwise_cons.2 ⟨fun y hy => ?_, List.Pairwise.filter _ h⟩, fun a ha b hb => ?_⟩
    · simpa using (List.mem_filter.1 hy).2
    · have h1 : key a < key x := by simpa using (List.mem_filter.1 ha).2
      rcases List.mem_cons.1 hb with rfl | hb
      · exact h1
      · have h2 : key x < key b := by simpa using (List.mem_filter.1 hb).2
        omega
theorem Rising.uniq {l : List α} (h : Rising key l) {x y : α} (hx : x ∈ l) (hy : y ∈ l) (e : key x = key y) : x = y := by
  induction l with
  | nil => cases hx
  | cons z r ih =>
    obtain ⟨h1, h2⟩ := List.pairwise_cons.1 h
    rcases List.mem_cons.1 hx with rfl | hx' <;> rcases List.mem_cons.1 hy with rfl | hy'
    · rfl
    · have := h1 y hy'; omega
    · have := h1 x hx'; omega
    · exact ih h2 hx' hy'
theorem rising_bound {l : List α} (h : Rising key l) {b m : Nat} (hb : ∀ x ∈ l, b ≤ key x ∧ key x < m) : b + l.length ≤ m ∨ l = [] := by
  induction l generalizing b with
  | nil => exact .inr rfl
  | cons x r ih =>
    obtain ⟨h1, h2⟩ := List.pairwise_cons.1 h
    have hx := hb x (by simp)
    rcases ih (b := b + 1) h2 (fun y hy => by have := h1 y hy; have := hb y (by simp [hy]); omega) with c | c
    · left; simp only [List.length_cons]; omega
    · subst c; left; simp; omega
end
end Go.Proofs.YtbgjbikpenefoaaGreatDoor

/- R4: what is needed of it (by shake.py). -/

/- R4, as far as the seat goes. -/
/- gussetref03.Lay. -/
namespace Go.Proofs.YtbgjbikpenefoaaGreatDoor
set_option linter.unusedVariables false
open Go.RowKit
/-! what is read of two cells an element, or more, lies in no box of one cell -/
theorem layG_sub {α : Type} {key : α → Nat} {x : α} : ∀ {t : List α} {d : Bool} {y : α}, y ∈ layG key x d t → y = x ∨ y ∈ t
  | [], d, y, h => by
    unfold layG at h
    split at h
    · cases h
    · rw [List.mem_singleton] at h; exact .inl h
  | z :: r, d, y, h => by
    unfold layG at h
    simp only [List.mem_append] at h
    rcases h with (h | h) | h
    · split at h
      · rw [List.mem_singleton] at h; exact .inl h
      · cases h
    · split at h
      · cases h
      · rw [List.mem_singleton] at h; exact .inr (by simp [h])
    · rcases layG_sub h with h | h
      · exact .inl h
      · exact .inr (by simp [h])
theorem layG_length {α : Type} {key : α → Nat} {x : α} : ∀ {t : List α} {d : Bool}, (layG key x d t).length ≤ t.length + 1 := by
  intro t d
  have h := layT_length key x d t
  rw [← layT_end key x d t]
  split
  · rename_i h2; rw [if_pos h2] at h; omega
  · rename_i h2; rw [if_neg h2] at h; simp only [List.length_append, List.length_singleton]; omega
end Go.Proofs.YtbgjbikpenefoaaGreatDoor
