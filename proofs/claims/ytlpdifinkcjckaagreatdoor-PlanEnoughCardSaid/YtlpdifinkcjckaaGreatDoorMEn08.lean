import Derived.Test.YtlpdifinkcjckaaGreatDoorMEn07
import Derived.Lib.SmallJoins
import Derived.ChangeSlices
import Derived.Deep.Slices
import Derived.Deep.Fields
import Derived.SizedLaws
set_option linter.unusedVariables false
set_option linter.unusedSimpArgs false
namespace Go.Proofs.YtlpdifinkcjckaaGreatDoor
open Go.RowKit
def layS {α : Type} (key : α → Nat) (x : α) (s : List α × Bool) (y : α) : List α × Bool :=
 (s.1 ++ (if !s.2 && decide (key x < key y) then [x] else []) ++ (if key y = key x then [] else [y]), s.2 || decide (key x < key y))
def layT {α : Type} (key : α → Nat) (x : α) (d : Bool) (t : List α) : List α × Bool := t.foldl (layS key x) ([], d)
def layG {α : Type} (key : α → Nat) (x : α) : Bool → List α → List α
 | d, [] => if d then [] else [x]
 | d, y :: r => (if !d && decide (key x < key y) then [x] else []) ++ (if key y = key x then [] else [y]) ++ layG key x (d || decide (key x < key y)) r
section
variable {α : Type} (key : α → Nat) (x : α)
theorem layF (t : List α) : ∀ (o : List α) (d : Bool), (if (t.foldl (layS key x) (o, d)).2 then (t.foldl (layS key x) (o, d)).1 else (t.foldl (layS key x) (o, d)).1 ++ [x]) = o ++ layG key x d t := by
 induction t with
 | nil => intro o d; cases d <;> simp [layG]
 | cons y r ih =>
   intro o d
   rw [List.foldl_cons]
   refine (ih _ _).trans ?_
   simp only [layG, List.append_assoc]
theorem layT_end (d : Bool) (t : List α) : (if (layT key x d t).2 then (layT key x d t).1 else (layT key x d t).1 ++ [x]) = layG key x d t :=
 (layF key x t [] d).trans (List.nil_append _)
theorem layS_length (s : List α × Bool) (y : α) : (layS key x s y).1.length + (if (layS key x s y).2 then 0 else 1) ≤ s.1.length + (if s.2 then 0 else 1) + 1 := by
 unfold layS
 obtain ⟨o, d⟩ := s
 by_cases h1 : key x < key y <;> by_cases h2 : key y = key x <;> cases d <;> simp [h1, h2] <;> omega
theorem layT_length (d : Bool) (t : List α) : (layT key x d t).1.length + (if (layT key x d t).2 then 0 else 1) ≤ t.length + 1 := by
 have gen : ∀ (t : List α) (s : List α × Bool), (t.foldl (layS key x) s).1.length + (if (t.foldl (layS key x) s).2 then 0 else 1) ≤ s.1.length + (if s.2 then 0 else 1) + t.length := by
   intro t
   induction t with
   | nil => intro s; exact Nat.le_refl _
   | cons y r ih =>
     intro s
     rw [List.foldl_cons]
     have h1 := ih (layS key x s y)
     have h2 := layS_length key x s y
     simp only [List.length_cons]
     omega
 have := gen t ([], d)
 unfold layT
 cases d <;> simp at this ⊢ <;> omega
end
open Go.RowKit
def noVal : Val := ⟨0, 0, ⟨#[]⟩⟩
def entX (l : List Ent) (f : Nat) : Option Val := (l.find? fun e => e.key == f).map Ent.val
structure Opr where
 kind : Nat
 a : Nat
 b : Nat
 key : Nat
 val : Val
structure Rqt where
 kind : Nat
 ops : List Opr
 v : Nat
 k : Int
 dest : Int
structure Ans where
 e : Nat
 at_ : Nat
 vals : List Val
 list : List Nat
def Opr.two (o : Opr) : Bool := decide (o.kind = 5) || decide (o.kind = 6) || decide (o.kind = 7)
def Opr.hasKey (o : Opr) : Bool := decide (o.kind = 3) || decide (o.kind = 4) || decide (o.kind = 9)
def Opr.hasVal (o : Opr) : Bool := decide (o.kind = 3) || decide (o.kind = 5) || decide (o.kind = 9)
def opOK (o : Opr) : Bool :=
 decide (1 ≤ o.kind) && decide (o.kind ≤ 9) && numB o.a && (if o.two then numB o.b && decide (o.b ≠ o.a) else decide (o.b = 0)) &&
 (if o.hasKey then decide (o.key ≤ 3) else decide (o.key = 0)) && (if o.hasVal then o.val.ok else decide (o.val = noVal))
def checkR (r : Rqt) : Nat :=
 if r.kind < 1 ∨ 3 < r.kind ∨ (r.kind = 2 ∧ (r.k < 0 ∨ 8 < r.k)) ∨ (r.kind = 3 ∧ (r.dest < 0 ∨ 3 < r.dest)) then 1
 else if r.kind = 1 then
   if r.ops.length < 1 ∨ 6 < r.ops.length then 2
   else if r.ops.all opOK = false then 3
   else if r.v ≠ 0 ∨ r.k ≠ 0 ∨ r.dest ≠ 0 then 3 else 0
 else if 0 < r.ops.length ∨ numB r.v = false ∨ (r.kind = 2 ∧ r.dest ≠ 0) ∨ (r.kind = 3 ∧ r.k ≠ 0) then 3 else 0
abbrev Gr := List Vtx
def findV (L : Gr) (v : Nat) : Option Vtx := L.find? fun x => x.id == v
def layV (x : Vtx) (L : Gr) : Gr := layG Vtx.id x (!x.there) L
def propV (x : Vtx) (k : Nat) : Val := (entX x.props k).getD noVal
def setP (x : Vtx) (k : Nat) (v : Val) : Vtx := { x with props := layG Ent.key ⟨k, v⟩ (decide (v.k = 0)) x.props }
def setH (x : Vtx) (f : Nat) (v : Val) (there : Bool) : Vtx := { x with halves := layG Ent.key ⟨f, v⟩ (!there) x.halves }
structure One where
 e : Nat
 g : Gr
 vals : List Val
def oneG (L : Gr) (o : Opr) : One :=
 if o.kind = 1 then
   if (findV L o.a).isSome then ⟨7, L, []⟩ else ⟨0, layV ⟨o.a, true, [], []⟩ L, []⟩
 else match findV L o.a with
 | none => ⟨6, L, []⟩
 | some v =>
   if o.kind = 2 then (if 0 < v.halves.length then ⟨8, L, []⟩ else ⟨0, layV ⟨o.a, false, [], []⟩ L, []⟩)
   else if o.kind = 3 then ⟨0, layV (setP v o.key o.val) L, []⟩
   else if o.kind = 4 then ⟨0, L, [propV v o.key]⟩
   else if o.kind = 5 then
     match findV L o.b with
     | none => ⟨6, L, []⟩
     | some u =>
       if (entX v.halves o.b).isSome then ⟨7, L, []⟩
       else if 16 ≤ v.halves.length ∨ 16 ≤ u.halves.length then ⟨10, L, []⟩
       else ⟨0, layV (setH u o.a o.val true) (layV (setH v o.b o.val true) L), []⟩
   else if o.kind = 6 ∨ o.kind = 7 then
     match entX v.halves o.b with
     | none => ⟨6, L, []⟩
     | some val =>
       if o.kind = 7 then ⟨0, L, [val]⟩
       else match findV L o.b with
         | none => ⟨0, layV (setH v o.b noVal false) L, []⟩
         | some u => ⟨0, layV (setH u o.a noVal false) (layV (setH v o.b noVal false) L), []⟩
   else if o.kind = 8 then ⟨0, L, [⟨1, (v.halves.length : Int), ⟨#[]⟩⟩]⟩
   else if o.kind = 9 then (if propV v o.key = o.val then ⟨0, L, []⟩ else ⟨9, L, []⟩)
   else ⟨0, L, []⟩
def okStep (s : Option (Gr × List Val)) (o : Opr) : Option (Gr × List Val) :=
 s.bind fun p => if (oneG p.1 o).e = 0 then some ((oneG p.1 o).g, p.2 ++ (oneG p.1 o).vals) else none
def okRun (L : Gr) (ops : List Opr) : Option (Gr × List Val) := ops.foldl okStep (some (L, []))
def failG : Gr → Nat → List Opr → Nat × Nat
 | _, i, [] => (0, i)
 | L, i, o :: r => if (oneG L o).e = 0 then failG (oneG L o).g (i + 1) r else ((oneG L o).e, i)
def nearG (L : Gr) (v : Nat) : Nat → Nat → Bool
 | 0, x => x == v
 | d + 1, x => nearG L v d x || L.any fun y => nearG L v d y.id && (y.halves.any fun h => h.key == x)
def withinG (L : Gr) (v k : Nat) : List Nat := (L.filter fun x => nearG L v k x.id).map Vtx.id
def doG (L : Gr) (r : Rqt) : Gr × Ans :=
 if checkR r ≠ 0 then (L, ⟨checkR r, 0, [], []⟩)
 else if r.kind = 1 then
   match okRun L r.ops with
   | some p => (p.1, ⟨0, 0, p.2, []⟩)
   | none => (L, ⟨(failG L 0 r.ops).1, (failG L 0 r.ops).2, [], []⟩)
 else if (findV L r.v).isNone then (L, ⟨6, 0, [], []⟩)
 else if r.kind = 2 then (L, ⟨0, 0, [], withinG L r.v r.k.toNat⟩)
 else (L, ⟨0, 0, [], []⟩)
theorem okRun_snoc (L : Gr) (ops : List Opr) (o : Opr) : okRun L (ops ++ [o]) = okStep (okRun L ops) o := by simp [okRun]
theorem okStep_none (t : List Opr) : t.foldl okStep none = none := by
 induction t with
 | nil => rfl
 | cons o r ih => rw [List.foldl_cons]; exact ih
theorem fail_at : ∀ (pre : List Opr) (L : Gr) (us : List Val) (i : Nat) (o : Opr) (post : List Opr) (L' : Gr) (vs : List Val),
   pre.foldl okStep (some (L, us)) = some (L', vs) → (oneG L' o).e ≠ 0 → failG L i (pre ++ o :: post) = ((oneG L' o).e, i + pre.length) ∧ (pre ++ o :: post).foldl okStep (some (L, us)) = none
 | [], L, us, i, o, post, L', vs, h, he => by
   simp at h
   obtain ⟨rfl, rfl⟩ := h
   refine ⟨by simp [failG, he], ?_⟩
   rw [List.nil_append, List.foldl_cons]
   have : okStep (some (L, us)) o = none := by simp [okStep, he]
   rw [this, okStep_none]
 | p :: pre, L, us, i, o, post, L', vs, h, he => by
   rw [List.foldl_cons] at h
   by_cases hp : (oneG L p).e = 0
   · have e : okStep (some (L, us)) p = some ((oneG L p).g, us ++ (oneG L p).vals) := by simp [okStep, hp]
     rw [e] at h
     obtain ⟨h1, h2⟩ := fail_at pre _ _ (i + 1) o post L' vs h he
     refine ⟨?_, ?_⟩
     · rw [List.cons_append, failG, if_pos hp, h1, List.length_cons]
       congr 1; omega
     · rw [List.cons_append, List.foldl_cons, e, h2]
   · have e : okStep (some (L, us)) p = none := by simp [okStep, hp]
     rw [e, okStep_none] at h
     cases h
theorem okRun_fail {L L' : Gr} {ops : List Opr} {k : Nat} {o : Opr} {vs : List Val} (h : okRun L (ops.take k) = some (L', vs)) (ho : ops[k]? = some o) (he : (oneG L' o).e ≠ 0) :
   okRun L ops = none ∧ failG L 0 ops = ((oneG L' o).e, k) := by
 obtain ⟨hk, hx⟩ := List.getElem?_eq_some_iff.1 ho
 have e : ops = ops.take k ++ o :: ops.drop (k + 1) := by
   rw [← hx, ← List.drop_eq_getElem_cons hk, List.take_append_drop]
 obtain ⟨h1, h2⟩ := fail_at (ops.take k) L [] 0 o (ops.drop (k + 1)) L' vs h he
 rw [← e] at h1 h2
 exact ⟨h2, by rw [h1, List.length_take]; congr 1; omega⟩
theorem okRun_next {L L' : Gr} {ops : List Opr} {k : Nat} {o : Opr} {vs : List Val} (h : okRun L (ops.take k) = some (L', vs)) (ho : ops[k]? = some o) (he : (oneG L' o).e = 0) :
   okRun L (ops.take (k + 1)) = some ((oneG L' o).g, vs ++ (oneG L' o).vals) := by
 rw [take_snoc ho, okRun_snoc, h]
 simp [okStep, he]
section
variable {α : Type} {key : α → Nat}
def Rising (key : α → Nat) (l : List α) : Prop := l.Pairwise fun x y => key x < key y
theorem layG_done (x : α) : ∀ l : List α, layG key x true l = l.filter fun y => !decide (key y = key x)
 | [] => rfl
 | y :: r => by
   rw [layG, Bool.true_or, layG_done x r, List.filter_cons]
   by_cases h : key y = key x <;> simp [h]
theorem filter_ne_self {x : α} {l : List α} (h : ∀ y ∈ l, key y ≠ key x) : (l.filter fun y => !decide (key y = key x)) = l := by
 rw [List.filter_eq_self]
 intro y hy
 simpa using h y hy
theorem layG_open (x : α) : ∀ l : List α, Rising key l → layG key x false l = l.filter (fun y => decide (key y < key x)) ++ x :: l.filter (fun y => decide (key x < key y))
 | [], _ => by simp [layG]
 | y :: r, h => by
   obtain ⟨h1, h2⟩ := List.pairwise_cons.1 h
   rcases Nat.lt_trichotomy (key y) (key x) with c | c | c
   · have n1 : ¬ key x < key y := by omega
     have n2 : ¬ key y = key x := by omega
     rw [layG, show (false || decide (key x < key y)) = false by simp [n1], layG_open x r h2]
     simp [n1, n2, c]
   · have n1 : ¬ key x < key y := by omega
     have n2 : ¬ key y < key x := by omega
     rw [layG, show (false || decide (key x < key y)) = false by simp [n1], layG_open x r h2]
     simp [n1, n2, c]
   · have n2 : ¬ key y = key x := by omega
     have n3 : ¬ key y < key x := by omega
     have g : ∀ z ∈ r, key x < key z := fun z hz => by have := h1 z hz; omega
     have e1 : r.filter (fun y => decide (key y < key x)) = [] := by
       rw [List.filter_eq_nil_iff]; intro z hz; have := g z hz; simp; omega
     have e2 : r.filter (fun y => decide (key x < key y)) = r := by
       rw [List.filter_eq_self]; intro z hz; simpa using g z hz
     rw [layG]
     have e3 : layG key x (false || decide (key x < key y)) r = r := by
       have : (false || decide (key x < key y)) = true := by simp [c]
       rw [this, layG_done, filter_ne_self (fun z hz => by have := g z hz; omega)]
     rw [e3]
     simp [c, n2, n3, e1, e2]
theorem layG_mem {x y : α} {d : Bool} {l : List α} (h : Rising key l) : y ∈ layG key x d l ↔ (y ∈ l ∧ key y ≠ key x) ∨ (d = false ∧ y = x) := by
 cases d with
 | true => rw [layG_done]; simp
 | false =>
   rw [layG_open x l h]
   simp only [List.mem_append, List.mem_filter, List.mem_cons, decide_eq_true_eq, true_and]
   constructor
   · rintro (⟨h1, h2⟩ | rfl | ⟨h1, h2⟩)
     · exact .inl ⟨h1, by omega⟩
     · exact .inr rfl
     · exact .inl ⟨h1, by omega⟩
   · rintro (⟨h1, h2⟩ | rfl)
     · rcases Nat.lt_or_gt_of_ne h2 with c | c
       · exact .inl ⟨h1, c⟩
       · exact .inr (.inr ⟨h1, c⟩)
     · exact .inr (.inl rfl)
theorem Rising.lay {x : α} {d : Bool} {l : List α} (h : Rising key l) : Rising key (layG key x d l) := by
 cases d with
 | true => rw [layG_done]; exact List.Pairwise.filter _ h
 | false =>
   rw [layG_open x l h]
   unfold Rising
   rw [List.pairwise_append]
   refine ⟨List.Pairwise.filter _ h, List.pairwise_cons.2 ⟨fun y hy => ?_, List.Pairwise.filter _ h⟩, fun a ha b hb => ?_⟩
   · simpa using (List.mem_filter.1 hy).2
   · have h1 : key a < key x := by simpa using (List.mem_filter.1 ha).2
     rcases List.mem_cons.1 hb with rfl | hb
     · exact h1
     · have h2 : key x < key b := by simpa using (List.mem_filter.1 hb).2
       omega
theorem Rising.uniq {l : List α} (h : Rising key l) {x y : α} (hx : x ∈ l) (hy : y ∈ l) (e : key x = key y) : x = y := by
 induction l with
 | nil => cases hx
 | cons z r ih =>
   obtain ⟨h1, h2⟩ := List.pairwise_cons.1 h
   rcases List.mem_cons.1 hx with rfl | hx' <;> rcases List.mem_cons.1 hy with rfl | hy'
   · rfl
   · have := h1 y hy'; omega
   · have := h1 x hx'; omega
   · exact ih h2 hx' hy'
theorem rising_bound {l : List α} (h : Rising key l) {b m : Nat} (hb : ∀ x ∈ l, b ≤ key x ∧ key x < m) : b + l.length ≤ m ∨ l = [] := by
 induction l generalizing b with
 | nil => exact .inr rfl
 | cons x r ih =>
   obtain ⟨h1, h2⟩ := List.pairwise_cons.1 h
   have hx := hb x (by simp)
   rcases ih (b := b + 1) h2 (fun y hy => by have := h1 y hy; have := hb y (by simp [hy]); omega) with c | c
   · left; simp only [List.length_cons]; omega
   · subst c; left; simp; omega
end
open Go.RowKit
theorem layG_sub {α : Type} {key : α → Nat} {x : α} : ∀ {t : List α} {d : Bool} {y : α}, y ∈ layG key x d t → y = x ∨ y ∈ t
 | [], d, y, h => by
   unfold layG at h
   split at h
   · cases h
   · rw [List.mem_singleton] at h; exact .inl h
 | z :: r, d, y, h => by
   unfold layG at h
   simp only [List.mem_append] at h
   rcases h with (h | h) | h
   · split at h
     · rw [List.mem_singleton] at h; exact .inl h
     · cases h
   · split at h
     · cases h
     · rw [List.mem_singleton] at h; exact .inr (by simp [h])
   · rcases layG_sub h with h | h
     · exact .inl h
     · exact .inr (by simp [h])
theorem layG_length {α : Type} {key : α → Nat} {x : α} : ∀ {t : List α} {d : Bool}, (layG key x d t).length ≤ t.length + 1 := by
 intro t d
 have h := layT_length key x d t
 rw [← layT_end key x d t]
 split
 · rename_i h2; rw [if_pos h2] at h; omega
 · rename_i h2; rw [if_neg h2] at h; simp only [List.length_append, List.length_singleton]; omega
open Go.ChangeShapes Go.WideShapes Go.ChangeAt Go.RowKit
section
variable {H : Type}
def okW (t : TypeId) (d : DataW H) : Prop := (DataW.weights Tryz.prog t d).all (· ≤ reachBytes) = true
theorem weightsAll_in {P : Program} {e : TypeId} : ∀ {l : List (DataW H)} {d : DataW H}, d ∈ l → ∀ n ∈ d.weights P e, n ∈ DataW.weightsAll P e l
 | [], d, h, n, hn => by simp at h
 | x :: r, d, h, n, hn => by
   simp only [DataW.weightsAll, List.mem_append]
   rcases List.mem_cons.1 h with rfl | h
   · exact .inl hn
   · exact .inr (weightsAll_in h n hn)
theorem okW_slice {t e : TypeId} {elems spare : List (DataW H)} (ht : Tryz.prog.underlying t = some (.slice e)) (h : okW t (.slice elems spare)) : (elems.length + spare.length) * Tryz.prog.bytesOf e ≤ reachBytes ∧ ∀ d ∈ elems, okW e d := by
 unfold okW at h
 simp only [DataW.weights, ht, List.all_cons, List.all_append, Bool.and_eq_true] at h
 refine ⟨by simpa using h.1, fun d hd => List.all_eq_true.2 fun n hn => List.all_eq_true.1 h.2.1 n (weightsAll_in hd n hn)⟩
theorem okW_part {t : TypeId} {fs : Array Field} {parts : List (DataW H)} (ht : Tryz.prog.underlying t = some (.struct fs)) (h : okW t (.agg parts)) {j : Nat} {f : Field} {d : DataW H} (hf : fs[j]? = some f) (hd : parts[j]? = some d) : okW f.type d := by
 unfold okW at h
 simp only [DataW.weights, ht] at h
 exact List.all_eq_true.2 fun n hn => List.all_eq_true.1 h n (DataW.weights_mem_each (j := j) (by simp [hf]) hd n hn)
theorem flat_get {α : Type} (cells : α → List Value) {size : Nat} (hc : ∀ x, (cells x).length = size) : ∀ (l : List α) (i j : Nat) (x : α), l[i]? = some x → j < size → (l.flatMap cells)[i * size + j]? = (cells x)[j]?
 | [], i, j, x, h, _ => by simp at h
 | y :: r, 0, j, x, h, hj => by
   simp at h
   subst h
   rw [List.flatMap_cons, Nat.zero_mul, Nat.zero_add, List.getElem?_append_left (by rw [hc]; exact hj)]
 | y :: r, i + 1, j, x, h, hj => by
   simp at h
   rw [List.flatMap_cons, List.getElem?_append_right (by rw [hc, Nat.add_mul, Nat.one_mul]; omega), hc, show (i + 1) * size + j - size = i * size + j by rw [Nat.add_mul, Nat.one_mul]; omega]
   exact flat_get cells hc r i j x h hj
theorem flat_size {α : Type} (cells : α → List Value) {size : Nat} (hc : ∀ x, (cells x).length = size) (l : List α) : (l.flatMap cells).length = l.length * size := by
 induction l with
 | nil => simp
 | cons x r ih => rw [List.flatMap_cons, List.length_append, ih, hc, List.length_cons, Nat.add_mul, Nat.one_mul, Nat.add_comm]
variable {enc : TypeId × Value → H} {W : World}
theorem in_slice {α : Type} [Inhabited α] {t e : TypeId} (ht : Tryz.prog.underlying t = some (.slice e)) {size : Nat} (hC : Tryz.prog.cellsOf e = size) (h0 : 0 < size) (cells : α → List Value) (hc : ∀ x, (cells x).length = size) (Good : α → Prop)
   (elem : ∀ (n : Nat) (cs : List Value) (y : DataW H × List MemPlace), cs.length = size → DataW.trod enc Tryz.prog W 0 (fun _ => true) true n e cs = some y → okW e y.1 → ∃ x, cs = cells x ∧ Good x)
   {n : Nat} {u : Value} {y : DataW H × List MemPlace} (h : DataW.trod enc Tryz.prog W 0 (fun _ => true) true n t [u] = some y) (hw : okW t y.1) :
   ∃ l : List α, RdS W size u l.length (l.flatMap cells) ∧ (∀ x ∈ l, Good x) ∧ l.length * Tryz.prog.bytesOf e ≤ reachBytes := by
 rcases Go.Deep.open_slice ht h with ⟨hcs, _⟩ | ⟨a, len, cap, m, n', D, Pl, hcs, _, hl, hm, hmm, rfl, hi⟩
 · simp at hcs
   exact ⟨[], ⟨by simp, ⟨none, 0, hcs, Nat.le_refl _, by omega, fun _ => rfl⟩, fun a c e j u hu => by simp at hu⟩, by simp, by simp⟩
 · simp at hcs
   simp only [if_true] at hmm
   subst hmm
   obtain ⟨hb, hel⟩ := okW_slice ht hw
   obtain ⟨f, hf⟩ := Go.Deep.choose_lt (α := α) (n := len) (p := fun i x => W.cells? 0 (a.add (i * size)) size = some (cells x) ∧ Good x) (fun i hil => by
     obtain ⟨cs', h1, h2⟩ := hi i (by omega)
     rw [hC] at h1
     obtain ⟨_, hlen, _⟩ := World.cells?_some h1
     obtain ⟨x, rfl, hg⟩ := elem n' cs' _ hlen h2 (hel _ (by simp only [List.mem_map, List.mem_range]; exact ⟨i, hil, rfl⟩))
     exact ⟨x, h1, hg⟩)
   have hget : ∀ i, i < len → ((List.range len).map f)[i]? = some (f i) := fun i hi => by simp [hi]
   refine ⟨(List.range len).map f, ⟨flat_size cells hc _, ⟨some a, m, by simpa using hcs, by simpa using hl, by unfold maxLen at hm; omega, fun h => by cases h⟩, fun a' c' e' j u' hu' => ?_⟩, ?_, ?_⟩
   · rw [hcs] at e'
     injection e' with e1 e2 e3
     subst e1
     have hj : j < len * size := by
       have := (List.getElem?_eq_some_iff.1 hu').1
       rw [flat_size cells hc] at this
       simpa using this
     have hji : j / size < len := Nat.div_lt_of_lt_mul (by rw [Nat.mul_comm]; exact hj)
     have hr : j % size < size := Nat.mod_lt _ h0
     have hjj : j / size * size + j % size = j := by rw [Nat.mul_comm]; exact Nat.div_add_mod j size
     have hx := flat_get cells hc _ _ (j % size) _ (hget _ hji) hr
     rw [hjj, hu'] at hx
     obtain ⟨_, _, hat⟩ := World.cells?_some (hf _ hji).1
     have hcell := hat _ hr
     rw [Go.Deep.add_add, hjj, ← hx] at hcell
     obtain ⟨b, off, spot⟩ := a
     have hs : spot = none := by
       obtain ⟨_, _, hat0⟩ := World.cells?_some (hf 0 (Nat.lt_of_le_of_lt (Nat.zero_le _) hji)).1
       have h00 := hat0 0 h0
       rw [List.getElem?_eq_getElem (by rw [hc]; exact h0)] at h00
       simpa [Addr.add] using World.cell?_spot h00
     subst hs
     rw [addr_add] at hcell
     exact ⟨b, off, rfl, World.block_lt_of_cell? _ _ hcell, hcell⟩
   · intro x hx
     obtain ⟨i, hi, rfl⟩ := List.mem_map.1 hx
     exact (hf i (List.mem_range.1 hi)).2
   · simp only [List.length_map, List.length_range] at hb ⊢
     exact Nat.le_trans (Nat.mul_le_mul_right _ (Nat.le_add_right _ _)) hb
set_option maxRecDepth 100000 in
theorem in_val (n : Nat) (cs : List Value) (y : DataW H × List MemPlace) (hl : cs.length = 3) (h : DataW.trod enc Tryz.prog W 0 (fun _ => true) true n 68 cs = some y) : ∃ v : Val, cs = [.int .u8 (v.k : Int), .int .i64 v.n, .string v.s] ∧ v.Fits := by
 obtain ⟨xs, n', _, _, _, hlen, hf⟩ := DataW.trod_struct Tryz.underlying68 h
 match cs, hl with
 | [c0, c1, c2], _ =>
   have cu8 : Tryz.prog.cellsOf 5 = 1 := by kernel_rfl
   have ci64 : Tryz.prog.cellsOf 2 = 1 := by kernel_rfl
   have cst : Tryz.prog.cellsOf 9 = 1 := by kernel_rfl
   match xs, hlen with
   | [y0, y1, y2], _ =>
     have h0 : DataW.trod enc Tryz.prog W 0 (fun _ => true) true n' 5 ((List.drop 0 [c0, c1, c2]).take (Tryz.prog.cellsOf 5)) = some y0 := hf 0 _ rfl
     have h1 : DataW.trod enc Tryz.prog W 0 (fun _ => true) true n' 2 ((List.drop 1 [c0, c1, c2]).take (Tryz.prog.cellsOf 2)) = some y1 := hf 1 _ rfl
     have h2 : DataW.trod enc Tryz.prog W 0 (fun _ => true) true n' 9 ((List.drop 2 [c0, c1, c2]).take (Tryz.prog.cellsOf 9)) = some y2 := hf 2 _ rfl
     simp only [cu8, ci64, cst, List.drop_zero, List.take_succ_cons, List.take_zero, List.drop_succ_cons] at h0 h1 h2
     obtain ⟨a0, e0, _, w0⟩ := DataW.trod_int Tryz.underlying5 h0
     obtain ⟨a1, e1, _, w1⟩ := DataW.trod_int Tryz.underlying2 h1
     obtain ⟨s, e2, _, hs⟩ := DataW.trod_string Tryz.underlying9 h2
     simp only [List.cons.injEq, and_true] at e0 e1 e2
     have b0 := bounds_u8 w0
     have b1 := bounds_i64 w1
     obtain ⟨k, rfl⟩ := Int.eq_ofNat_of_zero_le b0.1
     subst e0 e1 e2
     exact ⟨⟨k, a1, s⟩, rfl, by simp only; omega, by simp only; omega, hs⟩
end
open Go.ChangeShapes Go.WideShapes Go.ChangeAt Go.RowKit
instance : Inhabited Ent := ⟨farE 0⟩
instance : Inhabited Vs := ⟨⟨va, .slice none 0 0, .slice none 0 0⟩⟩
instance : Inhabited Ls := ⟨⟨.slice none 0 0, []⟩⟩
section
variable {H : Type} {enc : TypeId × Value → H} {W : World}
variable {base : Nat} {v : Value} {d : DataW H} {p : List MemPlace}
end
theorem weights_at {H : Type} {P : Program} {ts : List TypeId} {ds : List (DataW H)} (h : (DataW.weightsEach P ts ds).all (· ≤ reachBytes) = true) {j : Nat} {t : TypeId} {d : DataW H} (ht : ts[j]? = some t) (hd : ds[j]? = some d) : (DataW.weights P t d).all (· ≤ reachBytes) = true :=
 List.all_eq_true.2 fun x hx => List.all_eq_true.1 h x (DataW.weights_mem_each ht hd x hx)
open Go.RowKit
theorem Seg.off_box {w : World} {t t' : TypeId} {size n g : Nat} {v : Value} {xs : List Value} {cs : Array Value} (h : Seg w t size v n xs) (hg : w.heap[g]? = some (.cells cs t' (0, 0))) (hne : t ≠ t') : ∀ b, v.ownBlock = some b → ¬ b = g := by
 intro b hb e
 subst e
 rcases h.2.2 with ⟨rfl, _⟩ | ⟨g, off, cap, cur, rfl, hc, _⟩
 · simp [Value.ownBlock] at hb
 · simp [Value.ownBlock] at hb
   subst hb
   rw [hc] at hg
   injection hg with hg
   injection hg with _ h2
   exact hne h2
open Go.RowKit
def Opr.cells (o : Opr) : List Value := [.int .u8 (o.kind : Int), .int .u32 (o.a : Int), .int .u32 (o.b : Int), .int .u8 (o.key : Int), .int .u8 (o.val.k : Int), .int .i64 o.val.n, .string o.val.s]
def Opr.v (o : Opr) : Value := .agg o.cells.toArray
structure Opr.Fits (o : Opr) : Prop where
 kind : o.kind < 256
 a : o.a < 4294967296
 b : o.b < 4294967296
 key : o.key < 256
 val : o.val.Fits
theorem noVal_iff (vk : Nat) (vn : Int) (vs : ByteArray) : ((⟨vk, vn, vs⟩ : Val) = noVal) ↔ (vk = 0 ∧ vn = 0 ∧ vs.toList = []) := by
 unfold noVal
 rw [Val.mk.injEq]
 have : vs = ⟨#[]⟩ ↔ vs.toList = [] := by
   rw [ByteArray.toList_eq]
   obtain ⟨⟨l⟩⟩ := vs
   constructor
   · intro h; injection h with h; injection h with h
   · intro h; simp at h; rw [h]
 rw [this]
open Go.RowKit
def ocells (l : List Opr) : List Value := l.flatMap Opr.cells
theorem opr_cells (o : Opr) : o.cells.length = 7 := rfl
structure ORd (w : World) (v : Value) (l : List Opr) : Prop where
 row : RdS w 7 v l.length (ocells l)
 fits : ∀ o ∈ l, o.Fits
theorem ORd.keep {w w' : World} {v : Value} {l : List Opr} (h : ORd w v l) (m : Mod (fun _ => False) w w') : ORd w' v l := ⟨h.row.keep m, h.fits⟩
theorem ORd.ent {w : World} {v : Value} {l : List Opr} (h : ORd w v l) {i : Nat} {x : Opr} (hi : l[i]? = some x) {a : Option Addr} {n c : Nat} (e : v = .slice a n c) :
   ∃ b off, a = some ⟨b, off, none⟩ ∧ b < w.heap.size ∧ w.cell? ⟨b, off + i * 7, none⟩ = some (.int .u8 (x.kind : Int)) ∧ w.cell? ⟨b, off + i * 7 + 1, none⟩ = some (.int .u32 (x.a : Int)) ∧ w.cell? ⟨b, off + i * 7 + 2, none⟩ = some (.int .u32 (x.b : Int)) ∧ w.cell? ⟨b, off + i * 7 + 3, none⟩ = some (.int .u8 (x.key : Int)) ∧ w.cell? ⟨b, off + i * 7 + 4, none⟩ = some (.int .u8 (x.val.k : Int)) ∧ w.cell? ⟨b, off + i * 7 + 5, none⟩ = some (.int .i64 x.val.n) ∧ w.cell? ⟨b, off + i * 7 + 6, none⟩ = some (.string x.val.s) := by
 have g := fun j hj => flat_get Opr.cells opr_cells l i j x hi (show j < 7 from hj)
 obtain ⟨a', c', e', -⟩ := h.row.shape
 rw [e] at e'
 injection e' with e1 e2 e3
 rw [e2] at e
 have k : ∀ j u, j < 7 → x.cells[j]? = some u → ∃ b off, a = some ⟨b, off, none⟩ ∧ b < w.heap.size ∧ w.cell? ⟨b, off + (i * 7 + j), none⟩ = some u := fun j u hj hu => h.row.cell a c e (i * 7 + j) u (by unfold ocells; rw [g j hj]; exact hu)
 obtain ⟨b, off, ea, hb, h0⟩ := k 0 _ (by omega) rfl
 have r : ∀ j u, j < 7 → x.cells[j]? = some u → w.cell? ⟨b, off + (i * 7 + j), none⟩ = some u := fun j u hj hu => by
   obtain ⟨b1, off1, ea1, _, h1⟩ := k j u hj hu
   rw [ea] at ea1
   injection ea1 with e1; injection e1 with e1 e2
   subst e1 e2
   exact h1
 refine ⟨b, off, ea, hb, h0, ?_, ?_, ?_, ?_, ?_, ?_⟩
 · rw [Nat.add_assoc]; exact r 1 _ (by omega) rfl
 · rw [Nat.add_assoc]; exact r 2 _ (by omega) rfl
 · rw [Nat.add_assoc]; exact r 3 _ (by omega) rfl
 · rw [Nat.add_assoc]; exact r 4 _ (by omega) rfl
 · rw [Nat.add_assoc]; exact r 5 _ (by omega) rfl
 · rw [Nat.add_assoc]; exact r 6 _ (by omega) rfl
def rqV (r : Rqt) (vo : Value) : Value := .agg #[.int .u8 (r.kind : Int), vo, .int .u32 (r.v : Int), .int .i64 r.k, .int .i64 r.dest]
structure Rqt.Fits (r : Rqt) : Prop where
 kind : r.kind < 256
 v : r.v < 4294967296
 k : -9223372036854775808 ≤ r.k ∧ r.k < 9223372036854775808
 dest : -9223372036854775808 ≤ r.dest ∧ r.dest < 9223372036854775808
def checkT (n : Nat) (ok : Bool) (v : Nat) (k d : Int) : Nat := if n < 1 ∨ 6 < n then 2 else if ok = false then 3 else if v ≠ 0 ∨ k ≠ 0 ∨ d ≠ 0 then 3 else 0
theorem checkR_1 (ops : List Opr) (v : Nat) (k d : Int) : checkR ⟨1, ops, v, k, d⟩ = checkT ops.length (ops.all opOK) v k d := by
 unfold checkR checkT
 simp
def checkO (n v : Nat) (x y : Int) (m : Int) : Nat := if x < 0 ∨ m < x then 1 else if 0 < n ∨ numB v = false ∨ y ≠ 0 then 3 else 0
theorem checkR_2 (ops : List Opr) (v : Nat) (k d : Int) : checkR ⟨2, ops, v, k, d⟩ = checkO ops.length v k d 8 := by
 unfold checkR checkO
 simp
theorem checkR_3 (ops : List Opr) (v : Nat) (k d : Int) : checkR ⟨3, ops, v, k, d⟩ = checkO ops.length v d k 3 := by
 unfold checkR checkO
 simp
open Go.RowKit
def Val.cells (v : Val) : List Value := [.int .u8 (v.k : Int), .int .i64 v.n, .string v.s]
def vvcells (l : List Val) : List Value := l.flatMap Val.cells
theorem RdS.none (w : World) (size : Nat) : RdS w size (.slice none 0 0) 0 [] := ⟨by simp, ⟨_, _, rfl, Nat.le_refl _, by decide, fun _ => rfl⟩, fun a c _ j u hu => by simp at hu⟩
theorem vrd_empty (w : World) (id : Nat) (there : Bool) (h : id < 4294967296) : VRd w (.slice none 0 0) (.slice none 0 0) ⟨id, there, [], []⟩ :=
 ⟨⟨h, by simp, by simp⟩, RdS.none _ _, RdS.none _ _⟩
end Go.Proofs.YtlpdifinkcjckaaGreatDoor
