/- Lemmas for the claim, in one text: G7, RA, R4, R5. -/
import Derived.Test.YtnkmfgklmfmfeaaGreatDoorM11
import Derived.Test.YtnkmfgklmfmfeaaGreatDoorM06
import Derived.Test.YtnkmfgklmfmfeaaGreatDoorA

/- G7: what is needed of it (by shake.py). -/

/- G7, as far as the seat goes. -/
/- s[lo:hi] of slices of structs that are only read. -/
namespace Go.Proofs.YtnkmfgklmfmfeaaGreatDoor
set_option linter.unusedVariables false
open Go.RowKit
theorem RdS.cut {w : World} {size n : Nat} {v : Value} {xs : List Value} {P : Program} {e : TypeId} (h : RdS w size v n xs) (h0 : 0 < size) {lo hi : Nat} (hlo : lo ≤ hi) (hhi : hi ≤ n) {t : TypeId} (ht : P.underlying t = some (.slice e)) (hsz : (P.info? e).map (·.size) = some size) (kk kk' : IntKind)
    (L H : Option Value) (hL : L = some (.int kk lo) ∨ (L = none ∧ lo = 0)) (hH : H = some (.int kk' hi) ∨ (H = none ∧ hi = n)) :
    ∃ v', (∀ wx, (Instr.slice t v L H none).run P wx = .ok v' wx) ∧ RdS w size v' (hi - lo) ((xs.take (hi * size)).drop (lo * size)) ∧ v'.ownBlock = v.ownBlock := by
  obtain ⟨i, hi', hsi⟩ : ∃ i, P.info? e = some i ∧ i.size = size := by
    cases hp : P.info? e with
    | none => simp [hp] at hsz
    | some i => exact ⟨i, rfl, by simpa [hp] using hsz⟩
  obtain ⟨a, c, rfl, h1, h2, h3⟩ := h.shape
  have hx := h.len
  have hm : hi * size ≤ n * size := Nat.mul_le_mul_right _ hhi
  have hlen : ((xs.take (hi * size)).drop (lo * size)).length = (hi - lo) * size := by
    rw [List.length_drop, List.length_take, hx, Nat.sub_mul]; omega
  have hcell := h.cell a c rfl
  cases a with
  | none =>
    obtain rfl := h3 rfl
    obtain rfl : hi = 0 := by omega
    obtain rfl : lo = 0 := by omega
    obtain rfl : n = 0 := by omega
    refine ⟨.slice none 0 0, ?_, ⟨by rw [hlen], ⟨none, 0, rfl, by simp, by omega, fun _ => rfl⟩, fun a' c' e' j u hu => ?_⟩, rfl⟩
    · intro wx; rcases hL with rfl | ⟨rfl, _⟩ <;> rcases hH with rfl | ⟨rfl, _⟩ <;> simp [Instr.slice, run_underlying ht, Instr.sliceBounds, Instr.sliceBound, asIntOf, sizeOf, typeInfo, hi']
    · simp at hu
  | some ad =>
    have hhc : hi ≤ c := by omega
    have hlc : lo ≤ c := by omega
    refine ⟨.slice (some (if c = lo then ad else ad.add (lo * size))) (hi - lo) (c - lo), ?_, ⟨hlen, ⟨_, _, rfl, by omega, by omega, fun h => by cases h⟩, fun a' c' e' j u hu => ?_⟩, ?_⟩
    · intro wx
      by_cases hc : c = lo
      · subst hc
        obtain rfl : hi = c := by omega
        rcases hL with rfl | ⟨rfl, hl0⟩ <;> rcases hH with rfl | ⟨rfl, hhn⟩ <;> simp_all [Instr.slice, run_underlying ht, Instr.sliceBounds, Instr.sliceBound, asIntOf, sizeOf, typeInfo]
      · rcases hL with rfl | ⟨rfl, hl0⟩ <;> rcases hH with rfl | ⟨rfl, hhn⟩ <;> simp_all [Instr.slice, run_underlying ht, Instr.sliceBounds, Instr.sliceBound, asIntOf, sizeOf, typeInfo]
    · injection e' with e1 e2 e3
      have hj : j < (hi - lo) * size := by rw [← hlen]; exact (List.getElem?_eq_some_iff.1 hu).1
      have hc : c ≠ lo := fun e => by
        have : hi - lo = 0 := by omega
        rw [this] at hj; omega
      rw [List.getElem?_drop, List.getElem?_take] at hu
      split at hu
      · obtain ⟨b, off, ea, hb, hcl⟩ := hcell (lo * size + j) u hu
        injection ea with ea
        subst ea
        refine ⟨b, off + lo * size, by rw [← e1, if_neg hc, addr_add], hb, ?_⟩
        rw [Nat.add_assoc, hcl]
      · simp at hu
    · by_cases hc : c = lo
      · simp [hc, Value.ownBlock]
      · obtain ⟨b, off, spot⟩ := ad
        cases spot <;> simp only [hc, if_false, Value.ownBlock, Addr.add] <;> (try split) <;> rfl
theorem vcells_drop (l : List Vs) (k : Nat) : (vcells l).drop (k * 4) = vcells (l.drop k) := by
  induction l generalizing k with
  | nil => simp [vcells]
  | cons s r ih =>
    cases k with
    | zero => simp
    | succ k =>
      have : vcells (s :: r) = s.cells ++ vcells r := by simp [vcells]
      rw [this, show (k + 1) * 4 = 4 + k * 4 by omega, ← List.drop_drop, List.drop_left' (by rfl), List.drop_succ_cons, ih]
theorem vcells_take (l : List Vs) (k : Nat) : (vcells l).take (k * 4) = vcells (l.take k) := by
  induction l generalizing k with
  | nil => simp [vcells]
  | cons s r ih =>
    cases k with
    | zero => simp [vcells]
    | succ k =>
      have : vcells (s :: r) = s.cells ++ vcells r := by simp [vcells]
      have h2 : vcells (s :: r.take k) = s.cells ++ vcells (r.take k) := by simp [vcells]
      rw [this, show (k + 1) * 4 = s.cells.length + k * 4 by rw [show s.cells.length = 4 from rfl]; omega, List.take_length_add_append, List.take_succ_cons, h2, ih]
theorem LRd.from {w : World} {v : Value} {l : List Vs} (h : LRd w v l) {k : Nat} (hk : k ≤ l.length) (kk : IntKind) :
    ∃ v', (Instr.slice 40 v (some (.int kk k)) none none).run Tryz.prog w = .ok v' w ∧ LRd w v' (l.drop k) := by
  obtain ⟨v', h1, h2, _⟩ := h.row.cut (by omega) (lo := k) (hi := l.length) hk (Nat.le_refl _) Tryz.underlying40 (e := 44) (by kernel_rfl) kk kk (some (.int kk k)) none (.inl rfl) (.inr ⟨rfl, rfl⟩)
  refine ⟨v', h1 _, ?_, fun s hs => h.each s (List.mem_of_mem_drop hs)⟩
  rw [List.take_of_length_le (by rw [h.row.len]; omega), vcells_drop] at h2
  simpa using h2
theorem LRd.to {w : World} {v : Value} {l : List Vs} (h : LRd w v l) {k : Nat} (hk : k ≤ l.length) (kk : IntKind) :
    ∃ v', (Instr.slice 40 v none (some (.int kk k)) none).run Tryz.prog w = .ok v' w ∧ LRd w v' (l.take k) := by
  obtain ⟨v', h1, h2, _⟩ := h.row.cut (by omega) (lo := 0) (hi := k) (Nat.zero_le _) hk Tryz.underlying40 (e := 44) (by kernel_rfl) kk kk none (some (.int kk k)) (.inr ⟨rfl, rfl⟩) (.inl rfl)
  refine ⟨v', h1 _, ?_, fun s hs => h.each s (List.mem_of_mem_take hs)⟩
  rw [vcells_take] at h2
  simpa [List.length_take, Nat.min_eq_left hk] using h2
theorem cellsOf_take (q : IntKind) (l : List Ent) (k : Nat) : (cellsOf q l).take (k * 4) = cellsOf q (l.take k) := by
  induction l generalizing k with
  | nil => simp [cellsOf]
  | cons s r ih =>
    cases k with
    | zero => simp [cellsOf]
    | succ k =>
      have : cellsOf q (s :: r) = s.cells q ++ cellsOf q r := by simp [cellsOf]
      have h2 : cellsOf q (s :: r.take k) = s.cells q ++ cellsOf q (r.take k) := by simp [cellsOf]
      rw [this, show (k + 1) * 4 = (s.cells q).length + k * 4 by rw [show (s.cells q).length = 4 from rfl]; omega, List.take_length_add_append, List.take_succ_cons, h2, ih]
/-- A vertex with fewer halves. -/
theorem VRd.cut {w : World} {vp vh : Value} {x : Vtx} (h : VRd w vp vh x) {k : Nat} (hk : k ≤ x.halves.length) (kk : IntKind) :
    ∃ v', (∀ wx, (Instr.slice 42 vh none (some (.int kk k)) none).run Tryz.prog wx = .ok v' wx) ∧ VRd w vp v' ⟨x.id, x.there, x.props, x.halves.take k⟩ := by
  obtain ⟨v', h1, h2, _⟩ := h.halves.cut (by omega) (lo := 0) (hi := k) (Nat.zero_le _) hk Tryz.underlying42 (e := 57) (by kernel_rfl) kk kk none (some (.int kk k)) (.inr ⟨rfl, rfl⟩) (.inl rfl)
  refine ⟨v', h1, ⟨h.fits.id, h.fits.props, fun p hp => h.fits.halves p (List.mem_of_mem_take hp)⟩, h.props, ?_⟩
  rw [cellsOf_take] at h2
  simpa [List.length_take, Nat.min_eq_left hk] using h2
end Go.Proofs.YtnkmfgklmfmfeaaGreatDoor

/- RA: what is needed of it (by shake.py). -/

/- RA, as far as the seat goes. -/
/- R1, R2, R3 in one. -/
/- The document's graph: its model; gussetref03.At. -/
namespace Go.Proofs.YtnkmfgklmfmfeaaGreatDoor
set_option linter.unusedVariables false
open Go.RowKit
/-! A new one in its place among those that are there, or none. -/
def layS {α : Type} (key : α → Nat) (x : α) (s : List α × Bool) (y : α) : List α × Bool :=
  (s.1 ++ (if !s.2 && decide (key x < key y) then [x] else []) ++ (if key y = key x then [] else [y]), s.2 || decide (key x < key y))
def layT {α : Type} (key : α → Nat) (x : α) (d : Bool) (t : List α) : List α × Bool := t.foldl (layS key x) ([], d)
def layG {α : Type} (key : α → Nat) (x : α) : Bool → List α → List α
  | d, [] => if d then [] else [x]
  | d, y :: r => (if !d && decide (key x < key y) then [x] else []) ++ (if key y = key x then [] else [y]) ++ layG key x (d || decide (key x < key y)) r
section
variable {α : Type} (key : α → Nat) (x : α)
theorem layT_snoc (d : Bool) (t : List α) (y : α) : layT key x d (t ++ [y]) = layS key x (layT key x d t) y := by simp [layT]
theorem layF (t : List α) : ∀ (o : List α) (d : Bool), (if (t.foldl (layS key x) (o, d)).2 then (t.foldl (layS key x) (o, d)).1 else (t.foldl (layS key x) (o, d)).1 ++ [x]) = o ++ layG key x d t := by
  induction t with
  | nil => intro o d; cases d <;> simp [layG]
  | cons y r ih =>
    intro o d
    rw [List.foldl_cons]
    refine (ih _ _).trans ?_
    simp only [layG, List.append_assoc]
theorem layT_end (d : Bool) (t : List α) : (if (layT key x d t).2 then (layT key x d t).1 else (layT key x d t).1 ++ [x]) = layG key x d t :=
  (layF key x t [] d).trans (List.nil_append _)
theorem layS_length (s : List α × Bool) (y : α) : (layS key x s y).1.length + (if (layS key x s y).2 then 0 else 1) ≤ s.1.length + (if s.2 then 0 else 1) + 1 := by
  unfold layS
  obtain ⟨o, d⟩ := s
  by_cases h1 : key x < key y <;> by_cases h2 : key y = key x <;> cases d <;> simp [h1, h2] <;> omega
theorem layT_length (d : Bool) (t : List α) : (layT key x d t).1.length + (if (layT key x d t).2 then 0 else 1) ≤ t.length + 1 := by
  have gen : ∀ (t : List α) (s : List α × Bool), (t.foldl (layS key x) s).1.length + (if (t.foldl (layS key x) s).2 then 0 else 1) ≤ s.1.length + (if s.2 then 0 else 1) + t.length := by
    intro t
    induction t with
    | nil => intro s; exact Nat.le_refl _
    | cons y r ih =>
      intro s
      rw [List.foldl_cons]
      have h1 := ih (layS key x s y)
      have h2 := layS_length key x s y
      simp only [List.length_cons]
      omega
  have := gen t ([], d)
  unfold layT
  cases d <;> simp at this ⊢ <;> omega
end
end Go.Proofs.YtnkmfgklmfmfeaaGreatDoor
/- gussetref03.Half. -/
namespace Go.Proofs.YtnkmfgklmfmfeaaGreatDoor
set_option linter.unusedVariables false
open Go.RowKit
def noVal : Val := ⟨0, 0, ⟨#[]⟩⟩
def entX (l : List Ent) (f : Nat) : Option Val := (l.find? fun e => e.key == f).map Ent.val
end Go.Proofs.YtnkmfgklmfmfeaaGreatDoor
/- The document's graph, in plain Lean: operations, requests, and what they make of a rising list of vertices. -/
namespace Go.Proofs.YtnkmfgklmfmfeaaGreatDoor
set_option linter.unusedVariables false
set_option linter.unusedSimpArgs false
structure Opr where
  kind : Nat
  a : Nat
  b : Nat
  key : Nat
  val : Val
structure Rqt where
  kind : Nat
  ops : List Opr
  v : Nat
  k : Int
  dest : Int
structure Ans where
  e : Nat
  at_ : Nat
  vals : List Val
  list : List Nat
def Opr.two (o : Opr) : Bool := decide (o.kind = 5) || decide (o.kind = 6) || decide (o.kind = 7)
def Opr.hasKey (o : Opr) : Bool := decide (o.kind = 3) || decide (o.kind = 4) || decide (o.kind = 9)
def Opr.hasVal (o : Opr) : Bool := decide (o.kind = 3) || decide (o.kind = 5) || decide (o.kind = 9)
/-- Is an operation in form? -/
def opOK (o : Opr) : Bool :=
  decide (1 ≤ o.kind) && decide (o.kind ≤ 9) && numB o.a && (if o.two then numB o.b && decide (o.b ≠ o.a) else decide (o.b = 0)) &&
  (if o.hasKey then decide (o.key ≤ 3) else decide (o.key = 0)) && (if o.hasVal then o.val.ok else decide (o.val = noVal))
/-- The error of a request. -/
def checkR (r : Rqt) : Nat :=
  if r.kind < 1 ∨ 3 < r.kind ∨ (r.kind = 2 ∧ (r.k < 0 ∨ 8 < r.k)) ∨ (r.kind = 3 ∧ (r.dest < 0 ∨ 3 < r.dest)) then 1
  else if r.kind = 1 then
    if r.ops.length < 1 ∨ 6 < r.ops.length then 2
    else if r.ops.all opOK = false then 3
    else if r.v ≠ 0 ∨ r.k ≠ 0 ∨ r.dest ≠ 0 then 3 else 0
  else if 0 < r.ops.length ∨ numB r.v = false ∨ (r.kind = 2 ∧ r.dest ≠ 0) ∨ (r.kind = 3 ∧ r.k ≠ 0) then 3 else 0
abbrev Gr := List Vtx
def findV (L : Gr) (v : Nat) : Option Vtx := L.find? fun x => x.id == v
def layV (x : Vtx) (L : Gr) : Gr := layG Vtx.id x (!x.there) L
def propV (x : Vtx) (k : Nat) : Val := (entX x.props k).getD noVal
def setP (x : Vtx) (k : Nat) (v : Val) : Vtx := { x with props := layG Ent.key ⟨k, v⟩ (decide (v.k = 0)) x.props }
def setH (x : Vtx) (f : Nat) (v : Val) (there : Bool) : Vtx := { x with halves := layG Ent.key ⟨f, v⟩ (!there) x.halves }
/-- An operation: its error, the graph behind it, what it reads. -/
structure One where
  e : Nat
  g : Gr
  vals : List Val
def oneG (L : Gr) (o : Opr) : One :=
  if o.kind = 1 then
    if (findV L o.a).isSome then ⟨7, L, []⟩ else ⟨0, layV ⟨o.a, true, [], []⟩ L, []⟩
  else match findV L o.a with
  | none => ⟨6, L, []⟩
  | some v =>
    if o.kind = 2 then (if 0 < v.halves.length then ⟨8, L, []⟩ else ⟨0, layV ⟨o.a, false, [], []⟩ L, []⟩)
    else if o.kind = 3 then ⟨0, layV (setP v o.key o.val) L, []⟩
    else if o.kind = 4 then ⟨0, L, [propV v o.key]⟩
    else if o.kind = 5 then
      match findV L o.b with
      | none => ⟨6, L, []⟩
      | some u =>
        if (entX v.halves o.b).isSome then ⟨7, L, []⟩
        else if 16 ≤ v.halves.length ∨ 16 ≤ u.halves.length then ⟨10, L, []⟩
        else ⟨0, layV (setH u o.a o.val true) (layV (setH v o.b o.val true) L), []⟩
    else if o.kind = 6 ∨ o.kind = 7 then
      match entX v.halves o.b with
      | none => ⟨6, L, []⟩
      | some val =>
        if o.kind = 7 then ⟨0, L, [val]⟩
        else match findV L o.b with
          | none => ⟨0, layV (setH v o.b noVal false) L, []⟩
          | some u => ⟨0, layV (setH u o.a noVal false) (layV (setH v o.b noVal false) L), []⟩
    else if o.kind = 8 then ⟨0, L, [⟨1, (v.halves.length : Int), ⟨#[]⟩⟩]⟩
    else if o.kind = 9 then (if propV v o.key = o.val then ⟨0, L, []⟩ else ⟨9, L, []⟩)
    else ⟨0, L, []⟩
def okStep (s : Option (Gr × List Val)) (o : Opr) : Option (Gr × List Val) :=
  s.bind fun p => if (oneG p.1 o).e = 0 then some ((oneG p.1 o).g, p.2 ++ (oneG p.1 o).vals) else none
def okRun (L : Gr) (ops : List Opr) : Option (Gr × List Val) := ops.foldl okStep (some (L, []))
def failG : Gr → Nat → List Opr → Nat × Nat
  | _, i, [] => (0, i)
  | L, i, o :: r => if (oneG L o).e = 0 then failG (oneG L o).g (i + 1) r else ((oneG L o).e, i)
/-- Who is within d edges of v. -/
def nearG (L : Gr) (v : Nat) : Nat → Nat → Bool
  | 0, x => x == v
  | d + 1, x => nearG L v d x || L.any fun y => nearG L v d y.id && (y.halves.any fun h => h.key == x)
def withinG (L : Gr) (v k : Nat) : List Nat := (L.filter fun x => nearG L v k x.id).map Vtx.id
def doG (L : Gr) (r : Rqt) : Gr × Ans :=
  if checkR r ≠ 0 then (L, ⟨checkR r, 0, [], []⟩)
  else if r.kind = 1 then
    match okRun L r.ops with
    | some p => (p.1, ⟨0, 0, p.2, []⟩)
    | none => (L, ⟨(failG L 0 r.ops).1, (failG L 0 r.ops).2, [], []⟩)
  else if (findV L r.v).isNone then (L, ⟨6, 0, [], []⟩)
  else if r.kind = 2 then (L, ⟨0, 0, [], withinG L r.v r.k.toNat⟩)
  else (L, ⟨0, 0, [], []⟩)
theorem okRun_snoc (L : Gr) (ops : List Opr) (o : Opr) : okRun L (ops ++ [o]) = okStep (okRun L ops) o := by simp [okRun]
theorem okStep_none (t : List Opr) : t.foldl okStep none = none := by
  induction t with
  | nil => rfl
  | cons o r ih => rw [List.foldl_cons]; exact ih
theorem fail_at : ∀ (pre : List Opr) (L : Gr) (us : List Val) (i : Nat) (o : Opr) (post : List Opr) (L' : Gr) (vs : List Val),
    pre.foldl okStep (some (L, us)) = some (L', vs) → (oneG L' o).e ≠ 0 → failG L i (pre ++ o :: post) = ((oneG L' o).e, i + pre.length) ∧ (pre ++ o :: post).foldl okStep (some (L, us)) = none
  | [], L, us, i, o, post, L', vs, h, he => by
    simp at h
    obtain ⟨rfl, rfl⟩ := h
    refine ⟨by simp [failG, he], ?_⟩
    rw [List.nil_append, List.foldl_cons]
    have : okStep (some (L, us)) o = none := by simp [okStep, he]
    rw [this, okStep_none]
  | p :: pre, L, us, i, o, post, L', vs, h, he => by
    rw [List.foldl_cons] at h
    by_cases hp : (oneG L p).e = 0
    · have e : okStep (some (L, us)) p = some ((oneG L p).g, us ++ (oneG L p).vals) := by simp [okStep, hp]
      rw [e] at h
      obtain ⟨h1, h2⟩ := fail_at pre _ _ (i + 1) o post L' vs h he
      refine ⟨?_, ?_⟩
      · rw [List.cons_append, failG, if_pos hp, h1, List.length_cons]
        congr 1; omega
      · rw [List.cons_append, List.foldl_cons, e, h2]
    · have e : okStep (some (L, us)) p = none := by simp [okStep, hp]
      rw [e, okStep_none] at h
      cases h
/-- An operation that is refused. -/
theorem okRun_fail {L L' : Gr} {ops : List Opr} {k : Nat} {o : Opr} {vs : List Val} (h : okRun L (ops.take k) = some (L', vs)) (ho : ops[k]? = some o) (he : (oneG L' o).e ≠ 0) :
    okRun L ops = none ∧ failG L 0 ops = ((oneG L' o).e, k) := by
  obtain ⟨hk, hx⟩ := List.getElem?_eq_some_iff.1 ho
  have e : ops = ops.take k ++ o :: ops.drop (k + 1) := by
    rw [← hx, ← List.drop_eq_getElem_cons hk, List.take_append_drop]
  obtain ⟨h1, h2⟩ := fail_at (ops.take k) L [] 0 o (ops.drop (k + 1)) L' vs h he
  rw [← e] at h1 h2
  exact ⟨h2, by rw [h1, List.length_take]; congr 1; omega⟩
theorem okRun_next {L L' : Gr} {ops : List Opr} {k : Nat} {o : Opr} {vs : List Val} (h : okRun L (ops.take k) = some (L', vs)) (ho : ops[k]? = some o) (he : (oneG L' o).e = 0) :
    okRun L (ops.take (k + 1)) = some ((oneG L' o).g, vs ++ (oneG L' o).vals) := by
  rw [take_snoc ho, okRun_snoc, h]
  simp [okStep, he]
/-! the lists rise: a place that is taken is laid anew, one that is free comes where it belongs -/
section
variable {α : Type} {key : α → Nat}
def Rising (key : α → Nat) (l : List α) : Prop := l.Pairwise fun x y => key x < key y
theorem layG_done (x : α) : ∀ l : List α, layG key x true l = l.filter fun y => !decide (key y = key x)
  | [] => rfl
  | y :: r => by
    rw [layG, Bool.true_or, layG_done x r, List.filter_cons]
    by_cases h : key y = key x <;> simp [h]
theorem filter_ne_self {x : α} {l : List α} (h : ∀ y ∈ l, key y ≠ key x) : (l.filter fun y => !decide (key y = key x)) = l := by
  rw [List.filter_eq_self]
  intro y hy
  simpa using h y hy
/-- In a rising list a new one stands between the lesser ones and the greater ones. -/
theorem layG_open (x : α) : ∀ l : List α, Rising key l → layG key x false l = l.filter (fun y => decide (key y < key x)) ++ x :: l.filter (fun y => decide (key x < key y))
  | [], _ => by simp [layG]
  | y :: r, h => by
    obtain ⟨h1, h2⟩ := List.pairwise_cons.1 h
    rcases Nat.lt_trichotomy (key y) (key x) with c | c | c
    · have n1 : ¬ key x < key y := by omega
      have n2 : ¬ key y = key x := by omega
      rw [layG, show (false || decide (key x < key y)) = false by simp [n1], layG_open x r h2]
      simp [n1, n2, c]
    · have n1 : ¬ key x < key y := by omega
      have n2 : ¬ key y < key x := by omega
      rw [layG, show (false || decide (key x < key y)) = false by simp [n1], layG_open x r h2]
      simp [n1, n2, c]
    · have n2 : ¬ key y = key x := by omega
      have n3 : ¬ key y < key x := by omega
      have g : ∀ z ∈ r, key x < key z := fun z hz => by have := h1 z hz; omega
      have e1 : r.filter (fun y => decide (key y < key x)) = [] := by
        rw [List.filter_eq_nil_iff]; intro z hz; have := g z hz; simp; omega
      have e2 : r.filter (fun y => decide (key x < key y)) = r := by
        rw [List.filter_eq_self]; intro z hz; simpa using g z hz
      rw [layG]
      have e3 : layG key x (false || decide (key x < key y)) r = r := by
        have : (false || decide (key x < key y)) = true := by simp [c]
        rw [this, layG_done, filter_ne_self (fun z hz => by have := g z hz; omega)]
      rw [e3]
      simp [c, n2, n3, e1, e2]
theorem layG_mem {x y : α} {d : Bool} {l : List α} (h : Rising key l) : y ∈ layG key x d l ↔ (y ∈ l ∧ key y ≠ key x) ∨ (d = false ∧ y = x) := by
  cases d with
  | true => rw [layG_done]; simp
  | false =>
    rw [layG_open x l h]
    simp only [List.mem_append, List.mem_filter, List.mem_cons, decide_eq_true_eq, true_and]
    constructor
    · rintro (⟨h1, h2⟩ | rfl | ⟨h1, h2⟩)
      · exact .inl ⟨h1, by omega⟩
      · exact .inr rfl
      · exact .inl ⟨h1, by omega⟩
    · rintro (⟨h1, h2⟩ | rfl)
      · rcases Nat.lt_or_gt_of_ne h2 with c | c
        · exact .inl ⟨h1, c⟩
        · exact .inr (.inr ⟨h1, c⟩)
      · exact .inr (.inl rfl)
theorem Rising.lay {x : α} {d : Bool} {l : List α} (h : Rising key l) : Rising key (layG key x d l) := by
  cases d with
  | true => rw [layG_done]; exact List.Pairwise.filter _ h
  | false =>
    rw [layG_open x l h]
    unfold Rising
    rw [List.pairwise_append]
    refine ⟨List.Pairwise.filter _ h, List.pairwise_cons.2 ⟨fun y hy => ?_, List.Pairwise.filter _ h⟩, fun a ha b hb => ?_⟩
    · simpa using (List.mem_filter.1 hy).2
    · have h1 : key a < key x := by simpa using (List.mem_filter.1 ha).2
      rcases List.mem_cons.1 hb with rfl | hb
      · exact h1
      · have h2 : key x < key b := by simpa using (List.mem_filter.1 hb).2
        omega
theorem Rising.uniq {l : List α} (h : Rising key l) {x y : α} (hx : x ∈ l) (hy : y ∈ l) (e : key x = key y) : x = y := by
  induction l with
  | nil => cases hx
  | cons z r ih =>
    obtain ⟨h1, h2⟩ := List.pairwise_cons.1 h
    rcases List.mem_cons.1 hx with rfl | hx' <;> rcases List.mem_cons.1 hy with rfl | hy'
    · rfl
    · have := h1 y hy'; omega
    · have := h1 x hx'; omega
    · exact ih h2 hx' hy'
theorem rising_bound {l : List α} (h : Rising key l) {b m : Nat} (hb : ∀ x ∈ l, b ≤ key x ∧ key x < m) : b + l.length ≤ m ∨ l = [] := by
  induction l generalizing b with
  | nil => exact .inr rfl
  | cons x r ih =>
    obtain ⟨h1, h2⟩ := List.pairwise_cons.1 h
    have hx := hb x (by simp)
    rcases ih (b := b + 1) h2 (fun y hy => by have := h1 y hy; have := hb y (by simp [hy]); omega) with c | c
    · left; simp only [List.length_cons]; omega
    · subst c; left; simp; omega
end
end Go.Proofs.YtnkmfgklmfmfeaaGreatDoor

/- R4: what is needed of it (by shake.py). -/

/- R4, as far as the seat goes. -/
/- gussetref03.Lay. -/
namespace Go.Proofs.YtnkmfgklmfmfeaaGreatDoor
set_option linter.unusedVariables false
open Go.RowKit
/-! what is read of two cells an element, or more, lies in no box of one cell -/
/-- A list that is being made, in new memory. -/
structure NSeg (w : World) (t : TypeId) (size : Nat) (v : Value) (n : Nat) (xs : List Value) (wx : World) : Prop where
  seg : Seg wx t size v n xs
  own : ∀ b, v.ownBlock = some b → w.heap.size ≤ b
  mod : Mod (fun _ => False) w wx
theorem NSeg.start {t : TypeId} {size : Nat} {w wx : World} (m : Mod (fun _ => False) w wx) : NSeg w t size (.slice none 0 0) 0 [] wx := ⟨Seg.nil _ _ _, fun b hb => by simp [Value.ownBlock] at hb, m⟩
theorem NSeg.keep {w wx wy : World} {t : TypeId} {size n : Nat} {v : Value} {xs : List Value} (h : NSeg w t size v n xs wx) (m : Mod (fun _ => False) wx wy) : NSeg w t size v n xs wy :=
  ⟨h.seg.mod m (fun _ _ f => f), h.own, h.mod.trans m⟩
theorem NSeg.snoc {w wx w3 : World} {t : TypeId} {size n m : Nat} {v v3 : Value} {xs ys : List Value} (h : NSeg w t size v n xs wx) (hs : Seg w3 t size v3 (n + m) (xs ++ ys)) (hg : wx.grownBy w3 v.ownBlock) (ho : v3.ownBlock = v.ownBlock ∨ v3.ownBlock = some wx.heap.size) :
    NSeg w t size v3 (n + m) (xs ++ ys) w3 := by
  refine ⟨hs, fun b hb => ?_, h.mod.grown hg (fun b hb hlt => by have := h.own b hb; omega)⟩
  rcases ho with e | e
  · exact h.own b (e ▸ hb)
  · have := h.mod.size
    rw [e] at hb; simp at hb; omega
theorem grown_heap {wx w3 : World} {r : Option Nat} (hg : wx.grownBy w3 r) {k : Nat} {o : Obj} (h : wx.heap[k]? = some o) (hne : ∀ b, r = some b → b ≠ k) : w3.heap[k]? = some o :=
  ((hg.block k (lt_of_block h) (fun e => hne k e.symm rfl))).trans h
theorem layG_sub {α : Type} {key : α → Nat} {x : α} : ∀ {t : List α} {d : Bool} {y : α}, y ∈ layG key x d t → y = x ∨ y ∈ t
  | [], d, y, h => by
    unfold layG at h
    split at h
    · cases h
    · rw [List.mem_singleton] at h; exact .inl h
  | z :: r, d, y, h => by
    unfold layG at h
    simp only [List.mem_append] at h
    rcases h with (h | h) | h
    · split at h
      · rw [List.mem_singleton] at h; exact .inl h
      · cases h
    · split at h
      · cases h
      · rw [List.mem_singleton] at h; exact .inr (by simp [h])
    · rcases layG_sub h with h | h
      · exact .inl h
      · exact .inr (by simp [h])
theorem layG_length {α : Type} {key : α → Nat} {x : α} : ∀ {t : List α} {d : Bool}, (layG key x d t).length ≤ t.length + 1 := by
  intro t d
  have h := layT_length key x d t
  rw [← layT_end key x d t]
  split
  · rename_i h2; rw [if_pos h2] at h; omega
  · rename_i h2; rw [if_neg h2] at h; simp only [List.length_append, List.length_singleton]; omega
end Go.Proofs.YtnkmfgklmfmfeaaGreatDoor

/- R5: what is needed of it (by shake.py). -/

/- R5, as far as the seat goes. -/
/- gussetref03.SetHalf, SetProp (printed by gen_set.py). -/
namespace Go.Proofs.YtnkmfgklmfmfeaaGreatDoor
set_option linter.unusedVariables false
open Go.RowKit
/-- The vertex' box, the value's, the result's: the worlds of SetHalf and SetProp. -/
structure SetAt (w w0 : World) (o : Array Value) (val : Val) : Prop where
  mod : Mod (fun _ => False) w w0
  size : w0.heap.size = w.heap.size + 3
  box : w0.heap[w.heap.size]? = some (.cells o 44 (0, 0))
  arg : w0.heap[w.heap.size + 1]? = some (.cells #[.int .u8 (val.k : Int), .int .i64 val.n, .string val.s] 55 (0, 0))
  ret : w0.heap[w.heap.size + 2]? = some (.cells #[.int .u32 0, .bool false, .slice none 0 0, .slice none 0 0] 44 (0, 0))
theorem SetAt.begin (w : World) (o : Array Value) (val : Val) : SetAt w (((w.alloc (.cells o 44)).alloc (.cells #[.int .u8 (val.k : Int), .int .i64 val.n, .string val.s] 55)).alloc (.cells #[.int .u32 0, .bool false, .slice none 0 0, .slice none 0 0] 44)) o val := by
  refine ⟨(((Mod.refl _ _).alloc _).alloc _).alloc _, by simp, heap_alloc_old (heap_alloc_old (heap_alloc_new' w _)), heap_alloc_old ?_, ?_⟩
  · have h := heap_alloc_new' (w.alloc (.cells o 44)) (.cells #[.int .u8 (val.k : Int), .int .i64 val.n, .string val.s] 55)
    simpa using h
  · have h := heap_alloc_new' ((w.alloc (.cells o 44)).alloc (.cells #[.int .u8 (val.k : Int), .int .i64 val.n, .string val.s] 55)) (.cells #[.int .u32 0, .bool false, .slice none 0 0, .slice none 0 0] 44)
    simpa using h
abbrev setEnd (wy : World) (n j : Nat) (u4 u0 u1 u2 u3 : Value) : World := ((((wy.setCell ⟨n, j, none⟩ u4).setCell ⟨n + 1 + 1, 0, none⟩ u0).setCell ⟨n + 1 + 1, 1, none⟩ u1).setCell ⟨n + 1 + 1, 2, none⟩ u2).setCell ⟨n + 1 + 1, 3, none⟩ u3
theorem SetAt.finish {w w0 wy : World} {o : Array Value} {val : Val} (h : SetAt w w0 o val) (hy : Mod (fun _ => False) w0 wy) (j : Nat) (u4 u0 u1 u2 u3 : Value) :
    Mod (fun _ => False) w (setEnd wy w.heap.size j u4 u0 u1 u2 u3) ∧ ∀ (t : TypeId) (v : Value) (n : Nat) (xs : List Value), NSeg w0 t 4 v n xs wy → Seg (setEnd wy w.heap.size j u4 u0 u1 u2 u3) t 4 v n xs := by
  have m4 : Mod (fun k => k = w.heap.size ∨ k = w.heap.size + 1 + 1) wy (setEnd wy w.heap.size j u4 u0 u1 u2 u3) :=
    (((((Mod.refl (fun k => k = w.heap.size ∨ k = w.heap.size + 1 + 1) wy).setCell (p := ⟨w.heap.size, j, none⟩) (fun _ => .inl rfl) u4).setCell (p := ⟨w.heap.size + 1 + 1, 0, none⟩) (fun _ => .inr rfl) u0).setCell (p := ⟨w.heap.size + 1 + 1, 1, none⟩) (fun _ => .inr rfl) u1).setCell (p := ⟨w.heap.size + 1 + 1, 2, none⟩) (fun _ => .inr rfl) u2).setCell (p := ⟨w.heap.size + 1 + 1, 3, none⟩) (fun _ => .inr rfl) u3
  refine ⟨(h.mod.trans hy).trans' m4 (fun i hi e => by rcases e with e | e <;> omega), fun t v n xs hs => hs.seg.mod m4 (fun b hb e => ?_)⟩
  have := hs.own b hb
  have := h.size
  rcases e with e | e <;> omega
theorem entsFit_lay {n : Nat} {x : Ent} {d : Bool} {l : List Ent} (hx : x.key < n ∧ x.val.Fits) (hl : ∀ p ∈ l, p.key < n ∧ p.val.Fits) : ∀ p ∈ layG Ent.key x d l, p.key < n ∧ p.val.Fits := fun p hp => by
  rcases layG_sub hp with rfl | hp
  · exact hx
  · exact hl p hp
end Go.Proofs.YtnkmfgklmfmfeaaGreatDoor
