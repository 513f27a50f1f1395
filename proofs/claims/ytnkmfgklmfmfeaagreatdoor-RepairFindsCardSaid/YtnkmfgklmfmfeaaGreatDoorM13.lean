/- Lemmas for the claim, in one text: VI, RB, R14. -/
import Derived.Test.YtnkmfgklmfmfeaaGreatDoorM06
import Derived.Test.YtnkmfgklmfmfeaaGreatDoorM12
import Derived.OpenShut
import Derived.Lib.SmallJoins
import Derived.ChangeSlices
import Derived.Deep.Slices
import Derived.Deep.Fields
import Derived.SizedLaws

/- VI: what is needed of it (by shake.py). -/

/- VI, as far as the seat goes. -/
/- V28, V29 in one. -/
/- What comes in, read: vertices, lists of vertices, lists of lists, flags. -/
namespace Go.Proofs.YtnkmfgklmfmfeaaGreatDoor
set_option linter.unusedVariables false
open Go.ChangeShapes Go.WideShapes Go.ChangeAt Go.RowKit
section
variable {H : Type}
def okW (t : TypeId) (d : DataW H) : Prop := (DataW.weights Tryz.prog t d).all (· ≤ reachBytes) = true
theorem weightsAll_in {P : Program} {e : TypeId} : ∀ {l : List (DataW H)} {d : DataW H}, d ∈ l → ∀ n ∈ d.weights P e, n ∈ DataW.weightsAll P e l
  | [], d, h, n, hn => by simp at h
  | x :: r, d, h, n, hn => by
    simp only [DataW.weightsAll, List.mem_append]
    rcases List.mem_cons.1 h with rfl | h
    · exact .inl hn
    · exact .inr (weightsAll_in h n hn)
theorem okW_slice {t e : TypeId} {elems spare : List (DataW H)} (ht : Tryz.prog.underlying t = some (.slice e)) (h : okW t (.slice elems spare)) : (elems.length + spare.length) * Tryz.prog.bytesOf e ≤ reachBytes ∧ ∀ d ∈ elems, okW e d := by
  unfold okW at h
  simp only [DataW.weights, ht, List.all_cons, List.all_append, Bool.and_eq_true] at h
  refine ⟨by simpa using h.1, fun d hd => List.all_eq_true.2 fun n hn => List.all_eq_true.1 h.2.1 n (weightsAll_in hd n hn)⟩
theorem okW_part {t : TypeId} {fs : Array Field} {parts : List (DataW H)} (ht : Tryz.prog.underlying t = some (.struct fs)) (h : okW t (.agg parts)) {j : Nat} {f : Field} {d : DataW H} (hf : fs[j]? = some f) (hd : parts[j]? = some d) : okW f.type d := by
  unfold okW at h
  simp only [DataW.weights, ht] at h
  exact List.all_eq_true.2 fun n hn => List.all_eq_true.1 h n (DataW.weights_mem_each (j := j) (by simp [hf]) hd n hn)
theorem flat_get {α : Type} (cells : α → List Value) {size : Nat} (hc : ∀ x, (cells x).length = size) : ∀ (l : List α) (i j : Nat) (x : α), l[i]? = some x → j < size → (l.flatMap cells)[i * size + j]? = (cells x)[j]?
  | [], i, j, x, h, _ => by simp at h
  | y :: r, 0, j, x, h, hj => by
    simp at h
    subst h
    rw [List.flatMap_cons, Nat.zero_mul, Nat.zero_add, List.getElem?_append_left (by rw [hc]; exact hj)]
  | y :: r, i + 1, j, x, h, hj => by
    simp at h
    rw [List.flatMap_cons, List.getElem?_append_right (by rw [hc, Nat.add_mul, Nat.one_mul]; omega), hc, show (i + 1) * size + j - size = i * size + j by rw [Nat.add_mul, Nat.one_mul]; omega]
    exact flat_get cells hc r i j x h hj
theorem flat_size {α : Type} (cells : α → List Value) {size : Nat} (hc : ∀ x, (cells x).length = size) (l : List α) : (l.flatMap cells).length = l.length * size := by
  induction l with
  | nil => simp
  | cons x r ih => rw [List.flatMap_cons, List.length_append, ih, hc, List.length_cons, Nat.add_mul, Nat.one_mul, Nat.add_comm]
variable {enc : TypeId × Value → H} {W : World}
/-- A slice of things that each read as an α: it is read only, and its elements are good. -/
theorem in_slice {α : Type} [Inhabited α] {t e : TypeId} (ht : Tryz.prog.underlying t = some (.slice e)) {size : Nat} (hC : Tryz.prog.cellsOf e = size) (h0 : 0 < size) (cells : α → List Value) (hc : ∀ x, (cells x).length = size) (Good : α → Prop)
    (elem : ∀ (n : Nat) (cs : List Value) (y : DataW H × List MemPlace), cs.length = size → DataW.trod enc Tryz.prog W 0 (fun _ => true) true n e cs = some y → okW e y.1 → ∃ x, cs = cells x ∧ Good x)
    {n : Nat} {u : Value} {y : DataW H × List MemPlace} (h : DataW.trod enc Tryz.prog W 0 (fun _ => true) true n t [u] = some y) (hw : okW t y.1) :
    ∃ l : List α, RdS W size u l.length (l.flatMap cells) ∧ (∀ x ∈ l, Good x) ∧ l.length * Tryz.prog.bytesOf e ≤ reachBytes := by
  rcases Go.Deep.open_slice ht h with ⟨hcs, _⟩ | ⟨a, len, cap, m, n', D, Pl, hcs, _, hl, hm, hmm, rfl, hi⟩
  · simp at hcs
    exact ⟨[], ⟨by simp, ⟨none, 0, hcs, Nat.le_refl _, by omega, fun _ => rfl⟩, fun a c e j u hu => by simp at hu⟩, by simp, by simp⟩
  · simp at hcs
    simp only [if_true] at hmm
    subst hmm
    obtain ⟨hb, hel⟩ := okW_slice ht hw
    obtain ⟨f, hf⟩ := Go.Deep.choose_lt (α := α) (n := len) (p := fun i x => W.cells? 0 (a.add (i * size)) size = some (cells x) ∧ Good x) (fun i hil => by
      obtain ⟨cs', h1, h2⟩ := hi i (by omega)
      rw [hC] at h1
      obtain ⟨_, hlen, _⟩ := World.cells?_some h1
      obtain ⟨x, rfl, hg⟩ := elem n' cs' _ hlen h2 (hel _ (by simp only [List.mem_map, List.mem_range]; exact ⟨i, hil, rfl⟩))
      exact ⟨x, h1, hg⟩)
    have hget : ∀ i, i < len → ((List.range len).map f)[i]? = some (f i) := fun i hi => by simp [hi]
    refine ⟨(List.range len).map f, ⟨flat_size cells hc _, ⟨some a, m, by simpa using hcs, by simpa using hl, by unfold maxLen at hm; omega, fun h => by cases h⟩, fun a' c' e' j u' hu' => ?_⟩, ?_, ?_⟩
    · rw [hcs] at e'
      injection e' with e1 e2 e3
      subst e1
      have hj : j < len * size := by
        have := (List.getElem?_eq_some_iff.1 hu').1
        rw [flat_size cells hc] at this
        simpa using this
      have hji : j / size < len := Nat.div_lt_of_lt_mul (by rw [Nat.mul_comm]; exact hj)
      have hr : j % size < size := Nat.mod_lt _ h0
      have hjj : j / size * size + j % size = j := by rw [Nat.mul_comm]; exact Nat.div_add_mod j size
      have hx := flat_get cells hc _ _ (j % size) _ (hget _ hji) hr
      rw [hjj, hu'] at hx
      obtain ⟨_, _, hat⟩ := World.cells?_some (hf _ hji).1
      have hcell := hat _ hr
      rw [Go.Deep.add_add, hjj, ← hx] at hcell
      obtain ⟨b, off, spot⟩ := a
      have hs : spot = none := by
        obtain ⟨_, _, hat0⟩ := World.cells?_some (hf 0 (Nat.lt_of_le_of_lt (Nat.zero_le _) hji)).1
        have h00 := hat0 0 h0
        rw [List.getElem?_eq_getElem (by rw [hc]; exact h0)] at h00
        simpa [Addr.add] using World.cell?_spot h00
      subst hs
      rw [addr_add] at hcell
      exact ⟨b, off, rfl, World.block_lt_of_cell? _ _ hcell, hcell⟩
    · intro x hx
      obtain ⟨i, hi, rfl⟩ := List.mem_map.1 hx
      exact (hf i (List.mem_range.1 hi)).2
    · simp only [List.length_map, List.length_range] at hb ⊢
      exact Nat.le_trans (Nat.mul_le_mul_right _ (Nat.le_add_right _ _)) hb
set_option maxRecDepth 100000 in
theorem in_val (n : Nat) (cs : List Value) (y : DataW H × List MemPlace) (hl : cs.length = 3) (h : DataW.trod enc Tryz.prog W 0 (fun _ => true) true n 55 cs = some y) : ∃ v : Val, cs = [.int .u8 (v.k : Int), .int .i64 v.n, .string v.s] ∧ v.Fits := by
  obtain ⟨xs, n', _, _, _, hlen, hf⟩ := DataW.trod_struct Tryz.underlying55 h
  match cs, hl with
  | [c0, c1, c2], _ =>
    have cu8 : Tryz.prog.cellsOf 5 = 1 := by kernel_rfl
    have ci64 : Tryz.prog.cellsOf 2 = 1 := by kernel_rfl
    have cst : Tryz.prog.cellsOf 9 = 1 := by kernel_rfl
    match xs, hlen with
    | [y0, y1, y2], _ =>
      have h0 : DataW.trod enc Tryz.prog W 0 (fun _ => true) true n' 5 ((List.drop 0 [c0, c1, c2]).take (Tryz.prog.cellsOf 5)) = some y0 := hf 0 _ rfl
      have h1 : DataW.trod enc Tryz.prog W 0 (fun _ => true) true n' 2 ((List.drop 1 [c0, c1, c2]).take (Tryz.prog.cellsOf 2)) = some y1 := hf 1 _ rfl
      have h2 : DataW.trod enc Tryz.prog W 0 (fun _ => true) true n' 9 ((List.drop 2 [c0, c1, c2]).take (Tryz.prog.cellsOf 9)) = some y2 := hf 2 _ rfl
      simp only [cu8, ci64, cst, List.drop_zero, List.take_succ_cons, List.take_zero, List.drop_succ_cons] at h0 h1 h2
      obtain ⟨a0, e0, _, w0⟩ := DataW.trod_int Tryz.underlying5 h0
      obtain ⟨a1, e1, _, w1⟩ := DataW.trod_int Tryz.underlying2 h1
      obtain ⟨s, e2, _, hs⟩ := DataW.trod_string Tryz.underlying9 h2
      simp only [List.cons.injEq, and_true] at e0 e1 e2
      have b0 := bounds_u8 w0
      have b1 := bounds_i64 w1
      obtain ⟨k, rfl⟩ := Int.eq_ofNat_of_zero_le b0.1
      subst e0 e1 e2
      exact ⟨⟨k, a1, s⟩, rfl, by simp only; omega, by simp only; omega, hs⟩
end
end Go.Proofs.YtnkmfgklmfmfeaaGreatDoor
/- What comes in, read: vertices, lists of vertices, lists of lists, flags: whole. -/
namespace Go.Proofs.YtnkmfgklmfmfeaaGreatDoor
set_option linter.unusedVariables false
open Go.ChangeShapes Go.WideShapes Go.ChangeAt Go.RowKit
instance : Inhabited Ent := ⟨farE 0⟩
instance : Inhabited Vs := ⟨⟨va, .slice none 0 0, .slice none 0 0⟩⟩
instance : Inhabited Ls := ⟨⟨.slice none 0 0, []⟩⟩
section
variable {H : Type} {enc : TypeId × Value → H} {W : World}
variable {base : Nat} {v : Value} {d : DataW H} {p : List MemPlace}
def InU8 (W : World) (v : Value) : Prop := ∃ t : Nat, v = .int .u8 (t : Int) ∧ t < 256
set_option maxRecDepth 100000 in
theorem in_u8 (hv : Value.okWide Tryz.prog W .any base 5 v) (h : DataW.Trod enc Tryz.prog W 0 (fun _ => true) true 5 v d p) : InU8 W v := by
  obtain ⟨a, rfl, _, _, hw⟩ := open_int Tryz.underlying5 hv h
  have b := bounds_u8 hw
  obtain ⟨m, rfl⟩ := Int.eq_ofNat_of_zero_le b.1
  exact ⟨m, rfl, by omega⟩
end
theorem weights_at {H : Type} {P : Program} {ts : List TypeId} {ds : List (DataW H)} (h : (DataW.weightsEach P ts ds).all (· ≤ reachBytes) = true) {j : Nat} {t : TypeId} {d : DataW H} (ht : ts[j]? = some t) (hd : ds[j]? = some d) : (DataW.weights P t d).all (· ≤ reachBytes) = true :=
  List.all_eq_true.2 fun x hx => List.all_eq_true.1 h x (DataW.weights_mem_each ht hd x hx)
end Go.Proofs.YtnkmfgklmfmfeaaGreatDoor

/- RB: what is needed of it (by shake.py). -/

/- RB, as far as the seat goes. -/
/- R6, R7, R8, R9 in one. -/
/- gussetref03.Copy. -/
namespace Go.Proofs.YtnkmfgklmfmfeaaGreatDoor
set_option linter.unusedVariables false
set_option linter.unusedSimpArgs false
open Go.RowKit
theorem Seg.off_box {w : World} {t t' : TypeId} {size n g : Nat} {v : Value} {xs : List Value} {cs : Array Value} (h : Seg w t size v n xs) (hg : w.heap[g]? = some (.cells cs t' (0, 0))) (hne : t ≠ t') : ∀ b, v.ownBlock = some b → ¬ b = g := by
  intro b hb e
  subst e
  rcases h.2.2 with ⟨rfl, _⟩ | ⟨g, off, cap, cur, rfl, hc, _⟩
  · simp [Value.ownBlock] at hb
  · simp [Value.ownBlock] at hb
    subst hb
    rw [hc] at hg
    injection hg with hg
    injection hg with _ h2
    exact hne h2
end Go.Proofs.YtnkmfgklmfmfeaaGreatDoor
/- gussetref03.Op, Check. -/
namespace Go.Proofs.YtnkmfgklmfmfeaaGreatDoor
set_option linter.unusedVariables false
set_option linter.unusedSimpArgs false
open Go.RowKit
def Opr.cells (o : Opr) : List Value := [.int .u8 (o.kind : Int), .int .u32 (o.a : Int), .int .u32 (o.b : Int), .int .u8 (o.key : Int), .int .u8 (o.val.k : Int), .int .i64 o.val.n, .string o.val.s]
def Opr.v (o : Opr) : Value := .agg o.cells.toArray
structure Opr.Fits (o : Opr) : Prop where
  kind : o.kind < 256
  a : o.a < 4294967296
  b : o.b < 4294967296
  key : o.key < 256
  val : o.val.Fits
theorem noVal_iff (vk : Nat) (vn : Int) (vs : ByteArray) : ((⟨vk, vn, vs⟩ : Val) = noVal) ↔ (vk = 0 ∧ vn = 0 ∧ vs.toList = []) := by
  unfold noVal
  rw [Val.mk.injEq]
  have : vs = ⟨#[]⟩ ↔ vs.toList = [] := by
    rw [ByteArray.toList_eq]
    obtain ⟨⟨l⟩⟩ := vs
    constructor
    · intro h; injection h with h; injection h with h
    · intro h; simp at h; rw [h]
  rw [this]
end Go.Proofs.YtnkmfgklmfmfeaaGreatDoor
/- gussetref03.Check. -/
namespace Go.Proofs.YtnkmfgklmfmfeaaGreatDoor
set_option linter.unusedVariables false
set_option linter.unusedSimpArgs false
open Go.RowKit
def ocells (l : List Opr) : List Value := l.flatMap Opr.cells
theorem opr_cells (o : Opr) : o.cells.length = 7 := rfl
/-- Operations, only read. -/
structure ORd (w : World) (v : Value) (l : List Opr) : Prop where
  row : RdS w 7 v l.length (ocells l)
  fits : ∀ o ∈ l, o.Fits
theorem ORd.keep {w w' : World} {v : Value} {l : List Opr} (h : ORd w v l) (m : Mod (fun _ => False) w w') : ORd w' v l := ⟨h.row.keep m, h.fits⟩
theorem ORd.ent {w : World} {v : Value} {l : List Opr} (h : ORd w v l) {i : Nat} {x : Opr} (hi : l[i]? = some x) {a : Option Addr} {n c : Nat} (e : v = .slice a n c) :
    ∃ b off, a = some ⟨b, off, none⟩ ∧ b < w.heap.size ∧ w.cell? ⟨b, off + i * 7, none⟩ = some (.int .u8 (x.kind : Int)) ∧ w.cell? ⟨b, off + i * 7 + 1, none⟩ = some (.int .u32 (x.a : Int)) ∧ w.cell? ⟨b, off + i * 7 + 2, none⟩ = some (.int .u32 (x.b : Int)) ∧ w.cell? ⟨b, off + i * 7 + 3, none⟩ = some (.int .u8 (x.key : Int)) ∧ w.cell? ⟨b, off + i * 7 + 4, none⟩ = some (.int .u8 (x.val.k : Int)) ∧ w.cell? ⟨b, off + i * 7 + 5, none⟩ = some (.int .i64 x.val.n) ∧ w.cell? ⟨b, off + i * 7 + 6, none⟩ = some (.string x.val.s) := by
  have g := fun j hj => flat_get Opr.cells opr_cells l i j x hi (show j < 7 from hj)
  obtain ⟨a', c', e', -⟩ := h.row.shape
  rw [e] at e'
  injection e' with e1 e2 e3
  rw [e2] at e
  have k : ∀ j u, j < 7 → x.cells[j]? = some u → ∃ b off, a = some ⟨b, off, none⟩ ∧ b < w.heap.size ∧ w.cell? ⟨b, off + (i * 7 + j), none⟩ = some u := fun j u hj hu => h.row.cell a c e (i * 7 + j) u (by unfold ocells; rw [g j hj]; exact hu)
  obtain ⟨b, off, ea, hb, h0⟩ := k 0 _ (by omega) rfl
  have r : ∀ j u, j < 7 → x.cells[j]? = some u → w.cell? ⟨b, off + (i * 7 + j), none⟩ = some u := fun j u hj hu => by
    obtain ⟨b1, off1, ea1, _, h1⟩ := k j u hj hu
    rw [ea] at ea1
    injection ea1 with e1; injection e1 with e1 e2
    subst e1 e2
    exact h1
  refine ⟨b, off, ea, hb, h0, ?_, ?_, ?_, ?_, ?_, ?_⟩
  · rw [Nat.add_assoc]; exact r 1 _ (by omega) rfl
  · rw [Nat.add_assoc]; exact r 2 _ (by omega) rfl
  · rw [Nat.add_assoc]; exact r 3 _ (by omega) rfl
  · rw [Nat.add_assoc]; exact r 4 _ (by omega) rfl
  · rw [Nat.add_assoc]; exact r 5 _ (by omega) rfl
  · rw [Nat.add_assoc]; exact r 6 _ (by omega) rfl
def rqV (r : Rqt) (vo : Value) : Value := .agg #[.int .u8 (r.kind : Int), vo, .int .u32 (r.v : Int), .int .i64 r.k, .int .i64 r.dest]
structure Rqt.Fits (r : Rqt) : Prop where
  kind : r.kind < 256
  v : r.v < 4294967296
  k : -9223372036854775808 ≤ r.k ∧ r.k < 9223372036854775808
  dest : -9223372036854775808 ≤ r.dest ∧ r.dest < 9223372036854775808
/-- A transaction. -/
def checkT (n : Nat) (ok : Bool) (v : Nat) (k d : Int) : Nat := if n < 1 ∨ 6 < n then 2 else if ok = false then 3 else if v ≠ 0 ∨ k ≠ 0 ∨ d ≠ 0 then 3 else 0
theorem checkR_1 (ops : List Opr) (v : Nat) (k d : Int) : checkR ⟨1, ops, v, k, d⟩ = checkT ops.length (ops.all opOK) v k d := by
  unfold checkR checkT
  simp
def checkO (n v : Nat) (x y : Int) (m : Int) : Nat := if x < 0 ∨ m < x then 1 else if 0 < n ∨ numB v = false ∨ y ≠ 0 then 3 else 0
theorem checkR_2 (ops : List Opr) (v : Nat) (k d : Int) : checkR ⟨2, ops, v, k, d⟩ = checkO ops.length v k d 8 := by
  unfold checkR checkO
  simp
theorem checkR_3 (ops : List Opr) (v : Nat) (k d : Int) : checkR ⟨3, ops, v, k, d⟩ = checkO ops.length v d k 3 := by
  unfold checkR checkO
  simp
end Go.Proofs.YtnkmfgklmfmfeaaGreatDoor
/- gussetref03.one: what it is told of, its places; the first kinds. -/
namespace Go.Proofs.YtnkmfgklmfmfeaaGreatDoor
set_option linter.unusedVariables false
set_option linter.unusedSimpArgs false
open Go.RowKit
def Val.cells (v : Val) : List Value := [.int .u8 (v.k : Int), .int .i64 v.n, .string v.s]
def vvcells (l : List Val) : List Value := l.flatMap Val.cells
theorem RdS.none (w : World) (size : Nat) : RdS w size (.slice none 0 0) 0 [] := ⟨by simp, ⟨_, _, rfl, Nat.le_refl _, by decide, fun _ => rfl⟩, fun a c _ j u hu => by simp at hu⟩
end Go.Proofs.YtnkmfgklmfmfeaaGreatDoor

/- R14: what is needed of it (by shake.py). -/

/- R14, as far as the seat goes. -/
/- The document's graph: what holds of it behind any operations (plain). -/
namespace Go.Proofs.YtnkmfgklmfmfeaaGreatDoor
set_option linter.unusedVariables false
set_option linter.unusedSimpArgs false
/-- A vertex in form. -/
structure VGood (x : Vtx) : Prop where
  there : x.there = true
  id : 1 ≤ x.id ∧ x.id ≤ 40
  prise : Rising Ent.key x.props
  hrise : Rising Ent.key x.halves
  props : ∀ p ∈ x.props, p.key ≤ 3 ∧ p.val.ok = true ∧ p.val.k ≠ 0
  halves : ∀ h ∈ x.halves, 1 ≤ h.key ∧ h.key ≤ 40 ∧ h.key ≠ x.id ∧ h.val.ok = true
  few : x.halves.length ≤ 16
/-- A graph in form: both ends know. -/
structure Good (L : Gr) : Prop where
  rise : Rising Vtx.id L
  each : ∀ x ∈ L, VGood x
  pair : ∀ x ∈ L, ∀ h ∈ x.halves, ∃ y ∈ L, y.id = h.key ∧ (⟨x.id, h.val⟩ : Ent) ∈ y.halves
theorem Good.nil : Good [] := ⟨List.Pairwise.nil, by simp, by simp⟩
theorem Rising.short {α : Type} {key : α → Nat} {l : List α} (h : Rising key l) {b m : Nat} (hb : ∀ x ∈ l, b ≤ key x ∧ key x < m) : l.length ≤ m - b := by
  rcases rising_bound h hb with c | c
  · omega
  · subst c; simp
theorem Good.short {L : Gr} (h : Good L) : L.length ≤ 40 := h.rise.short (b := 1) (m := 41) (fun x hx => by have := (h.each x hx).id; omega)
theorem VGood.props_short {x : Vtx} (h : VGood x) : x.props.length ≤ 4 := h.prise.short (b := 0) (m := 4) (fun p hp => by have := (h.props p hp).1; omega)
theorem findV_none {L : Gr} {v : Nat} : findV L v = none ↔ ∀ x ∈ L, x.id ≠ v := by
  unfold findV
  rw [List.find?_eq_none]
  simp
theorem findV_mem {L : Gr} {v : Nat} {x : Vtx} (h : findV L v = some x) : x ∈ L ∧ x.id = v := by
  unfold findV at h
  exact ⟨List.mem_of_find?_eq_some h, by simpa using List.find?_some h⟩
theorem entX_mem {l : List Ent} {f : Nat} {v : Val} (h : entX l f = some v) : (⟨f, v⟩ : Ent) ∈ l := by
  unfold entX at h
  rw [Option.map_eq_some_iff] at h
  obtain ⟨e, he, rfl⟩ := h
  have h1 := List.mem_of_find?_eq_some he
  have h2 : e.key = f := by simpa using List.find?_some he
  subst h2
  exact h1
theorem entX_isNone {l : List Ent} {f : Nat} : entX l f = none ↔ ∀ e ∈ l, e.key ≠ f := by
  unfold entX
  rw [Option.map_eq_none_iff, List.find?_eq_none]
  simp
theorem entX_isSome {l : List Ent} {f : Nat} {v : Val} (h : Rising Ent.key l) : entX l f = some v ↔ (⟨f, v⟩ : Ent) ∈ l := by
  refine ⟨entX_mem, fun hm => ?_⟩
  cases hx : entX l f with
  | none => exact absurd rfl (entX_isNone.1 hx _ hm)
  | some u =>
    have := h.uniq (entX_mem hx) hm rfl
    injection this with _ e
    rw [e]
theorem setH_mem {x : Vtx} {f : Nat} {v : Val} {b : Bool} (h : Rising Ent.key x.halves) {e : Ent} : e ∈ (setH x f v b).halves ↔ (e ∈ x.halves ∧ e.key ≠ f) ∨ (b = true ∧ e = ⟨f, v⟩) := by
  unfold setH
  simp only
  rw [layG_mem h]
  cases b <;> simp
theorem layV_mem {x y : Vtx} {L : Gr} (h : Rising Vtx.id L) : y ∈ layV x L ↔ (y ∈ L ∧ y.id ≠ x.id) ∨ (x.there = true ∧ y = x) := by
  unfold layV
  rw [layG_mem h]
  cases x.there <;> simp
theorem layV_rise {x : Vtx} {L : Gr} (h : Rising Vtx.id L) : Rising Vtx.id (layV x L) := Rising.lay h
theorem setH_less {x : Vtx} {f : Nat} {v : Val} (hr : Rising Ent.key x.halves) : (setH x f v false).halves.length ≤ x.halves.length := by
  unfold setH
  simp only [Bool.not_false]
  rw [layG_done]
  exact List.length_filter_le _ _
theorem VGood.set {x : Vtx} (h : VGood x) {f : Nat} {v : Val} (hf : 1 ≤ f ∧ f ≤ 40) (hne : f ≠ x.id) (hv : v.ok = true) (hl : x.halves.length < 16) : VGood (setH x f v true) := by
  refine ⟨h.there, h.id, h.prise, Rising.lay h.hrise, h.props, fun e he => ?_, ?_⟩
  · rcases (setH_mem h.hrise).1 he with ⟨h1, _⟩ | ⟨_, rfl⟩
    · exact h.halves e h1
    · exact ⟨hf.1, hf.2, hne, hv⟩
  · have := layG_length (key := Ent.key) (x := (⟨f, v⟩ : Ent)) (t := x.halves) (d := !true)
    show (layG Ent.key ⟨f, v⟩ (!true) x.halves).length ≤ 16
    omega
theorem VGood.cut {x : Vtx} (h : VGood x) (f : Nat) (v : Val) : VGood (setH x f v false) := by
  refine ⟨h.there, h.id, h.prise, Rising.lay h.hrise, h.props, fun e he => ?_, Nat.le_trans (setH_less h.hrise) h.few⟩
  rcases (setH_mem h.hrise).1 he with ⟨h1, _⟩ | ⟨h1, _⟩
  · exact h.halves e h1
  · cases h1
theorem VGood.setp {x : Vtx} (h : VGood x) {k : Nat} {v : Val} (hk : k ≤ 3) (hv : v.ok = true) : VGood (setP x k v) := by
  refine ⟨h.there, h.id, Rising.lay h.prise, h.hrise, fun e he => ?_, h.halves, h.few⟩
  unfold setP at he
  simp only at he
  rw [layG_mem h.prise] at he
  rcases he with ⟨h1, _⟩ | ⟨h1, rfl⟩
  · exact h.props e h1
  · exact ⟨hk, hv, by simpa using h1⟩
/-- A vertex laid anew with the same halves. -/
theorem Good.same {L : Gr} (h : Good L) {v v' : Vtx} (hv : v ∈ L) (hg : VGood v') (hid : v'.id = v.id) (hh : v'.halves = v.halves) : Good (layV v' L) := by
  refine ⟨layV_rise h.rise, fun x hx => ?_, fun x hx e he => ?_⟩
  · rcases (layV_mem h.rise).1 hx with ⟨h1, _⟩ | ⟨_, rfl⟩
    · exact h.each x h1
    · exact hg
  · have key : ∃ x0 ∈ L, x0.id = x.id ∧ x0.halves = x.halves := by
      rcases (layV_mem h.rise).1 hx with ⟨h1, _⟩ | ⟨_, rfl⟩
      · exact ⟨x, h1, rfl, rfl⟩
      · exact ⟨v, hv, hid.symm, hh.symm⟩
    obtain ⟨x0, hx0, e1, e2⟩ := key
    rw [← e2] at he
    obtain ⟨y, hy, hyi, hym⟩ := h.pair x0 hx0 e he
    rw [e1] at hym
    by_cases c : y.id = v.id
    · have := h.rise.uniq hy hv c
      subst this
      exact ⟨v', (layV_mem h.rise).2 (.inr ⟨hg.there, rfl⟩), by rw [hid]; exact hyi, by rw [hh]; exact hym⟩
    · exact ⟨y, (layV_mem h.rise).2 (.inl ⟨hy, by rw [hid]; exact c⟩), hyi, hym⟩
/-- Two vertices' halves to one another are laid anew, or taken away. -/
theorem Good.two {L : Gr} (h : Good L) {v u : Vtx} (hv : v ∈ L) (hu : u ∈ L) (hne : v.id ≠ u.id) {val : Val} {b : Bool} (gv : VGood (setH v u.id val b)) (gu : VGood (setH u v.id val b)) :
    Good (layV (setH u v.id val b) (layV (setH v u.id val b) L)) := by
  have r1 : Rising Vtx.id (layV (setH v u.id val b) L) := layV_rise h.rise
  have mem : ∀ x, x ∈ layV (setH u v.id val b) (layV (setH v u.id val b) L) ↔ (x ∈ L ∧ x.id ≠ v.id ∧ x.id ≠ u.id) ∨ x = setH v u.id val b ∨ x = setH u v.id val b := by
    intro x
    rw [layV_mem r1, layV_mem h.rise]
    constructor
    · rintro (⟨⟨h1, h2⟩ | ⟨_, rfl⟩, h3⟩ | ⟨_, rfl⟩)
      · exact .inl ⟨h1, h2, h3⟩
      · exact .inr (.inl rfl)
      · exact .inr (.inr rfl)
    · rintro (⟨h1, h2, h3⟩ | rfl | rfl)
      · exact .inl ⟨.inl ⟨h1, h2⟩, h3⟩
      · exact .inl ⟨.inr ⟨gv.there, rfl⟩, hne⟩
      · exact .inr ⟨gu.there, rfl⟩
  have rv := (h.each v hv).hrise
  have ru := (h.each u hu).hrise
  refine ⟨layV_rise r1, fun x hx => ?_, fun x hx e he => ?_⟩
  · rcases (mem x).1 hx with ⟨h1, _⟩ | rfl | rfl
    · exact h.each x h1
    · exact gv
    · exact gu
  · -- who stands for y
    have stand : ∀ y ∈ L, ∀ k : Ent, k ∈ y.halves → (y = v → k.key ≠ u.id) → (y = u → k.key ≠ v.id) → ∃ z ∈ layV (setH u v.id val b) (layV (setH v u.id val b) L), z.id = y.id ∧ k ∈ z.halves := by
      intro y hy k hk n1 n2
      by_cases c1 : y.id = v.id
      · have := h.rise.uniq hy hv c1
        subst this
        exact ⟨_, (mem _).2 (.inr (.inl rfl)), rfl, (setH_mem rv).2 (.inl ⟨hk, n1 rfl⟩)⟩
      · by_cases c2 : y.id = u.id
        · have := h.rise.uniq hy hu c2
          subst this
          exact ⟨_, (mem _).2 (.inr (.inr rfl)), rfl, (setH_mem ru).2 (.inl ⟨hk, n2 rfl⟩)⟩
        · exact ⟨y, (mem y).2 (.inl ⟨hy, c1, c2⟩), rfl, hk⟩
    rcases (mem x).1 hx with ⟨h1, h2, h3⟩ | rfl | rfl
    · obtain ⟨y, hy, hyi, hym⟩ := h.pair x h1 e he
      obtain ⟨z, hz, z1, z2⟩ := stand y hy _ hym (fun _ => h3) (fun _ => h2)
      exact ⟨z, hz, z1.trans hyi, z2⟩
    · rcases (setH_mem rv).1 he with ⟨h1, h2⟩ | ⟨hb, rfl⟩
      · obtain ⟨y, hy, hyi, hym⟩ := h.pair v hv e h1
        obtain ⟨z, hz, z1, z2⟩ := stand y hy _ hym (fun ey => by subst ey; exact absurd hyi.symm (by have := ((h.each _ hv).halves e h1).2.2.1; exact this)) (fun ey => by subst ey; exact absurd hyi.symm h2)
        exact ⟨z, hz, z1.trans hyi, z2⟩
      · exact ⟨_, (mem _).2 (.inr (.inr rfl)), rfl, (setH_mem ru).2 (.inr ⟨hb, rfl⟩)⟩
    · rcases (setH_mem ru).1 he with ⟨h1, h2⟩ | ⟨hb, rfl⟩
      · obtain ⟨y, hy, hyi, hym⟩ := h.pair u hu e h1
        obtain ⟨z, hz, z1, z2⟩ := stand y hy _ hym (fun ey => by subst ey; exact absurd hyi.symm h2) (fun ey => by subst ey; exact absurd hyi.symm (by have := ((h.each _ hu).halves e h1).2.2.1; exact this))
        exact ⟨z, hz, z1.trans hyi, z2⟩
      · exact ⟨_, (mem _).2 (.inr (.inl rfl)), rfl, (setH_mem rv).2 (.inr ⟨hb, rfl⟩)⟩
theorem opOK_parts {o : Opr} (h : opOK o = true) : (1 ≤ o.kind ∧ o.kind ≤ 9) ∧ (1 ≤ o.a ∧ o.a ≤ 40) ∧ (o.two = true → (1 ≤ o.b ∧ o.b ≤ 40) ∧ o.b ≠ o.a) ∧ o.key ≤ 3 ∧ o.val.ok = true := by
  unfold opOK at h
  simp only [Bool.and_eq_true, decide_eq_true_eq, numB] at h
  obtain ⟨⟨⟨⟨⟨h1, h2⟩, h3⟩, h4⟩, h5⟩, h6⟩ := h
  refine ⟨⟨h1, h2⟩, h3, fun ht => ?_, ?_, ?_⟩
  · rw [if_pos ht] at h4
    simpa using h4
  · split at h5
    · simpa using h5
    · simp at h5; omega
  · split at h6
    · exact h6
    · simp at h6
      have e := ((noVal_iff 0 0 ⟨#[]⟩).1 rfl).2.2
      rw [h6]
      simp [noVal, Val.ok, e]
theorem Good.one {L : Gr} (h : Good L) {o : Opr} (ho : opOK o = true) : Good (oneG L o).g := by
  obtain ⟨hk, ha, hb, hkey, hval⟩ := opOK_parts ho
  unfold oneG
  by_cases k1 : o.kind = 1
  · rw [if_pos k1]
    cases hf : findV L o.a with
    | some x => simp; exact h
    | none =>
      simp only [Option.isSome_none, Bool.false_eq_true, if_false]
      have hn := findV_none.1 hf
      refine ⟨layV_rise h.rise, fun x hx => ?_, fun x hx e he => ?_⟩
      · rcases (layV_mem h.rise).1 hx with ⟨h1, _⟩ | ⟨_, rfl⟩
        · exact h.each x h1
        · exact ⟨rfl, ha, List.Pairwise.nil, List.Pairwise.nil, by simp, by simp, by simp⟩
      · rcases (layV_mem h.rise).1 hx with ⟨h1, _⟩ | ⟨_, rfl⟩
        · obtain ⟨y, hy, hyi, hym⟩ := h.pair x h1 e he
          exact ⟨y, (layV_mem h.rise).2 (.inl ⟨hy, hn y hy⟩), hyi, hym⟩
        · simp at he
  · rw [if_neg k1]
    cases hf : findV L o.a with
    | none => exact h
    | some v =>
      obtain ⟨hv, hvi⟩ := findV_mem hf
      simp only
      by_cases k2 : o.kind = 2
      · rw [if_pos k2]
        by_cases hl : 0 < v.halves.length
        · rw [if_pos hl]; exact h
        · rw [if_neg hl]
          have hv0 : v.halves = [] := List.length_eq_zero_iff.1 (by omega)
          refine ⟨layV_rise h.rise, fun x hx => ?_, fun x hx e he => ?_⟩
          · rcases (layV_mem h.rise).1 hx with ⟨h1, _⟩ | ⟨h1, _⟩
            · exact h.each x h1
            · cases h1
          · rcases (layV_mem h.rise).1 hx with ⟨h1, _⟩ | ⟨h1, _⟩
            · obtain ⟨y, hy, hyi, hym⟩ := h.pair x h1 e he
              refine ⟨y, (layV_mem h.rise).2 (.inl ⟨hy, fun c => ?_⟩), hyi, hym⟩
              have := h.rise.uniq hy hv (c.trans hvi.symm)
              subst this
              rw [hv0] at hym
              simp at hym
            · cases h1
      · rw [if_neg k2]
        by_cases k3 : o.kind = 3
        · rw [if_pos k3]
          exact h.same hv ((h.each v hv).setp hkey hval) rfl rfl
        · rw [if_neg k3]
          by_cases k4 : o.kind = 4
          · rw [if_pos k4]; exact h
          · rw [if_neg k4]
            by_cases k5 : o.kind = 5
            · rw [if_pos k5]
              have hb := hb (by unfold Opr.two; simp [k5])
              cases hu : findV L o.b with
              | none => exact h
              | some u =>
                obtain ⟨hum, hui⟩ := findV_mem hu
                simp only
                split
                · exact h
                · split
                  · exact h
                  · rename_i n1 n2
                    rw [← hui] at hb ⊢
                    rw [← hvi] at hb ⊢
                    exact h.two hv hum (Ne.symm hb.2) ((h.each v hv).set hb.1 hb.2 hval (by omega)) ((h.each u hum).set (by rw [hvi]; exact ha) (Ne.symm hb.2) hval (by omega))
            · rw [if_neg k5]
              by_cases k6 : o.kind = 6 ∨ o.kind = 7
              · rw [if_pos k6]
                have hb := hb (by unfold Opr.two; rcases k6 with k | k <;> simp [k])
                cases he : entX v.halves o.b with
                | none => exact h
                | some val =>
                  simp only
                  by_cases k7 : o.kind = 7
                  · rw [if_pos k7]; exact h
                  · rw [if_neg k7]
                    cases hu : findV L o.b with
                    | none =>
                      exfalso
                      obtain ⟨y, hy, hyi, _⟩ := h.pair v hv _ (entX_mem he)
                      exact findV_none.1 hu y hy hyi
                    | some u =>
                      obtain ⟨hum, hui⟩ := findV_mem hu
                      simp only
                      rw [← hui] at hb ⊢
                      rw [← hvi] at hb ⊢
                      exact h.two hv hum (Ne.symm hb.2) ((h.each v hv).cut _ _) ((h.each u hum).cut _ _)
              · rw [if_neg k6]
                split
                · exact h
                · split
                  · split
                    · exact h
                    · exact h
                  · exact h
theorem Good.run {ops : List Opr} : ∀ {L L' : Gr} {us vs : List Val}, Good L → (∀ o ∈ ops, opOK o = true) → ops.foldl okStep (some (L, us)) = some (L', vs) → Good L' := by
  induction ops with
  | nil => intro L L' us vs h _ e; simp at e; rw [← e.1]; exact h
  | cons o r ih =>
    intro L L' us vs h ho e
    rw [List.foldl_cons] at e
    by_cases hz : (oneG L o).e = 0
    · have : okStep (some (L, us)) o = some ((oneG L o).g, us ++ (oneG L o).vals) := by simp [okStep, hz]
      rw [this] at e
      exact ih (h.one (ho o (by simp))) (fun p hp => ho p (by simp [hp])) e
    · have : okStep (some (L, us)) o = none := by simp [okStep, hz]
      rw [this, okStep_none] at e
      cases e
theorem checkR_tx {r : Rqt} (h : checkR r = 0) (hk : r.kind = 1) : (∀ o ∈ r.ops, opOK o = true) ∧ 1 ≤ r.ops.length ∧ r.ops.length ≤ 6 := by
  unfold checkR at h
  split at h
  · cases h
  · split at h
    · cases h
    · split at h
      · cases h
      · rename_i h1 h2 h3
        refine ⟨fun o ho => ?_, by omega, by omega⟩
        rw [Bool.not_eq_false] at h3
        exact List.all_eq_true.1 h3 o ho
theorem Good.do {L : Gr} (h : Good L) (r : Rqt) : Good (doG L r).1 := by
  unfold doG
  split
  · exact h
  · rename_i hc
    split
    · rename_i hk
      cases hr : okRun L r.ops with
      | none => exact h
      | some p => exact Good.run (us := []) (vs := p.2) h (checkR_tx (by simpa using hc) hk).1 hr
    · split
      · exact h
      · split
        · exact h
        · exact h
end Go.Proofs.YtnkmfgklmfmfeaaGreatDoor
