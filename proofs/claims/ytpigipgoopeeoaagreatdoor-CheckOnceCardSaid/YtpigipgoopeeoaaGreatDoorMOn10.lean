import Derived.Test.YtpigipgoopeeoaaGreatDoorMOn01
import Derived.Lib.SmallJoins
import Derived.ChangeSlices
import Derived.Deep.Slices
import Derived.Deep.Fields
import Derived.SizedLaws
set_option linter.unusedVariables false
set_option linter.unusedSimpArgs false
namespace Go.Proofs.YtpigipgoopeeoaaGreatDoor
open Go.ChangeShapes Go.WideShapes Go.ChangeAt Go.RowKit
section
variable {H : Type}
def okW (t : TypeId) (d : DataW H) : Prop := (DataW.weights Tryz.prog t d).all (· ≤ reachBytes) = true
theorem weightsAll_in {P : Program} {e : TypeId} : ∀ {l : List (DataW H)} {d : DataW H}, d ∈ l → ∀ n ∈ d.weights P e, n ∈ DataW.weightsAll P e l
 | [], d, h, n, hn => by simp at h
 | x :: r, d, h, n, hn => by
   simp only [DataW.weightsAll, List.mem_append]
   rcases List.mem_cons.1 h with rfl | h
   · exact .inl hn
   · exact .inr (weightsAll_in h n hn)
theorem okW_slice {t e : TypeId} {elems spare : List (DataW H)} (ht : Tryz.prog.underlying t = some (.slice e)) (h : okW t (.slice elems spare)) : (elems.length + spare.length) * Tryz.prog.bytesOf e ≤ reachBytes ∧ ∀ d ∈ elems, okW e d := by
 unfold okW at h
 simp only [DataW.weights, ht, List.all_cons, List.all_append, Bool.and_eq_true] at h
 refine ⟨by simpa using h.1, fun d hd => List.all_eq_true.2 fun n hn => List.all_eq_true.1 h.2.1 n (weightsAll_in hd n hn)⟩
theorem okW_part {t : TypeId} {fs : Array Field} {parts : List (DataW H)} (ht : Tryz.prog.underlying t = some (.struct fs)) (h : okW t (.agg parts)) {j : Nat} {f : Field} {d : DataW H} (hf : fs[j]? = some f) (hd : parts[j]? = some d) : okW f.type d := by
 unfold okW at h
 simp only [DataW.weights, ht] at h
 exact List.all_eq_true.2 fun n hn => List.all_eq_true.1 h n (DataW.weights_mem_each (j := j) (by simp [hf]) hd n hn)
theorem flat_get {α : Type} (cells : α → List Value) {size : Nat} (hc : ∀ x, (cells x).length = size) : ∀ (l : List α) (i j : Nat) (x : α), l[i]? = some x → j < size → (l.flatMap cells)[i * size + j]? = (cells x)[j]?
 | [], i, j, x, h, _ => by simp at h
 | y :: r, 0, j, x, h, hj => by
   simp at h
   subst h
   rw [List.flatMap_cons, Nat.zero_mul, Nat.zero_add, List.getElem?_append_left (by rw [hc]; exact hj)]
 | y :: r, i + 1, j, x, h, hj => by
   simp at h
   rw [List.flatMap_cons, List.getElem?_append_right (by rw [hc, Nat.add_mul, Nat.one_mul]; omega), hc, show (i + 1) * size + j - size = i * size + j by rw [Nat.add_mul, Nat.one_mul]; omega]
   exact flat_get cells hc r i j x h hj
theorem flat_size {α : Type} (cells : α → List Value) {size : Nat} (hc : ∀ x, (cells x).length = size) (l : List α) : (l.flatMap cells).length = l.length * size := by
 induction l with
 | nil => simp
 | cons x r ih => rw [List.flatMap_cons, List.length_append, ih, hc, List.length_cons, Nat.add_mul, Nat.one_mul, Nat.add_comm]
variable {enc : TypeId × Value → H} {W : World}
theorem in_slice {α : Type} [Inhabited α] {t e : TypeId} (ht : Tryz.prog.underlying t = some (.slice e)) {size : Nat} (hC : Tryz.prog.cellsOf e = size) (h0 : 0 < size) (cells : α → List Value) (hc : ∀ x, (cells x).length = size) (Good : α → Prop)
   (elem : ∀ (n : Nat) (cs : List Value) (y : DataW H × List MemPlace), cs.length = size → DataW.trod enc Tryz.prog W 0 (fun _ => true) true n e cs = some y → okW e y.1 → ∃ x, cs = cells x ∧ Good x)
   {n : Nat} {u : Value} {y : DataW H × List MemPlace} (h : DataW.trod enc Tryz.prog W 0 (fun _ => true) true n t [u] = some y) (hw : okW t y.1) :
   ∃ l : List α, RdS W size u l.length (l.flatMap cells) ∧ (∀ x ∈ l, Good x) ∧ l.length * Tryz.prog.bytesOf e ≤ reachBytes := by
 rcases Go.Deep.open_slice ht h with ⟨hcs, _⟩ | ⟨a, len, cap, m, n', D, Pl, hcs, _, hl, hm, hmm, rfl, hi⟩
 · simp at hcs
   exact ⟨[], ⟨by simp, ⟨none, 0, hcs, Nat.le_refl _, by omega, fun _ => rfl⟩, fun a c e j u hu => by simp at hu⟩, by simp, by simp⟩
 · simp at hcs
   simp only [if_true] at hmm
   subst hmm
   obtain ⟨hb, hel⟩ := okW_slice ht hw
   obtain ⟨f, hf⟩ := Go.Deep.choose_lt (α := α) (n := len) (p := fun i x => W.cells? 0 (a.add (i * size)) size = some (cells x) ∧ Good x) (fun i hil => by
     obtain ⟨cs', h1, h2⟩ := hi i (by omega)
     rw [hC] at h1
     obtain ⟨_, hlen, _⟩ := World.cells?_some h1
     obtain ⟨x, rfl, hg⟩ := elem n' cs' _ hlen h2 (hel _ (by simp only [List.mem_map, List.mem_range]; exact ⟨i, hil, rfl⟩))
     exact ⟨x, h1, hg⟩)
   have hget : ∀ i, i < len → ((List.range len).map f)[i]? = some (f i) := fun i hi => by simp [hi]
   refine ⟨(List.range len).map f, ⟨flat_size cells hc _, ⟨some a, m, by simpa using hcs, by simpa using hl, by unfold maxLen at hm; omega, fun h => by cases h⟩, fun a' c' e' j u' hu' => ?_⟩, ?_, ?_⟩
   · rw [hcs] at e'
     injection e' with e1 e2 e3
     subst e1
     have hj : j < len * size := by
       have := (List.getElem?_eq_some_iff.1 hu').1
       rw [flat_size cells hc] at this
       simpa using this
     have hji : j / size < len := Nat.div_lt_of_lt_mul (by rw [Nat.mul_comm]; exact hj)
     have hr : j % size < size := Nat.mod_lt _ h0
     have hjj : j / size * size + j % size = j := by rw [Nat.mul_comm]; exact Nat.div_add_mod j size
     have hx := flat_get cells hc _ _ (j % size) _ (hget _ hji) hr
     rw [hjj, hu'] at hx
     obtain ⟨_, _, hat⟩ := World.cells?_some (hf _ hji).1
     have hcell := hat _ hr
     rw [Go.Deep.add_add, hjj, ← hx] at hcell
     obtain ⟨b, off, spot⟩ := a
     have hs : spot = none := by
       obtain ⟨_, _, hat0⟩ := World.cells?_some (hf 0 (Nat.lt_of_le_of_lt (Nat.zero_le _) hji)).1
       have h00 := hat0 0 h0
       rw [List.getElem?_eq_getElem (by rw [hc]; exact h0)] at h00
       simpa [Addr.add] using World.cell?_spot h00
     subst hs
     rw [addr_add] at hcell
     exact ⟨b, off, rfl, World.block_lt_of_cell? _ _ hcell, hcell⟩
   · intro x hx
     obtain ⟨i, hi, rfl⟩ := List.mem_map.1 hx
     exact (hf i (List.mem_range.1 hi)).2
   · simp only [List.length_map, List.length_range] at hb ⊢
     exact Nat.le_trans (Nat.mul_le_mul_right _ (Nat.le_add_right _ _)) hb
set_option maxRecDepth 100000 in
theorem in_val (n : Nat) (cs : List Value) (y : DataW H × List MemPlace) (hl : cs.length = 3) (h : DataW.trod enc Tryz.prog W 0 (fun _ => true) true n 77 cs = some y) : ∃ v : Val, cs = [.int .u8 (v.k : Int), .int .i64 v.n, .string v.s] ∧ v.Fits := by
 obtain ⟨xs, n', _, _, _, hlen, hf⟩ := DataW.trod_struct Tryz.underlying77 h
 match cs, hl with
 | [c0, c1, c2], _ =>
   have cu8 : Tryz.prog.cellsOf 5 = 1 := by kernel_rfl
   have ci64 : Tryz.prog.cellsOf 2 = 1 := by kernel_rfl
   have cst : Tryz.prog.cellsOf 9 = 1 := by kernel_rfl
   match xs, hlen with
   | [y0, y1, y2], _ =>
     have h0 : DataW.trod enc Tryz.prog W 0 (fun _ => true) true n' 5 ((List.drop 0 [c0, c1, c2]).take (Tryz.prog.cellsOf 5)) = some y0 := hf 0 _ rfl
     have h1 : DataW.trod enc Tryz.prog W 0 (fun _ => true) true n' 2 ((List.drop 1 [c0, c1, c2]).take (Tryz.prog.cellsOf 2)) = some y1 := hf 1 _ rfl
     have h2 : DataW.trod enc Tryz.prog W 0 (fun _ => true) true n' 9 ((List.drop 2 [c0, c1, c2]).take (Tryz.prog.cellsOf 9)) = some y2 := hf 2 _ rfl
     simp only [cu8, ci64, cst, List.drop_zero, List.take_succ_cons, List.take_zero, List.drop_succ_cons] at h0 h1 h2
     obtain ⟨a0, e0, _, w0⟩ := DataW.trod_int Tryz.underlying5 h0
     obtain ⟨a1, e1, _, w1⟩ := DataW.trod_int Tryz.underlying2 h1
     obtain ⟨s, e2, _, hs⟩ := DataW.trod_string Tryz.underlying9 h2
     simp only [List.cons.injEq, and_true] at e0 e1 e2
     have b0 := bounds_u8 w0
     have b1 := bounds_i64 w1
     obtain ⟨k, rfl⟩ := Int.eq_ofNat_of_zero_le b0.1
     subst e0 e1 e2
     exact ⟨⟨k, a1, s⟩, rfl, by simp only; omega, by simp only; omega, hs⟩
end
open Go.ChangeShapes Go.WideShapes Go.ChangeAt Go.RowKit
instance : Inhabited Ent := ⟨farE 0⟩
instance : Inhabited Vs := ⟨⟨va, .slice none 0 0, .slice none 0 0⟩⟩
instance : Inhabited Ls := ⟨⟨.slice none 0 0, []⟩⟩
section
variable {H : Type} {enc : TypeId × Value → H} {W : World}
variable {base : Nat} {v : Value} {d : DataW H} {p : List MemPlace}
def InU8 (W : World) (v : Value) : Prop := ∃ t : Nat, v = .int .u8 (t : Int) ∧ t < 256
set_option maxRecDepth 100000 in
theorem in_u8 (hv : Value.okWide Tryz.prog W .any base 5 v) (h : DataW.Trod enc Tryz.prog W 0 (fun _ => true) true 5 v d p) : InU8 W v := by
 obtain ⟨a, rfl, _, _, hw⟩ := open_int Tryz.underlying5 hv h
 have b := bounds_u8 hw
 obtain ⟨m, rfl⟩ := Int.eq_ofNat_of_zero_le b.1
 exact ⟨m, rfl, by omega⟩
end
theorem weights_at {H : Type} {P : Program} {ts : List TypeId} {ds : List (DataW H)} (h : (DataW.weightsEach P ts ds).all (· ≤ reachBytes) = true) {j : Nat} {t : TypeId} {d : DataW H} (ht : ts[j]? = some t) (hd : ds[j]? = some d) : (DataW.weights P t d).all (· ≤ reachBytes) = true :=
 List.all_eq_true.2 fun x hx => List.all_eq_true.1 h x (DataW.weights_mem_each ht hd x hx)
end Go.Proofs.YtpigipgoopeeoaaGreatDoor
