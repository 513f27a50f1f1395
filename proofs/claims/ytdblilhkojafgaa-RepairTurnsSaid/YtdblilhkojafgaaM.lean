/- Maps with numbers for keys, as rising lists of keys and raw values. -/
import Derived.Test.YtdblilhkojafgaaL
import Derived.Maps.OwnOps
import Derived.Maps.OwnSet
import Derived.Maps.Ext
import Derived.WalkKit
namespace Go.Proofs.Ytdblilhkojafgaa
set_option linter.unusedVariables false
open Go.RowKit Go.Maps

/-- An element of a map as it stands. -/
def rawE (v : Value) : Option (DataW Value × List MemPlace) := some (.held v, [])
abbrev Ents := List (Nat × Value)
def entsD (q : IntKind) (es : Ents) : DataW Value := .map (es.map fun p => (.int q (p.1 : Int), .held p.2))
def getL (k : Nat) (es : Ents) : Option Value := (es.find? fun p => p.1 == k).map (·.2)
def delL (k : Nat) (es : Ents) : Ents := es.filter fun p => !(p.1 == k)
def insL (x : Nat × Value) : Ents → Ents
  | [] => [x]
  | y :: r => if x.1 < y.1 then x :: y :: r else y :: insL x r
def putL (k : Nat) (v : Value) (es : Ents) : Ents := insL (k, v) (delL k es)

theorem same_int (q : IntKind) (a b : Nat) : (Lit.int q (a : Int)).sameKey (.int q (b : Int)) = (a == b) := by
  simp [Lit.sameKey, Int.ofNat_inj]
  rfl
theorem entsD_del (q : IntKind) (k : Nat) (es : Ents) : (entsD q es).del (.int q (k : Int)) = entsD q (delL k es) := by
  simp only [entsD, DataW.del, delL, List.filter_map]
  congr 2
  apply List.filter_congr
  intro p _
  simp only [Function.comp]
  rw [same_int]
theorem insert_map (q : IntKind) (x : Nat × Value) : ∀ es : Ents, DataW.insert ((.int q (x.1 : Int) : Lit), (.held x.2 : DataW Value)) (es.map fun p => ((.int q (p.1 : Int) : Lit), (.held p.2 : DataW Value))) = (insL x es).map fun p => ((.int q (p.1 : Int) : Lit), (.held p.2 : DataW Value))
  | [] => rfl
  | y :: r => by
    have hb : (Lit.int q (x.1 : Int)).before (.int q (y.1 : Int)) = decide (x.1 < y.1) := by simp [Lit.before]
    by_cases h : x.1 < y.1
    · simp [DataW.insert, insL, hb, h]
    · simp [DataW.insert, insL, hb, h, insert_map q x r]
theorem entsD_put (q : IntKind) (k : Nat) (v : Value) (es : Ents) : (entsD q es).put (.int q (k : Int)) (.held v) = entsD q (putL k v es) := by
  have h := entsD_del q k es
  simp only [entsD, DataW.del] at h
  injection h with h
  simp only [entsD, DataW.put, putL]
  rw [h, insert_map q (k, v)]
theorem entsD_at (q : IntKind) (k : Nat) (es : Ents) (z : Value) : (entsD q es).atKey (.int q (k : Int)) (.held z) = .held ((getL k es).getD z) := by
  simp only [entsD, DataW.atKey, getL, List.find?_map]
  have e : ((fun p : Lit × DataW Value => p.1.sameKey (.int q (k : Int))) ∘ fun p : Nat × Value => ((.int q (p.1 : Int) : Lit), (.held p.2 : DataW Value))) = fun p => p.1 == k := by
    funext p; simp only [Function.comp]; rw [same_int]
  rw [e]
  cases es.find? (fun p => p.1 == k) <;> rfl
theorem entsD_has (q : IntKind) (k : Nat) (es : Ents) : Maps.has (entsD q es) (.int q (k : Int)) = (getL k es).isSome := by
  rw [entsD, Maps.has_eq, getL, List.any_map]
  have e : ((fun p : Lit × DataW Value => p.1.sameKey (.int q (k : Int))) ∘ fun p : Nat × Value => ((.int q (p.1 : Int) : Lit), (.held p.2 : DataW Value))) = fun p => p.1 == k := by
    funext p; simp only [Function.comp]; rw [same_int]
  rw [e, Option.isSome_map]
  induction es with
  | nil => rfl
  | cons x r ih =>
    rw [List.any_cons, List.find?_cons]
    cases hx : (x.1 == k) with
    | true => rfl
    | false => simpa using ih
theorem entsD_size (q : IntKind) (es : Ents) : Maps.size (entsD q es) = es.length := by rw [entsD, Maps.size_eq, List.length_map]

/-- Block b is a map that holds just these. -/
structure UMap (P : Program) (kt : TypeId) (q : IntKind) (w : World) (b : Nat) (es : Ents) : Prop where
  own : w.ownsMap P kt rawE b es.length (entsD q es)
theorem tight {P : Program} {kt : TypeId} {q : IntKind} {w : World} {b n : Nat} {es : Ents} (h : w.ownsMap P kt rawE b n (entsD q es)) : UMap P kt q w b es := by
  obtain ⟨xs, clock, hb, F, hn, hD⟩ := h
  refine ⟨xs, clock, hb, F, ?_, hD⟩
  have := congrArg Maps.size hD
  rw [entsD_size, Maps.size_eq, length_sorted] at this
  simp at this
  omega
section
variable {P : Program} {kt : TypeId} {q : IntKind} {w : World} {b : Nat} {es : Ents}
theorem UMap.made (P : Program) (kt : TypeId) (q : IntKind) (w : World) : UMap P kt q (w.alloc (.map #[] 0)) w.heap.size [] := ⟨World.ownsMap_made w P kt rawE⟩
theorem UMap.lt (h : UMap P kt q w b es) : b < w.heap.size := h.own.lt
theorem UMap.mod {S : Nat → Prop} {w' : World} (h : UMap P kt q w b es) (m : Mod S w w') (hs : ¬ S b) : UMap P kt q w' b es := ⟨m.ownsMap h.own hs⟩
theorem UMap.keep {w' : World} (h : UMap P kt q w b es) (m : Mod (fun _ => False) w w') : UMap P kt q w' b es := h.mod m (fun f => f)
theorem UMap.drew (h : UMap P kt q w b es) : UMap P kt q w.drew b es := ⟨h.own⟩
theorem UMap.rising (h : UMap P kt q w b es) (K : Keyed P kt) : es.Pairwise fun x y => x.1 < y.1 := by
  obtain ⟨l, hl, hs, _⟩ := h.own.canon K
  rw [entsD] at hl
  injection hl with hl
  subst hl
  rw [List.pairwise_map] at hs
  refine hs.imp ?_
  intro x y hxy
  simpa [Lit.before] using hxy
theorem key_of {P : Program} {kt : TypeId} {q : IntKind} (hk : P.underlying kt = some (.int q)) {k : Nat} (hw : (Lit.int q (k : Int)).wf = true) : keyOf P kt (.int q (k : Int)) = some (.int q (k : Int)) := keyOf_int_mk hk hw
theorem UMap.get (h : UMap P kt q w b es) (hk : P.underlying kt = some (.int q)) {t e : TypeId} (ht : P.underlying t = some (.map kt e)) {z : Value} (hz : (zeroValue e).run P w = .ok z w) {k : Nat} (hw : (Lit.int q (k : Int)).wf = true) :
    (Instr.lookup t (.map (some b)) (.int q (k : Int)) false).run P w = .ok ((getL k es).getD z) w := by
  obtain ⟨v, ps, hr, hv⟩ := h.own.lookup (int_keyed hk) ht hz (show rawE z = some (.held z, []) from rfl) (key_of hk hw)
  rw [entsD_at] at hv
  simp only [rawE, Option.some.injEq, Prod.mk.injEq] at hv
  have : v = (getL k es).getD z := by have := hv.1; injection this
  rw [hr, this]
theorem UMap.getOk (h : UMap P kt q w b es) (hk : P.underlying kt = some (.int q)) {t e : TypeId} (ht : P.underlying t = some (.map kt e)) {z : Value} (hz : (zeroValue e).run P w = .ok z w) {k : Nat} (hw : (Lit.int q (k : Int)).wf = true) :
    (Instr.lookup t (.map (some b)) (.int q (k : Int)) true).run P w = .ok (.tuple #[(getL k es).getD z, .bool (getL k es).isSome]) w := by
  obtain ⟨v, ps, hr, hv⟩ := h.own.look_ok (int_keyed hk) ht hz (show rawE z = some (.held z, []) from rfl) (key_of hk hw)
  rw [entsD_at] at hv
  rw [entsD_has] at hr
  simp only [rawE, Option.some.injEq, Prod.mk.injEq] at hv
  have : v = (getL k es).getD z := by have := hv.1; injection this
  rw [hr, this]
theorem UMap.store (h : UMap P kt q w b es) (hk : P.underlying kt = some (.int q)) {t e : TypeId} (ht : P.underlying t = some (.map kt e)) (hn : es.length < maxLen) {k : Nat} (hw : (Lit.int q (k : Int)).wf = true) (v : Value) :
    ∃ w', (Instr.mapUpdate t (.map (some b)) (.int q (k : Int)) v).run P w = .ok () w' ∧ UMap P kt q w' b (putL k v es) ∧ Mod (fun i => i = b) w w' := by
  obtain ⟨w', hr, h1, h2⟩ := h.own.store (int_keyed hk) ht hn (key_of hk hw) (show rawE v = some (.held v, []) from rfl)
  rw [entsD_put] at h1
  exact ⟨w', hr, tight h1, (Mod.refl _ w).turned h2 (fun _ => rfl)⟩
theorem UMap.drop (h : UMap P kt q w b es) (hk : P.underlying kt = some (.int q)) {t e : TypeId} (ht : P.underlying t = some (.map kt e)) {k : Nat} (hw : (Lit.int q (k : Int)).wf = true) (ty : TypeId) :
    ∃ w', (Builtin.delete_ #[t, kt] ty #[.map (some b), .int q (k : Int)]).run P w = .ok (.tuple #[]) w' ∧ UMap P kt q w' b (delL k es) ∧ Mod (fun i => i = b) w w' := by
  obtain ⟨w', hr, h1, h2⟩ := h.own.drop (int_keyed hk) ht (key_of hk hw) ty
  rw [entsD_del] at h1
  exact ⟨w', hr, tight h1, (Mod.refl _ w).turned h2 (fun _ => rfl)⟩
theorem UMap.len (h : UMap P kt q w b es) {t e : TypeId} (ht : P.underlying t = some (.map kt e)) (ty : TypeId) : (Builtin.len_ #[t] ty #[.map (some b)]).run P w = .ok (.int .i64 (es.length : Int)) w := by
  rw [h.own.len ht ty, entsD_size]
end

section
variable {P : Program} {kt : TypeId} {q : IntKind} {w : World} {b : Nat} {es : Ents}
theorem step_delete_u {ops : Array Oper} {o : Oper} {a : Act} {K : Act → World → Prop} {Q : Exit → Act → World → Prop} {E : Prop} (hgd : o.guard = none) (m x : Operand) (t : TypeId)
    (ho : o.op = .call { callee := .builtin .delete, args := #[m, x], argTypes := #[t, kt] }) (e : TypeId) (ht : P.underlying t = some (.map kt e)) (hk : P.underlying kt = some (.int q))
    (hm : a.eval m = .map (some b)) (h : UMap P kt q w b es) (k : Nat) (hx : a.eval x = .int q (k : Int)) (hw : (Lit.int q (k : Int)).wf = true)
    (hK : ∀ w', UMap P kt q w' b (delL k es) → Mod (fun i => i = b) w w' → K (a.put o.dst (.tuple #[])) w') :
    if Region.wanted o (yielded ops a.tmps) = true then Oper.wp P o a w K Q else E := by
  have hwt : Region.wanted o (yielded ops a.tmps) = true := by simp [Region.wanted, hgd]
  rw [if_pos hwt]
  obtain ⟨w', hr, h1, h2⟩ := h.drop hk ht hw o.type
  unfold Oper.wp execOp
  simp only [ho, resolve, invoke, builtin, Sem.run_bind, Sem.run_pure, Result.andThen_ok, List.map_toArray, List.map_cons, List.map_nil, hm, hx, hr]
  exact hK w' h1 h2
end

/-! the lists -/
theorem delL_length (k : Nat) (es : Ents) : (delL k es).length ≤ es.length := List.length_filter_le _ _
theorem insL_length (x : Nat × Value) : ∀ es : Ents, (insL x es).length = es.length + 1
  | [] => rfl
  | y :: r => by simp only [insL]; split <;> simp [insL_length x r]
theorem putL_length (k : Nat) (v : Value) (es : Ents) : (putL k v es).length ≤ es.length + 1 := by
  unfold putL; rw [insL_length]; have := delL_length k es; omega
theorem mem_insL {x y : Nat × Value} : ∀ {es : Ents}, y ∈ insL x es ↔ y = x ∨ y ∈ es
  | [] => by simp [insL]
  | z :: r => by
    simp only [insL]
    split
    · simp
    · rw [List.mem_cons, mem_insL]; simp; constructor <;> (intro h; rcases h with h | h | h <;> simp [h])
theorem getL_insL (k : Nat) (x : Nat × Value) : ∀ es : Ents, (∀ p ∈ es, p.1 ≠ x.1) → getL k (insL x es) = if x.1 = k then some x.2 else getL k es
  | [], _ => by
    simp only [insL, getL, List.find?_cons, List.find?_nil]
    by_cases h : x.1 = k
    · simp [h]
    · have h2 : (x.1 == k) = false := by simpa using h
      simp [h2, h]
  | y :: r, h => by
    have hy := h y (by simp)
    have ih := getL_insL k x r (fun p hp => h p (by simp [hp]))
    simp only [insL]
    split
    · simp only [getL, List.find?_cons]
      by_cases hk : x.1 = k
      · simp [hk]
      · have : (x.1 == k) = false := by simpa using hk
        rw [this, if_neg hk]
    · simp only [getL, List.find?_cons] at ih ⊢
      by_cases hk : y.1 = k
      · have hne : ¬ x.1 = k := fun e => hy (hk.trans e.symm)
        simp [hk, hne]
      · have : (y.1 == k) = false := by simpa using hk
        rw [this]
        exact ih
theorem getL_delL (k j : Nat) : ∀ es : Ents, getL k (delL j es) = if j = k then none else getL k es
  | [] => by simp [getL, delL]
  | y :: r => by
    have ih := getL_delL k j r
    simp only [delL] at ih ⊢
    rw [List.filter_cons]
    by_cases hy : y.1 = j
    · have h1 : (y.1 == j) = true := by simpa using hy
      rw [h1]
      simp only [Bool.not_true, Bool.false_eq_true, if_false]
      rw [ih]
      by_cases h : j = k
      · simp [h]
      · have h2 : (y.1 == k) = false := by rw [hy]; simpa using h
        rw [if_neg h, if_neg h]
        simp only [getL, List.find?_cons, h2]
    · have h1 : (y.1 == j) = false := by simpa using hy
      rw [h1]
      simp only [Bool.not_false, if_true]
      simp only [getL, List.find?_cons] at ih ⊢
      by_cases hk : y.1 = k
      · have h2 : (y.1 == k) = true := by simpa using hk
        have h3 : ¬ j = k := fun e => hy (hk.trans e.symm)
        rw [h2, if_neg h3]
      · have h2 : (y.1 == k) = false := by simpa using hk
        rw [h2]
        exact ih
theorem getL_putL (k j : Nat) (v : Value) (es : Ents) : getL k (putL j v es) = if j = k then some v else getL k es := by
  unfold putL
  rw [getL_insL k (j, v) _ (fun p hp => by simp [delL] at hp; exact hp.2), getL_delL]
  by_cases h : j = k <;> simp [h]
end Go.Proofs.Ytdblilhkojafgaa
