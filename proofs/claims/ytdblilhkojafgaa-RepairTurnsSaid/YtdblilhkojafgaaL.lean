/- Small words on worlds: what may have changed between two worlds; a block that is known whole. -/
import Derived.Below
import Derived.OneCell
import Derived.Maps.OwnSet
import Derived.Lib.Hide
namespace Go.Proofs.Ytdblilhkojafgaa
set_option linter.unusedVariables false
open Go.RowKit

/-- w' is w but for the blocks in S and for new ones. -/
structure Mod (S : Nat → Prop) (w w' : World) : Prop where
  os : w'.os = w.os
  tape : w'.tape = w.tape
  output : w'.output = w.output
  size : w.heap.size ≤ w'.heap.size
  block : ∀ k, k < w.heap.size → ¬ S k → w'.heap[k]? = w.heap[k]?

theorem Mod.refl (S : Nat → Prop) (w : World) : Mod S w w := ⟨rfl, rfl, rfl, Nat.le_refl _, fun _ _ _ => rfl⟩
theorem Mod.trans {S : Nat → Prop} {a b c : World} (h : Mod S a b) (k : Mod S b c) : Mod S a c :=
  ⟨k.os.trans h.os, k.tape.trans h.tape, k.output.trans h.output, Nat.le_trans h.size k.size, fun i hi hs => (k.block i (Nat.lt_of_lt_of_le hi h.size) hs).trans (h.block i hi hs)⟩
theorem Mod.mono {S T : Nat → Prop} {a b : World} (h : Mod S a b) (hs : ∀ k, k < a.heap.size → S k → T k) : Mod T a b :=
  ⟨h.os, h.tape, h.output, h.size, fun i hi ht => h.block i hi (fun s => ht (hs i hi s))⟩
/-- Two steps, the second of which may also touch what the first has made. -/
theorem Mod.trans' {S T : Nat → Prop} {a b c : World} (h : Mod S a b) (k : Mod T b c) (hs : ∀ i, i < a.heap.size → T i → S i) : Mod S a c :=
  ⟨k.os.trans h.os, k.tape.trans h.tape, k.output.trans h.output, Nat.le_trans h.size k.size, fun i hi s => (k.block i (Nat.lt_of_lt_of_le hi h.size) (fun t => s (hs i hi t))).trans (h.block i hi s)⟩
theorem Mod.alloc {S : Nat → Prop} {a w : World} (h : Mod S a w) (o : Obj) : Mod S a (w.alloc o) :=
  h.trans' (T := fun _ => False) ⟨rfl, rfl, rfl, by simp, fun k hk _ => Below.heap_alloc _ _ _ hk⟩ (fun _ _ f => f.elim)
theorem Mod.drew {S : Nat → Prop} {a w : World} (h : Mod S a w) : Mod S a w.drew := ⟨h.os, h.tape, h.output, h.size, h.block⟩
theorem Mod.setCell {S : Nat → Prop} {a w : World} (h : Mod S a w) {p : Addr} (hp : p.block < a.heap.size → S p.block) (u : Value) : Mod S a (w.setCell p u) :=
  h.trans' (T := fun k => k = p.block) ⟨rfl, rfl, rfl, by simp [World.setCell], fun k _ hk => Below.heap_setCell _ _ _ _ hk⟩ (fun i hi e => e ▸ hp (e ▸ hi))
theorem Mod.turned {S : Nat → Prop} {a w w' : World} {b : Nat} (h : Mod S a w) (ht : w.mapTurned w' b) (hb : b < a.heap.size → S b) : Mod S a w' := by
  have g := ht.grown
  exact h.trans' (T := fun k => k = b) ⟨g.os, g.tape, g.output, g.size, fun k hk hne => g.block k hk (fun e => hne (by injection e))⟩ (fun i hi e => e ▸ hb (e ▸ hi))
theorem Mod.grown {S : Nat → Prop} {a w w' : World} {r : Option Nat} (h : Mod S a w) (g : w.grownBy w' r) (hb : ∀ b, r = some b → b < a.heap.size → S b) : Mod S a w' :=
  h.trans' (T := fun k => some k = r) ⟨g.os, g.tape, g.output, g.size, fun k hk hne => g.block k hk hne⟩ (fun i hi e => hb i e.symm hi)
theorem Mod.below {S : Nat → Prop} {a w w' : World} (h : Mod S a w) (g : Below w.heap.size w w') : Mod S a w' :=
  h.trans' (T := fun _ => False) ⟨g.os, g.tape, g.output, g.size, fun k hk _ => g.block k hk⟩ (fun _ _ f => f.elim)
/-- All that was there when the call began is as it was. -/
theorem Mod.toBelow {S : Nat → Prop} {w w' : World} (h : Mod S w w') {B : Nat} (hB : B ≤ w.heap.size) (hs : ∀ k, k < B → ¬ S k) : Below B w w' :=
  ⟨h.os, h.tape, h.output, h.size, fun k hk => h.block k (by omega) (hs k hk)⟩
theorem Mod.heap {S : Nat → Prop} {w w' : World} (h : Mod S w w') {b : Nat} {o : Obj} (hb : w.heap[b]? = some o) (hs : ¬ S b) : w'.heap[b]? = some o :=
  (h.block b (lt_of_block hb) hs).trans hb
theorem Mod.ownsMap {H : Type} {S : Nat → Prop} {w w' : World} (h : Mod S w w') {P : Program} {k : TypeId} {R : Value → Option (DataW H × List MemPlace)} {b n : Nat} {D : DataW H} (ho : w.ownsMap P k R b n D) (hs : ¬ S b) : w'.ownsMap P k R b n D := by
  have hlt := ho.lt
  obtain ⟨es, clock, hb, F, hn, hD⟩ := ho
  exact ⟨es, clock, (h.block b hlt hs).trans hb, F, hn, hD⟩

/-- A block that is known whole. -/
theorem cell_of_row {w : World} {b : Nat} {c : Array Value} {t : TypeId} (h : w.heap[b]? = some (.cells c t (0, 0))) (j : Nat) : w.cell? ⟨b, j, none⟩ = c[j]? := by simp [World.cell?, h]
theorem free_of_row {w : World} {b : Nat} {c : Array Value} {t : TypeId} (h : w.heap[b]? = some (.cells c t (0, 0))) (j : Nat) : w.frozen? ⟨b, j, none⟩ = false := by simp [World.frozen?, h]
theorem row_setCell {w : World} {b : Nat} {c : Array Value} {t : TypeId} {f : Nat × Nat} (h : w.heap[b]? = some (.cells c t f)) (j : Nat) (u : Value) : (w.setCell ⟨b, j, none⟩ u).heap[b]? = some (.cells (c.setIfInBounds j u) t f) := by
  have hlt := lt_of_block h
  have h' : w.heap[b] = .cells c t f := by simpa [Array.getElem?_eq_getElem hlt] using h
  show (w.heap.modify b _)[b]? = _
  rw [Array.getElem?_eq_getElem (by simpa using hlt), Array.getElem_modify_self, h']
  rfl
theorem heap_setCell_other (w : World) (a : Addr) (u : Value) (k : Nat) (h : k ≠ a.block) : (w.setCell a u).heap[k]? = w.heap[k]? := Below.heap_setCell _ _ _ _ h
theorem heap_alloc_old {w : World} {b : Nat} {o o' : Obj} (h : w.heap[b]? = some o) : (w.alloc o').heap[b]? = some o := (Below.heap_alloc _ _ _ (lt_of_block h)).trans h
theorem heap_alloc_old' (w : World) (o : Obj) (k : Nat) (h : k < w.heap.size) : (w.alloc o).heap[k]? = w.heap[k]? := Below.heap_alloc _ _ _ h
theorem heap_alloc_new' (w : World) (o : Obj) : (w.alloc o).heap[w.heap.size]? = some o := by
  show (w.heap.push o)[w.heap.size]? = _
  simp

/-- What a walk is told of a slice of integers that came in: it is nil; or it leads to a row of 'cap' cells, the numbers 'zs', each fitting its kind. -/
def IsRow (k : IntKind) (w : World) (a : Option Addr) (len cap : Nat) (zs : List Int) : Prop :=
  (a = none ∧ len = 0 ∧ cap = 0 ∧ zs = []) ∨
  ∃ x, a = some x ∧ len ≤ cap ∧ cap ≤ maxLen ∧ zs.length = cap ∧ (∀ i, i < zs.length → w.cell? (x.add i) = some (.int k (zs.getD i 0))) ∧ ∀ n ∈ zs, (Lit.int k n).wf = true

/-- One form for nil and for the rest: where there is an element its cell is known. -/
structure RowAt (k : IntKind) (w : World) (a : Option Addr) (len : Nat) (f : Nat → Int) : Prop where
  len_le : len ≤ 9223372036854775807
  cell : ∀ i, i < len → ∃ b off, a = some ⟨b, off, none⟩ ∧ b < w.heap.size ∧ w.cell? ⟨b, off + i, none⟩ = some (.int k (f i))
  wf : ∀ i, i < len → (Lit.int k (f i)).wf = true

theorem IsRow.at {k : IntKind} {w : World} {a : Option Addr} {len cap : Nat} {zs : List Int} (h : IsRow k w a len cap zs) : RowAt k w a len (fun i => zs.getD i 0) := by
  rcases h with ⟨rfl, rfl, rfl, rfl⟩ | ⟨x, rfl, hl, hm, hz, hc, hw⟩
  · exact ⟨by omega, fun i hi => by omega, fun i hi => by omega⟩
  · refine ⟨by unfold maxLen at hm; omega, fun i hi => ?_, fun i hi => ?_⟩
    · have h1 := hc i (by omega)
      have h0 := hc 0 (by omega)
      obtain ⟨b, off, spot⟩ := x
      have hs : spot = none := by simpa [Addr.add] using World.cell?_spot h0
      subst hs
      refine ⟨b, off, rfl, ?_, ?_⟩
      · unfold World.cell? at h0
        rcases Nat.lt_or_ge b w.heap.size with hb | hb
        · exact hb
        · simp [Addr.add, Array.getElem?_eq_none hb] at h0
      · rw [← h1]; unfold Addr.add; split <;> simp_all
    · have : zs.getD i 0 ∈ zs := by simp [List.getD, List.getElem?_eq_getElem (by omega : i < zs.length)]
      exact hw _ this
theorem RowAt.mod {k : IntKind} {w w' : World} {a : Option Addr} {len : Nat} {f : Nat → Int} {S : Nat → Prop} (h : RowAt k w a len f) (m : Mod S w w') (hs : ∀ b, b < w.heap.size → ¬ S b) : RowAt k w' a len f :=
  ⟨h.len_le, fun i hi => by
    obtain ⟨b, off, e, hb, hc⟩ := h.cell i hi
    exact ⟨b, off, e, Nat.lt_of_lt_of_le hb m.size, (World.cell?_of_block (w := w) (m.block b hb (hs b hb))).trans hc⟩, h.wf⟩
end Go.Proofs.Ytdblilhkojafgaa
