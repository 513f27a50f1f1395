/- Lemmas for the claim, in one text: TA, T4, TB, G6, G7. -/
import Derived.Test.YtbgjbikpenefoaaGreatDoorIA
import Derived.Test.YtbgjbikpenefoaaGreatDoorM02

/- TA: what is needed of it (by shake.py). -/

/- TA, as far as the seat goes. -/
/- T1, T2, T3 in one. -/
/- A tally's plain layer: lists by rising keys, of whatever values; how often a number is named. -/
namespace Go.Proofs.YtbgjbikpenefoaaGreatDoor
set_option linter.unusedVariables false
open Go.RowKit Go.Maps
section
variable {β γ : Type}
end
/-- Who names whom. -/
abbrev Names := List (Nat × List Nat)
end Go.Proofs.YtbgjbikpenefoaaGreatDoor
/- A tally in memory; New, Of. -/
namespace Go.Proofs.YtbgjbikpenefoaaGreatDoor
set_option linter.unusedVariables false
open Go.RowKit Go.Maps
abbrev Zs := List (Nat × (Value × List Nat))
section
variable {w w' : World} {g bh bn : Nat} {Z : Zs} {en en' : Ents} {c c' : Nat → Nat} {m m' : Nat}
end
section
variable {P : Program} {kt : TypeId} {q : IntKind} {w : World} {b : Nat} {es : Ents}
end
end Go.Proofs.YtbgjbikpenefoaaGreatDoor
/- A tally's Of; turn. -/
namespace Go.Proofs.YtbgjbikpenefoaaGreatDoor
set_option linter.unusedVariables false
open Go.RowKit Go.Maps
end Go.Proofs.YtbgjbikpenefoaaGreatDoor

/- T4: what is needed of it (by shake.py). -/

/- T4, as far as the seat goes. -/
/- A tally's turn: a vertex is so. -/
namespace Go.Proofs.YtbgjbikpenefoaaGreatDoor
set_option linter.unusedVariables false
open Go.RowKit Go.Maps
section
variable {w wx wy : World} {o : Array Value} {g bh bn : Nat} {Z : Zs} {en en' : Ents} {c c' : Nat → Nat} {m m' : Nat}
end
theorem Mod.cellS {S : Nat → Prop} {w w' : World} (m : Mod S w w') {a : Addr} {v : Value} (h : w.cell? a = some v) (hs : ¬ S a.block) : w'.cell? a = some v :=
  (World.cell?_of_block (w := w) (m.block a.block (World.block_lt_of_cell? _ _ h) hs)).trans h
theorem RdS.ent2 {w : World} {kk : IntKind} {v : Value} {n : Nat} {l : List Ent} (h : RdS w 4 v n (cellsOf kk l)) {i : Nat} {x : Ent} (hi : l[i]? = some x) {a : Option Addr} {c : Nat} (e : v = .slice a n c) :
    ∃ b off, a = some ⟨b, off, none⟩ ∧ b < w.heap.size ∧ w.cell? ⟨b, off + i * 4, none⟩ = some (.int kk (x.key : Int)) ∧ w.cell? ⟨b, off + i * 4 + 1, none⟩ = some (.int .u8 (x.val.k : Int)) ∧ w.cell? ⟨b, off + i * 4 + 2, none⟩ = some (.int .i64 x.val.n) ∧ w.cell? ⟨b, off + i * 4 + 3, none⟩ = some (.string x.val.s) := h.ent hi e
end Go.Proofs.YtbgjbikpenefoaaGreatDoor

/- TB: what is needed of it (by shake.py). -/

/- TB, as far as the seat goes. -/
/- T5, T6, T7 in one. -/
/- A tally's Put, of, List; ghost.Count. -/
namespace Go.Proofs.YtbgjbikpenefoaaGreatDoor
set_option linter.unusedVariables false
open Go.RowKit Go.Maps
end Go.Proofs.YtbgjbikpenefoaaGreatDoor
/- A tally of a list; its ghosts. -/
namespace Go.Proofs.YtbgjbikpenefoaaGreatDoor
set_option linter.unusedVariables false
open Go.RowKit Go.Maps
end Go.Proofs.YtbgjbikpenefoaaGreatDoor
/- A tally's List. -/
namespace Go.Proofs.YtbgjbikpenefoaaGreatDoor
set_option linter.unusedVariables false
open Go.RowKit Go.Maps
theorem take_snoc {α : Type} {l : List α} {k : Nat} {x : α} (h : l[k]? = some x) : l.take (k + 1) = l.take k ++ [x] := by
  obtain ⟨hk, he⟩ := List.getElem?_eq_some_iff.1 h
  rw [List.take_succ_eq_append_getElem hk, he]
end Go.Proofs.YtbgjbikpenefoaaGreatDoor

/- G6: what is needed of it (by shake.py). -/

/- G6, as far as the seat goes. -/
/- gussetref12.holds, gussetref12.insert. -/
namespace Go.Proofs.YtbgjbikpenefoaaGreatDoor
set_option linter.unusedVariables false
open Go.RowKit
/-! insert -/
theorem SegN.snoc {w wr w3 : World} {v v3 : Value} {ss : List Nat} {k : Nat} {o : Obj} (h : SegN w wr v ss) (hs : Seg w3 23 1 v3 (ss.length + 1) (ss.map (keyV .u32) ++ [.int .u32 (k : Int)])) (hg : (wr.alloc o).grownBy w3 v.ownBlock) (ho : v3.ownBlock = v.ownBlock ∨ v3.ownBlock = some (wr.alloc o).heap.size) : SegN w w3 v3 (ss ++ [k]) := by
  refine ⟨by simpa [keyV] using hs, fun b hb => ?_, (h.mod.alloc o).grown hg (fun b hb hlt => by have := h.own b hb; omega)⟩
  rcases ho with e | e
  · exact h.own b (e ▸ hb)
  · have := h.mod.size
    rw [e] at hb; simp at hb; omega
theorem SegN.keep {w wr wx : World} {v : Value} {ss : List Nat} (h : SegN w wr v ss) (m : Mod (fun _ => False) wr wx) : SegN w wx v ss := ⟨h.seg.mod m (fun _ _ f => f), h.own, h.mod.trans m⟩
theorem SegN.nil {w wr : World} (m : Mod (fun _ => False) w wr) : SegN w wr (.slice none 0 0) [] := ⟨Seg.nil _ _ _, fun b hb => by simp [Value.ownBlock] at hb, m⟩
theorem num_ent {w : World} {v : Value} {l : List Nat} {n : Nat} (h : RdS w 1 v n (l.map (keyV .u32))) {i : Nat} {x : Nat} (hi : l[i]? = some x) {a : Option Addr} {m c : Nat} (e : v = .slice a m c) :
    ∃ b off, a = some ⟨b, off, none⟩ ∧ b < w.heap.size ∧ w.cell? ⟨b, off + i, none⟩ = some (.int .u32 (x : Int)) := by
  obtain ⟨a', c', e', _⟩ := h.shape
  have := e.symm.trans e'
  injection this with h1 h2 h3
  subst h1 h2 h3
  exact h.cell _ _ e i _ (by rw [List.getElem?_map, hi]; rfl)
end Go.Proofs.YtbgjbikpenefoaaGreatDoor

/- G7: what is needed of it (by shake.py). -/

/- G7, as far as the seat goes. -/
/- s[lo:hi] of slices of structs that are only read. -/
namespace Go.Proofs.YtbgjbikpenefoaaGreatDoor
set_option linter.unusedVariables false
open Go.RowKit
theorem RdS.cut {w : World} {size n : Nat} {v : Value} {xs : List Value} {P : Program} {e : TypeId} (h : RdS w size v n xs) (h0 : 0 < size) {lo hi : Nat} (hlo : lo ≤ hi) (hhi : hi ≤ n) {t : TypeId} (ht : P.underlying t = some (.slice e)) (hsz : (P.info? e).map (·.size) = some size) (kk kk' : IntKind)
    (L H : Option Value) (hL : L = some (.int kk lo) ∨ (L = none ∧ lo = 0)) (hH : H = some (.int kk' hi) ∨ (H = none ∧ hi = n)) :
    ∃ v', (∀ wx, (Instr.slice t v L H none).run P wx = .ok v' wx) ∧ RdS w size v' (hi - lo) ((xs.take (hi * size)).drop (lo * size)) ∧ v'.ownBlock = v.ownBlock := by
  obtain ⟨i, hi', hsi⟩ : ∃ i, P.info? e = some i ∧ i.size = size := by
    cases hp : P.info? e with
    | none => simp [hp] at hsz
    | some i => exact ⟨i, rfl, by simpa [hp] using hsz⟩
  obtain ⟨a, c, rfl, h1, h2, h3⟩ := h.shape
  have hx := h.len
  have hm : hi * size ≤ n * size := Nat.mul_le_mul_right _ hhi
  have hlen : ((xs.take (hi * size)).drop (lo * size)).length = (hi - lo) * size := by
    rw [List.length_drop, List.length_take, hx, Nat.sub_mul]; omega
  have hcell := h.cell a c rfl
  cases a with
  | none =>
    obtain rfl := h3 rfl
    obtain rfl : hi = 0 := by omega
    obtain rfl : lo = 0 := by omega
    obtain rfl : n = 0 := by omega
    refine ⟨.slice none 0 0, ?_, ⟨by rw [hlen], ⟨none, 0, rfl, by simp, by omega, fun _ => rfl⟩, fun a' c' e' j u hu => ?_⟩, rfl⟩
    · intro wx; rcases hL with rfl | ⟨rfl, _⟩ <;> rcases hH with rfl | ⟨rfl, _⟩ <;> simp [Instr.slice, run_underlying ht, Instr.sliceBounds, Instr.sliceBound, asIntOf, sizeOf, typeInfo, hi']
    · simp at hu
  | some ad =>
    have hhc : hi ≤ c := by omega
    have hlc : lo ≤ c := by omega
    refine ⟨.slice (some (if c = lo then ad else ad.add (lo * size))) (hi - lo) (c - lo), ?_, ⟨hlen, ⟨_, _, rfl, by omega, by omega, fun h => by cases h⟩, fun a' c' e' j u hu => ?_⟩, ?_⟩
    · intro wx
      by_cases hc : c = lo
      · subst hc
        obtain rfl : hi = c := by omega
        rcases hL with rfl | ⟨rfl, hl0⟩ <;> rcases hH with rfl | ⟨rfl, hhn⟩ <;> simp_all [Instr.slice, run_underlying ht, Instr.sliceBounds, Instr.sliceBound, asIntOf, sizeOf, typeInfo]
      · rcases hL with rfl | ⟨rfl, hl0⟩ <;> rcases hH with rfl | ⟨rfl, hhn⟩ <;> simp_all [Instr.slice, run_underlying ht, Instr.sliceBounds, Instr.sliceBound, asIntOf, sizeOf, typeInfo]
    · injection e' with e1 e2 e3
      have hj : j < (hi - lo) * size := by rw [← hlen]; exact (List.getElem?_eq_some_iff.1 hu).1
      have hc : c ≠ lo := fun e => by
        have : hi - lo = 0 := by omega
        rw [this] at hj; omega
      rw [List.getElem?_drop, List.getElem?_take] at hu
      split at hu
      · obtain ⟨b, off, ea, hb, hcl⟩ := hcell (lo * size + j) u hu
        injection ea with ea
        subst ea
        refine ⟨b, off + lo * size, by rw [← e1, if_neg hc, addr_add], hb, ?_⟩
        rw [Nat.add_assoc, hcl]
      · simp at hu
    · by_cases hc : c = lo
      · simp [hc, Value.ownBlock]
      · obtain ⟨b, off, spot⟩ := ad
        cases spot <;> simp only [hc, if_false, Value.ownBlock, Addr.add] <;> (try split) <;> rfl
theorem cellsOf_take (q : IntKind) (l : List Ent) (k : Nat) : (cellsOf q l).take (k * 4) = cellsOf q (l.take k) := by
  induction l generalizing k with
  | nil => simp [cellsOf]
  | cons s r ih =>
    cases k with
    | zero => simp [cellsOf]
    | succ k =>
      have : cellsOf q (s :: r) = s.cells q ++ cellsOf q r := by simp [cellsOf]
      have h2 : cellsOf q (s :: r.take k) = s.cells q ++ cellsOf q (r.take k) := by simp [cellsOf]
      rw [this, show (k + 1) * 4 = (s.cells q).length + k * 4 by rw [show (s.cells q).length = 4 from rfl]; omega, List.take_length_add_append, List.take_succ_cons, h2, ih]
/-- A vertex with fewer halves. -/
theorem VRd.cut {w : World} {vp vh : Value} {x : Vtx} (h : VRd w vp vh x) {k : Nat} (hk : k ≤ x.halves.length) (kk : IntKind) :
    ∃ v', (∀ wx, (Instr.slice 38 vh none (some (.int kk k)) none).run Tryz.prog wx = .ok v' wx) ∧ VRd w vp v' ⟨x.id, x.there, x.props, x.halves.take k⟩ := by
  obtain ⟨v', h1, h2, _⟩ := h.halves.cut (by omega) (lo := 0) (hi := k) (Nat.zero_le _) hk Tryz.underlying38 (e := 46) (by kernel_rfl) kk kk none (some (.int kk k)) (.inr ⟨rfl, rfl⟩) (.inl rfl)
  refine ⟨v', h1, ⟨h.fits.id, h.fits.props, fun p hp => h.fits.halves p (List.mem_of_mem_take hp)⟩, h.props, ?_⟩
  rw [cellsOf_take] at h2
  simpa [List.length_take, Nat.min_eq_left hk] using h2
end Go.Proofs.YtbgjbikpenefoaaGreatDoor
