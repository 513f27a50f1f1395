/- Lemmas for the claim, in one text: YT, YKBo. -/
import Derived.Test.YtbgjbikpenefoaaGreatDoorM13
import Derived.Test.YtbgjbikpenefoaaGreatDoorM16
import Derived.Test.YtbgjbikpenefoaaGreatDoorIA

/- YT: what is needed of it (by shake.py). -/

/- YT, as far as the seat goes. -/
/- graph.hops: who is seen, who is next: in plain Lean. -/
namespace Go.Proofs.YtbgjbikpenefoaaGreatDoor
set_option linter.unusedVariables false
set_option linter.unusedSimpArgs false
open Go.RowKit Go.Maps
def bset (ks : List Nat) : Ents := ks.map fun k => (k, .bool true)
def seenIn (x : Nat) (ks : List Nat) : List Nat := layG (fun k => k) x false ks
theorem bset_len (ks : List Nat) : (bset ks).length = ks.length := List.length_map _
theorem bset_get (x : Nat) (ks : List Nat) (z : Value) : (getL x (bset ks)).getD z = if x ∈ ks then .bool true else z := by
  unfold bset
  rw [getL_map (fun k => (k, (.bool true : Value)))]
  by_cases h : x ∈ ks
  · rw [if_pos h]
    cases hf : ks.find? fun y => y == x with
    | none => exact absurd h (fun hm => by have := List.find?_eq_none.1 hf x hm; simp at this)
    | some y => rfl
  · rw [if_neg h]
    have : (ks.find? fun y => y == x) = none := by
      rw [List.find?_eq_none]
      intro y hy e
      simp at e
      exact h (e ▸ hy)
    rw [this]
    rfl
theorem bset_put (x : Nat) {ks : List Nat} (h : ks.Pairwise (· < ·)) : putL x (.bool true) (bset ks) = bset (seenIn x ks) := putL_map (fun k => (k, (.bool true : Value))) x h
theorem seenIn_mem {x y : Nat} {ks : List Nat} (h : ks.Pairwise (· < ·)) : y ∈ seenIn x ks ↔ y ∈ ks ∨ y = x := by
  unfold seenIn
  rw [layG_mem h]
  constructor
  · rintro (⟨h1, _⟩ | ⟨_, h1⟩)
    · exact .inl h1
    · exact .inr h1
  · rintro (h1 | h1)
    · by_cases e : y = x
      · exact .inr ⟨rfl, e⟩
      · exact .inl ⟨h1, e⟩
    · exact .inr ⟨rfl, h1⟩
theorem seenIn_rise {x : Nat} {ks : List Nat} (h : ks.Pairwise (· < ·)) : (seenIn x ks).Pairwise (· < ·) := Rising.lay (key := fun k => k) h
/-- Who is seen: a map of its own. -/
structure Sn (w : World) (bs : Nat) (ks : List Nat) (wr : World) : Prop where
  mod : Mod (fun _ => False) w wr
  map : UMap Tryz.prog 23 .u32 wr bs (bset ks)
  rise : ks.Pairwise (· < ·)
  low : ∀ x ∈ ks, x ≤ 40
  new : w.heap.size ≤ bs
theorem Sn.len {w wr : World} {bs : Nat} {ks : List Nat} (h : Sn w bs ks wr) : ks.length ≤ 41 := by
  have := Rising.short (key := fun k => k) h.rise (b := 0) (m := 41) (fun x hx => ⟨Nat.zero_le _, by have := h.low x hx; omega⟩)
  omega
theorem Sn.more {S : Nat → Prop} {w wr wx : World} {bs : Nat} {ks : List Nat} (h : Sn w bs ks wr) (m : Mod S wr wx) (hs : ∀ b, S b → w.heap.size ≤ b ∧ b ≠ bs) : Sn w bs ks wx :=
  ⟨h.mod.trans' m (fun i hi s => by have := (hs i s).1; omega), h.map.mod m (fun s => (hs bs s).2 rfl), h.rise, h.low, h.new⟩
theorem Sn.put {w wr wx : World} {bs x : Nat} {ks : List Nat} (h : Sn w bs ks wr) (hx : x ≤ 40) (m : Mod (fun b => b = bs) wr wx) (hU : UMap Tryz.prog 23 .u32 wx bs (putL x (.bool true) (bset ks))) : Sn w bs (seenIn x ks) wx :=
  ⟨h.mod.trans' m (fun i hi e => by have := h.new; omega), by rw [← bset_put x h.rise]; exact hU, seenIn_rise h.rise, fun y hy => by
    rcases (seenIn_mem h.rise).1 hy with hy | rfl
    · exact h.low y hy
    · exact hx, h.new⟩
/-- Who is next: a list of its own. -/
structure Nx (w1 : World) (bs : Nat) (v : Value) (nx : List Nat) (wr : World) : Prop where
  seg : Seg wr 23 1 v nx.length (nx.map (keyV .u32))
  own : ∀ k, v.ownBlock = some k → w1.heap.size ≤ k
  mod : Mod (fun b => b = bs) w1 wr
theorem Nx.nil (w1 : World) (bs : Nat) : Nx w1 bs (.slice none 0 0) [] w1 := ⟨Seg.nil _ _ _, fun k h => by simp [Value.ownBlock] at h, Mod.refl _ _⟩
theorem Nx.more {S : Nat → Prop} {w1 wr wx : World} {bs : Nat} {v : Value} {nx : List Nat} (h : Nx w1 bs v nx wr) (m : Mod S wr wx) (hs : ∀ b, S b → w1.heap.size ≤ b ∨ b = bs) (ho : ∀ b, v.ownBlock = some b → ¬ S b) : Nx w1 bs v nx wx :=
  ⟨h.seg.mod m ho, h.own, h.mod.trans' m (fun i hi s => by rcases hs i s with e | e; omega; exact e)⟩
theorem Nx.snoc {w1 wr w6 : World} {bs x : Nat} {v v6 : Value} {nx : List Nat} (h : Nx w1 bs v nx wr) (hs : Seg w6 23 1 v6 (nx.length + 1) (nx.map (keyV .u32) ++ [.int .u32 (x : Int)])) (hg : wr.grownBy w6 v.ownBlock) (ho : v6.ownBlock = v.ownBlock ∨ v6.ownBlock = some wr.heap.size) : Nx w1 bs v6 (nx ++ [x]) w6 := by
  refine ⟨by rw [List.length_append, List.map_append]; exact hs, fun k hk => ?_, h.mod.grown hg (fun b hb hlt => by have := h.own b hb; omega)⟩
  rcases ho with e | e
  · exact h.own k (e ▸ hk)
  · rw [e] at hk
    injection hk with hk
    have := h.mod.size
    omega
theorem mem_map_block {w : World} {bs : Nat} {ks : List Nat} {w0 : World} (h : Sn w0 bs ks w) {e : TypeId} {size n : Nat} {v : Value} {xs : List Value} (hs : Seg w e size v n xs) {b : Nat} (hb : v.ownBlock = some b) : b ≠ bs := by
  intro eq
  subst eq
  obtain ⟨xs', clock, hm⟩ := h.map.isMap
  rcases hs.2.2 with ⟨rfl, _⟩ | ⟨g, off, cap, cur, rfl, hg, _⟩
  · simp [Value.ownBlock] at hb
  · simp [Value.ownBlock] at hb
    subst hb
    rw [hm] at hg; cases hg
end Go.Proofs.YtbgjbikpenefoaaGreatDoor

/- YKBo: what is needed of it (by shake.py). -/

/- YKBo, as far as the seat goes. -/
/- maps.Keys at map[uint32]bool: an iterator that keeps its word. (Printed by genkeys.py.) -/
namespace Go.Proofs.YtbgjbikpenefoaaGreatDoor
set_option linter.unusedVariables false
open Go.RowKit Go.Maps
set_option maxRecDepth 100000 in
set_option maxHeartbeats 2000000 in
theorem keysStopBo (Bm b : Nat) (es : Ents) (w : World) (hBm : Bm < w.heap.size) (hm : w.cell? ⟨Bm, 0, none⟩ = some (.map (some b))) (hU : UMap Tryz.prog 23 .u32 w b es) :
    SeqStops Fence.wide 4 Tryz.prog 77 #[.pointer (some ⟨Bm, 0, none⟩)] (keyV .u32) (fun ss => ss.Perm (es.map (·.1))) (fun _ => True) es.length w := by
  intro l J Jx W hW hJ _ hY h0
  have hm' : W.cell? ⟨Bm, 0, none⟩ = some (.map (some b)) := (hW.cell (p := ⟨Bm, 0, none⟩) hBm).trans hm
  have hown : W.ownsMap Tryz.prog 23 rawE b es.length (entsD .u32 es) := by
    have hbl := hU.lt
    obtain ⟨xs, clock, hb, Ft, hs, hD⟩ := hU.own
    exact ⟨xs, clock, (hW.block b hbl).trans hb, Ft, hs, hD⟩
  have hsz : Maps.size (entsD .u32 es) = es.length := entsD_size _ _
  have hri := UMap.rising hU (int_keyed Tryz.underlying23)
  refine callsIn_of_wp Tryz.func77 rfl trivial ?_ rfl
  simp only [Tryz.ntmps77, List.size_toArray, List.length_cons, List.length_nil, Nat.reduceAdd, Nat.reduceSub, Array.replicate_succ, Array.replicate_zero, List.push_toArray, List.append_toArray, List.nil_append, List.cons_append]
  have HRI := Lib.hid hri
  have HSZ := Lib.hid hsz
  have HU := Lib.hid hU
  have HW := Lib.hid hW
  clear hri hsz hm hU hW
  gi_wp2_with (first
    | (gi_at_range; refine wpListIn_range_own _ rfl _ 121 rfl 23 4 (int_keyed Tryz.underlying23) Tryz.underlying121 _ b es.length _ rfl hown ?_; intro w0 hrg0 hg0 hs0)
    | gi_in)
  go_frame
  gi_loopw [3] (fun _ wr => ∃ (left : Lit → Bool) (cnt : Nat) (ss : List Nat), wr.ranges Tryz.prog 23 rawE b W.heap.size es.length (entsD .u32 es) left cnt ∧ ss.length + cnt ≤ es.length ∧ CollU .u32 es left ss ∧ J ss wr)
    (fun _ wr => wr.rangeLeft b W.heap.size)
  case atStart =>
    exact ⟨_, _, [], hrg0, by rw [HSZ.out]; simp, CollU.start _ _, hJ [] W w0 none h0 hg0 (fun r e => by cases e)⟩
  case round =>
    obtain ⟨left, cnt, ss, hrg, hcs, hC, hJs⟩ := hrel
    gi_wp2_with (first
      | (gi_at_next; refine wpListIn_next_ranges _ rfl _ rfl 23 (int_keyed Tryz.underlying23) rawE (keyV .u32) id (fun key kl hk => by obtain ⟨x, hx, _⟩ := key_nat (by simp) Tryz.underlying23 hk; exact ⟨x, hx⟩) (fun v _ _ => ⟨v, rfl⟩) b W.heap.size es.length _ _ _ rfl hrg ?_ ?_)
      | gi_in)
    · intro hc0 hl0
      gi_wp2
      go_end0
      exact ⟨⟨_, rfl⟩, .inl ⟨ss, hC.perm HRI.out hl0, hJs⟩⟩
    · intro x c kl yd yp w2 cnt2 hkey hlk hv hat hrg2 hlt hg2 hs2 hen
      obtain ⟨x', ex, rfl, _⟩ := key_nat (by simp) Tryz.underlying23 hkey
      obtain rfl : x = x' := keyV_inj ex
      have hJ2 : J ss w2 := hJ ss wr w2 (some W.heap.size) hJs hg2 (fun r e => by cases e; exact ⟨Nat.le_refl _, hrg.iter_walk⟩)
      obtain ⟨fn, tmps, assign, body, hy, hR⟩ := hY ss x w2 hJ2 (by omega)
      clear hs2
      gi_wp2
      refine hR.mono ?_
      have hC2 := hC.step hlk hat
      rintro e W3 (⟨rfl, hJ3, hk3⟩ | ⟨rfl, hJx3⟩)
      · gi_wp2
        have hrg3 := hrg2.of_walks hk3
        go_roundw
        case rel => exact ⟨_, cnt2, ss ++ [x], hrg3, by simp; omega, hC2, hJ3⟩
        case measure => rw [hrg3.left_eq, hrg.left_eq]; exact hlt
      · gi_wp2
        refine bodyPost_ret (results_none rfl _ _ _) rfl ?_
        exact ⟨⟨_, rfl⟩, .inr ⟨ss ++ [x], trivial, hJx3⟩⟩
theorem keysBo (mb : Option Nat) (w : World) : Calls Tryz.prog 57 #[.map mb] w fun e w' => e = .returned (.func (.func 77) #[] #[.pointer (some ⟨w.heap.size, 0, none⟩)]) ∧ w' = w.alloc (.cells #[.map mb] 121) := by
  go_enter Tryz.func57, Tryz.ntmps57
  go_wp2
  go_ret
  exact ⟨rfl, rfl⟩
/-- slices.Sorted(maps.Keys(m)): the keys, rising. -/
theorem sortedKeysBo (b : Nat) (es : Ents) (w : World) (hU : UMap Tryz.prog 23 .u32 w b es) (hl : es.length < 999999) :
    Calls Tryz.prog 37 #[.func (.func 77) #[] #[.pointer (some ⟨w.heap.size, 0, none⟩)]] (w.alloc (.cells #[.map (some b)] 121)) fun e w' => ∃ v, e = .returned v ∧ SegN w w' v (es.map (·.1)) := by
  have hri := UMap.rising hU (int_keyed Tryz.underlying23)
  refine (sorted_any _ _ (enters_of Tryz.func77 (by kernel_rfl) rfl) _ _ es.length hl (fun ss h => by rw [h.length_eq, List.length_map]; exact hl) _
    (keysStopBo w.heap.size b es _ (by simp) (by rw [cell_of_row (heap_alloc_new' w _)]; rfl) (hU.keep ((Mod.refl _ w).alloc _)))).mono ?_
  rintro e w' ⟨v, ss, ts, rfl, h1, h2, h3, h4⟩
  have e1 : ts = es.map (·.1) := rising_eq (by rw [List.pairwise_map]; exact hri) (h2.trans h1) h3
  subst e1
  exact ⟨v, rfl, h4.seg, fun k hk => by have := h4.own k hk; simp at this; omega, ((Mod.refl _ w).alloc _).trans h4.mod⟩
end Go.Proofs.YtbgjbikpenefoaaGreatDoor
