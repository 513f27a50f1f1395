/- YKEd: what is needed of it (by shake.py). -/
import Derived.Test.YtbgjbikpenefoaaGreatDoorIA

/- YKEd, as far as the seat goes. -/
/- maps.Keys at map[uint32]api.Value: an iterator that keeps its word. (Printed by genkeys.py.) -/
namespace Go.Proofs.YtbgjbikpenefoaaGreatDoor
set_option linter.unusedVariables false
open Go.RowKit Go.Maps
set_option maxRecDepth 100000 in
set_option maxHeartbeats 2000000 in
theorem keysStopEd (Bm b : Nat) (es : Ents) (w : World) (hBm : Bm < w.heap.size) (hm : w.cell? ⟨Bm, 0, none⟩ = some (.map (some b))) (hU : UMap Tryz.prog 23 .u32 w b es) :
    SeqStops Fence.wide 4 Tryz.prog 63 #[.pointer (some ⟨Bm, 0, none⟩)] (keyV .u32) (fun ss => ss.Perm (es.map (·.1))) (fun _ => True) es.length w := by
  intro l J Jx W hW hJ _ hY h0
  have hm' : W.cell? ⟨Bm, 0, none⟩ = some (.map (some b)) := (hW.cell (p := ⟨Bm, 0, none⟩) hBm).trans hm
  have hown : W.ownsMap Tryz.prog 23 rawE b es.length (entsD .u32 es) := by
    have hbl := hU.lt
    obtain ⟨xs, clock, hb, Ft, hs, hD⟩ := hU.own
    exact ⟨xs, clock, (hW.block b hbl).trans hb, Ft, hs, hD⟩
  have hsz : Maps.size (entsD .u32 es) = es.length := entsD_size _ _
  have hri := UMap.rising hU (int_keyed Tryz.underlying23)
  refine callsIn_of_wp Tryz.func63 rfl trivial ?_ rfl
  simp only [Tryz.ntmps63, List.size_toArray, List.length_cons, List.length_nil, Nat.reduceAdd, Nat.reduceSub, Array.replicate_succ, Array.replicate_zero, List.push_toArray, List.append_toArray, List.nil_append, List.cons_append]
  have HRI := Lib.hid hri
  have HSZ := Lib.hid hsz
  have HU := Lib.hid hU
  have HW := Lib.hid hW
  clear hri hsz hm hU hW
  gi_wp2_with (first
    | (gi_at_range; refine wpListIn_range_own _ rfl _ 91 rfl 23 44 (int_keyed Tryz.underlying23) Tryz.underlying91 _ b es.length _ rfl hown ?_; intro w0 hrg0 hg0 hs0)
    | gi_in)
  go_frame
  gi_loopw [3] (fun _ wr => ∃ (left : Lit → Bool) (cnt : Nat) (ss : List Nat), wr.ranges Tryz.prog 23 rawE b W.heap.size es.length (entsD .u32 es) left cnt ∧ ss.length + cnt ≤ es.length ∧ CollU .u32 es left ss ∧ J ss wr)
    (fun _ wr => wr.rangeLeft b W.heap.size)
  case atStart =>
    exact ⟨_, _, [], hrg0, by rw [HSZ.out]; simp, CollU.start _ _, hJ [] W w0 none h0 hg0 (fun r e => by cases e)⟩
  case round =>
    obtain ⟨left, cnt, ss, hrg, hcs, hC, hJs⟩ := hrel
    gi_wp2_with (first
      | (gi_at_next; refine wpListIn_next_ranges _ rfl _ rfl 23 (int_keyed Tryz.underlying23) rawE (keyV .u32) id (fun key kl hk => by obtain ⟨x, hx, _⟩ := key_nat (by simp) Tryz.underlying23 hk; exact ⟨x, hx⟩) (fun v _ _ => ⟨v, rfl⟩) b W.heap.size es.length _ _ _ rfl hrg ?_ ?_)
      | gi_in)
    · intro hc0 hl0
      gi_wp2
      go_end0
      exact ⟨⟨_, rfl⟩, .inl ⟨ss, hC.perm HRI.out hl0, hJs⟩⟩
    · intro x c kl yd yp w2 cnt2 hkey hlk hv hat hrg2 hlt hg2 hs2 hen
      obtain ⟨x', ex, rfl, _⟩ := key_nat (by simp) Tryz.underlying23 hkey
      obtain rfl : x = x' := keyV_inj ex
      have hJ2 : J ss w2 := hJ ss wr w2 (some W.heap.size) hJs hg2 (fun r e => by cases e; exact ⟨Nat.le_refl _, hrg.iter_walk⟩)
      obtain ⟨fn, tmps, assign, body, hy, hR⟩ := hY ss x w2 hJ2 (by omega)
      clear hs2
      gi_wp2
      refine hR.mono ?_
      have hC2 := hC.step hlk hat
      rintro e W3 (⟨rfl, hJ3, hk3⟩ | ⟨rfl, hJx3⟩)
      · gi_wp2
        have hrg3 := hrg2.of_walks hk3
        go_roundw
        case rel => exact ⟨_, cnt2, ss ++ [x], hrg3, by simp; omega, hC2, hJ3⟩
        case measure => rw [hrg3.left_eq, hrg.left_eq]; exact hlt
      · gi_wp2
        refine bodyPost_ret (results_none rfl _ _ _) rfl ?_
        exact ⟨⟨_, rfl⟩, .inr ⟨ss ++ [x], trivial, hJx3⟩⟩
theorem keysEd (mb : Option Nat) (w : World) : Calls Tryz.prog 38 #[.map mb] w fun e w' => e = .returned (.func (.func 63) #[] #[.pointer (some ⟨w.heap.size, 0, none⟩)]) ∧ w' = w.alloc (.cells #[.map mb] 91) := by
  go_enter Tryz.func38, Tryz.ntmps38
  go_wp2
  go_ret
  exact ⟨rfl, rfl⟩
/-- slices.Sorted(maps.Keys(m)): the keys, rising. -/
theorem sortedKeysEd (b : Nat) (es : Ents) (w : World) (hU : UMap Tryz.prog 23 .u32 w b es) (hl : es.length < 999999) :
    Calls Tryz.prog 37 #[.func (.func 63) #[] #[.pointer (some ⟨w.heap.size, 0, none⟩)]] (w.alloc (.cells #[.map (some b)] 91)) fun e w' => ∃ v, e = .returned v ∧ SegN w w' v (es.map (·.1)) := by
  have hri := UMap.rising hU (int_keyed Tryz.underlying23)
  refine (sorted_any _ _ (enters_of Tryz.func63 (by kernel_rfl) rfl) _ _ es.length hl (fun ss h => by rw [h.length_eq, List.length_map]; exact hl) _
    (keysStopEd w.heap.size b es _ (by simp) (by rw [cell_of_row (heap_alloc_new' w _)]; rfl) (hU.keep ((Mod.refl _ w).alloc _)))).mono ?_
  rintro e w' ⟨v, ss, ts, rfl, h1, h2, h3, h4⟩
  have e1 : ts = es.map (·.1) := rising_eq (by rw [List.pairwise_map]; exact hri) (h2.trans h1) h3
  subst e1
  exact ⟨v, rfl, h4.seg, fun k hk => by have := h4.own k hk; simp at this; omega, ((Mod.refl _ w).alloc _).trans h4.mod⟩
end Go.Proofs.YtbgjbikpenefoaaGreatDoor
