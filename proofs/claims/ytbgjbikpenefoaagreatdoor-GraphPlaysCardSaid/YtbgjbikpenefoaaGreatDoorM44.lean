/- Lemmas for the claim, in one text: YBC, YBE. -/
import Derived.Test.YtbgjbikpenefoaaGreatDoorRB
import Derived.Test.YtbgjbikpenefoaaGreatDoorVI
import Derived.Test.YtbgjbikpenefoaaGreatDoorM07
import Derived.Test.YtbgjbikpenefoaaGreatDoorM02

/- YBC: what is needed of it (by shake.py). -/

/- YBC, as far as the seat goes. -/
/- gussetref03.SameNumbers, gussetref02.SameValues, gussetref03.SameAnswer: decided; SameReq of two that are alike. (Printed by gen_same.py.) -/
namespace Go.Proofs.YtbgjbikpenefoaaGreatDoor
set_option linter.unusedVariables false
set_option linter.unusedSimpArgs false
open Go.RowKit
theorem takes_eq {α : Type} {l m : List α} {k : Nat} {x : α} (h : l.take k = m.take k) (hx : l[k]? = some x) (hy : m[k]? = some x) : l.take (k + 1) = m.take (k + 1) := by
  obtain ⟨h1, h2⟩ := List.getElem?_eq_some_iff.1 hx
  obtain ⟨h3, h4⟩ := List.getElem?_eq_some_iff.1 hy
  rw [List.take_succ_eq_append_getElem h1, List.take_succ_eq_append_getElem h3, h, h2, h4]
theorem at_ne {α : Type} {l m : List α} {k : Nat} {x y : α} (hx : l[k]? = some x) (hy : m[k]? = some y) (hne : x ≠ y) : l ≠ m := by
  rintro rfl
  rw [hx] at hy
  exact hne (Option.some.inj hy)
theorem bytes_inj {a b : ByteArray} (h : a.toList = b.toList) : a = b := by
  rw [ByteArray.toList_eq, ByteArray.toList_eq] at h
  exact ByteArray.ext (Array.toList_inj.1 h)
/-- Two values, held against one another part by part. -/
theorem val_cases (x y : Val) : x = y ∨ (x ≠ y ∧ ((((x.k : Int) == (y.k : Int)) = false ∧ ¬ (x.k : Int) = (y.k : Int)) ∨ (x.k = y.k ∧ (x.n == y.n) = false ∧ ¬ x.n = y.n) ∨ (x.k = y.k ∧ x.n = y.n ∧ ¬ x.s.toList = y.s.toList))) := by
  obtain ⟨k, n, s⟩ := x
  obtain ⟨k', n', s'⟩ := y
  by_cases h1 : k = k'
  · by_cases h2 : n = n'
    · by_cases h3 : s = s'
      · subst h1 h2 h3; exact .inl rfl
      · exact .inr ⟨fun e => by injection e with _ _ e; exact h3 e, .inr (.inr ⟨h1, h2, fun e => h3 (bytes_inj e)⟩)⟩
    · exact .inr ⟨fun e => by injection e with _ e _; exact h2 e, .inr (.inl ⟨h1, by simpa using h2, h2⟩)⟩
  · exact .inr ⟨fun e => by injection e with e _ _; exact h1 e, .inl ⟨by simp; omega, by simp only; omega⟩⟩
set_option maxRecDepth 100000 in
set_option maxHeartbeats 2000000 in
theorem nsame_any (v u : Value) (l m : List Nat) (w : World) (hv : RdS w 1 v l.length (l.map (keyV .u32))) (hu : RdS w 1 u m.length (m.map (keyV .u32))) :
    Calls Tryz.prog 24 #[v, u] w fun e w' => e = .returned (.bool (decide (l = m))) ∧ Mod (fun _ => False) w w' := by
  have HV := Lib.hid hv
  have HU := Lib.hid hu
  obtain ⟨a, c, rfl, hc1, hc2, -⟩ := hv.shape
  obtain ⟨a', c', rfl, hc1', hc2', -⟩ := hu.shape
  clear hv hu
  obtain ⟨n, hl⟩ : ∃ n, n = l.length := ⟨_, rfl⟩
  obtain ⟨n', hl'⟩ : ∃ n, n = m.length := ⟨_, rfl⟩
  have HN := Lib.hid hl
  have HN' := Lib.hid hl'
  rw [← hl] at HV hc1 ⊢
  rw [← hl'] at HU hc1' ⊢
  clear hl hl'
  by_cases hnn : n = n'
  · subst hnn
    go_enter Tryz.func24, Tryz.ntmps24
    go_wp2
    go_loopw [13] (fun i wr => ∃ k : Nat, i = .int .i64 k ∧ k ≤ n ∧ Mod (fun _ => False) w wr ∧ l.take k = m.take k) (fun i _ => n - (intOf i).toNat)
    case atStart => exact ⟨0, rfl, Nat.zero_le _, Mod.refl _ _, rfl⟩
    case round =>
      obtain ⟨k, rfl, hk, hm, htk⟩ := hrel
      have HM := Lib.hid hm
      have HTK := Lib.hid htk
      clear hm htk
      by_cases hkn : k < n
      · obtain ⟨x, hx⟩ : ∃ x, l[k]? = some x := ⟨_, List.getElem?_eq_getElem (by rw [← HN.out]; exact hkn)⟩
        obtain ⟨y, hy⟩ : ∃ y, m[k]? = some y := ⟨_, List.getElem?_eq_getElem (by rw [← HN'.out]; exact hkn)⟩
        obtain ⟨b, off, rfl, hb, p0⟩ := num_ent HV.out hx rfl
        obtain ⟨b', off', rfl, hb', q0⟩ := num_ent HU.out hy rfl
        have p0 : ∀ x : MW wr, x.w.cell? _ = some _ := fun x => x.cell (HM.out.cell p0)
        have q0 : ∀ x : MW wr, x.w.cell? _ = some _ := fun x => x.cell (HM.out.cell q0)
        by_cases hxy : x = y
        · subst hxy
          have HTS := Lib.hid (takes_eq HTK.out hx hy)
          clear hx hy
          go_wp2_with fail
          refine wp_region_quietM (by kernel_rfl) (by kernel_rfl) ?_
          repeat (go_big_quiet_step (fail))
          refine wpQuiet_nil ?_
          intro w3 hm3
          have M3 : Hid (Mod (fun _ => False) w w3) := Lib.hid (HM.out.trans (MW.mod_of hm3))
          clear hm3 p0 q0
          go_wp2
          go_roundw
          case rel => exact ⟨k + 1, by go_num, by omega, M3.out, HTS.out⟩
          case measure => simp [intOf]; omega
        · have HNE := Lib.hid (at_ne hx hy hxy)
          have f1 : ((x : Int) == (y : Int)) = false := by simp; omega
          clear hx hy hxy
          go_wp2_with fail
          refine wp_region_quietM (by kernel_rfl) (by kernel_rfl) ?_
          repeat (go_big_quiet_step (fail))
          refine wpQuiet_nil ?_
          intro w3 hm3
          have M3 : Hid (Mod (fun _ => False) w w3) := Lib.hid (HM.out.trans (MW.mod_of hm3))
          clear hm3 p0 q0
          go_wp2
          go_ret
          exact ⟨by rw [decide_eq_false HNE.out]; rfl, M3.out⟩
      · have HEQ : Hid (l = m) := Lib.hid (by
          have h := HTK.out
          rwa [List.take_of_length_le (by have := HN.out; omega), List.take_of_length_le (by have := HN'.out; omega)] at h)
        go_wp2
        go_ret
        exact ⟨by rw [decide_eq_true HEQ.out]; rfl, HM.out⟩
  · have HNE : Hid (l ≠ m) := Lib.hid (by rintro rfl; exact hnn (HN.out.trans HN'.out.symm))
    go_enter Tryz.func24, Tryz.ntmps24
    go_wp2
    go_ret
    exact ⟨by rw [decide_eq_false HNE.out]; rfl, Mod.refl _ _⟩
theorem val_ent {w : World} {v : Value} {l : List Val} {n : Nat} (h : RdS w 3 v n (vvcells l)) {i : Nat} {x : Val} (hi : l[i]? = some x) {a : Option Addr} {m c : Nat} (e : v = .slice a m c) :
    ∃ b off, a = some ⟨b, off, none⟩ ∧ b < w.heap.size ∧ w.cell? ⟨b, off + i * 3, none⟩ = some (.int .u8 (x.k : Int)) ∧ w.cell? ⟨b, off + i * 3 + 1, none⟩ = some (.int .i64 x.n) ∧ w.cell? ⟨b, off + i * 3 + 2, none⟩ = some (.string x.s) := by
  have g := fun j hj => flat_get Val.cells (fun _ => rfl) l i j x hi (show j < 3 from hj)
  obtain ⟨a', c', e', -⟩ := h.shape
  rw [e] at e'
  injection e' with e1 e2 e3
  rw [e2] at e
  have k : ∀ j u, j < 3 → x.cells[j]? = some u → ∃ b off, a = some ⟨b, off, none⟩ ∧ b < w.heap.size ∧ w.cell? ⟨b, off + (i * 3 + j), none⟩ = some u := fun j u hj hu => h.cell a c e (i * 3 + j) u (by unfold vvcells; rw [g j hj]; exact hu)
  obtain ⟨b, off, ea, hb, h0⟩ := k 0 _ (by omega) rfl
  have r : ∀ j u, j < 3 → x.cells[j]? = some u → w.cell? ⟨b, off + (i * 3 + j), none⟩ = some u := fun j u hj hu => by
    obtain ⟨b1, off1, ea1, _, h1⟩ := k j u hj hu
    rw [ea] at ea1
    injection ea1 with e1; injection e1 with e1 e2
    subst e1 e2
    exact h1
  refine ⟨b, off, ea, hb, h0, ?_, ?_⟩
  · rw [Nat.add_assoc]; exact r 1 _ (by omega) rfl
  · rw [Nat.add_assoc]; exact r 2 _ (by omega) rfl
set_option maxRecDepth 100000 in
set_option maxHeartbeats 2000000 in
theorem valsame_any (v u : Value) (l m : List Val) (w : World) (hv : RdS w 3 v l.length (vvcells l)) (hu : RdS w 3 u m.length (vvcells m)) :
    Calls Tryz.prog 43 #[v, u] w fun e w' => e = .returned (.bool (decide (l = m))) ∧ Mod (fun _ => False) w w' := by
  have HV := Lib.hid hv
  have HU := Lib.hid hu
  obtain ⟨a, c, rfl, hc1, hc2, -⟩ := hv.shape
  obtain ⟨a', c', rfl, hc1', hc2', -⟩ := hu.shape
  clear hv hu
  obtain ⟨n, hl⟩ : ∃ n, n = l.length := ⟨_, rfl⟩
  obtain ⟨n', hl'⟩ : ∃ n, n = m.length := ⟨_, rfl⟩
  have HN := Lib.hid hl
  have HN' := Lib.hid hl'
  rw [← hl] at HV hc1 ⊢
  rw [← hl'] at HU hc1' ⊢
  clear hl hl'
  by_cases hnn : n = n'
  · subst hnn
    go_enter Tryz.func43, Tryz.ntmps43
    go_wp2
    go_loopw [13] (fun i wr => ∃ k : Nat, i = .int .i64 k ∧ k ≤ n ∧ Mod (fun _ => False) w wr ∧ l.take k = m.take k) (fun i _ => n - (intOf i).toNat)
    case atStart => exact ⟨0, rfl, Nat.zero_le _, Mod.refl _ _, rfl⟩
    case round =>
      obtain ⟨k, rfl, hk, hm, htk⟩ := hrel
      have HM := Lib.hid hm
      have HTK := Lib.hid htk
      clear hm htk
      by_cases hkn : k < n
      · obtain ⟨x, hx⟩ : ∃ x, l[k]? = some x := ⟨_, List.getElem?_eq_getElem (by rw [← HN.out]; exact hkn)⟩
        obtain ⟨y, hy⟩ : ∃ y, m[k]? = some y := ⟨_, List.getElem?_eq_getElem (by rw [← HN'.out]; exact hkn)⟩
        obtain ⟨b, off, rfl, hb, p0, p1, p2⟩ := val_ent HV.out hx rfl
        obtain ⟨b', off', rfl, hb', q0, q1, q2⟩ := val_ent HU.out hy rfl
        have p0 : ∀ x : MW wr, x.w.cell? _ = some _ := fun x => x.cell (HM.out.cell p0)
        have p1 : ∀ x : MW wr, x.w.cell? _ = some _ := fun x => x.cell (HM.out.cell p1)
        have p2 : ∀ x : MW wr, x.w.cell? _ = some _ := fun x => x.cell (HM.out.cell p2)
        have q0 : ∀ x : MW wr, x.w.cell? _ = some _ := fun x => x.cell (HM.out.cell q0)
        have q1 : ∀ x : MW wr, x.w.cell? _ = some _ := fun x => x.cell (HM.out.cell q1)
        have q2 : ∀ x : MW wr, x.w.cell? _ = some _ := fun x => x.cell (HM.out.cell q2)
        rcases val_cases x y with hxy | ⟨hxy, hcs⟩
        · subst hxy
          have HTS := Lib.hid (takes_eq HTK.out hx hy)
          clear hx hy
          obtain ⟨xk, xn, xs⟩ := x
          simp only at p0 p1 p2 q0 q1 q2
          go_wp2_with fail
          refine wp_region_quietM (by kernel_rfl) (by kernel_rfl) ?_
          repeat (go_big_quiet_step (fail))
          refine wpQuiet_nil ?_
          intro w3 hm3
          have M3 : Hid (Mod (fun _ => False) w w3) := Lib.hid (HM.out.trans (MW.mod_of hm3))
          clear hm3 p0 q0 p1 q1 p2 q2
          go_wp2
          go_roundw
          case rel => exact ⟨k + 1, by go_num, by omega, M3.out, HTS.out⟩
          case measure => simp [intOf]; omega
        · have HNE := Lib.hid (at_ne hx hy hxy)
          clear hx hy hxy
          obtain ⟨xk, xn, xs⟩ := x
          obtain ⟨yk, yn, ys⟩ := y
          simp only at p0 p1 p2 q0 q1 q2 hcs
          rcases hcs with ⟨f1, f2⟩ | ⟨rfl, f1, f2⟩ | ⟨rfl, rfl, f1⟩
          all_goals
            go_wp2_with fail
            refine wp_region_quietM (by kernel_rfl) (by kernel_rfl) ?_
            repeat (go_big_quiet_step (fail))
            refine wpQuiet_nil ?_
            intro w3 hm3
            have M3 : Hid (Mod (fun _ => False) w w3) := Lib.hid (HM.out.trans (MW.mod_of hm3))
            clear hm3 p0 q0 p1 q1 p2 q2
            go_wp2
            go_ret
            exact ⟨by rw [decide_eq_false HNE.out]; rfl, M3.out⟩
      · have HEQ : Hid (l = m) := Lib.hid (by
          have h := HTK.out
          rwa [List.take_of_length_le (by have := HN.out; omega), List.take_of_length_le (by have := HN'.out; omega)] at h)
        go_wp2
        go_ret
        exact ⟨by rw [decide_eq_true HEQ.out]; rfl, HM.out⟩
  · have HNE : Hid (l ≠ m) := Lib.hid (by rintro rfl; exact hnn (HN.out.trans HN'.out.symm))
    go_enter Tryz.func43, Tryz.ntmps43
    go_wp2
    go_ret
    exact ⟨by rw [decide_eq_false HNE.out]; rfl, Mod.refl _ _⟩
structure AnsB (w : World) (e p : Int) (vv vl : Value) (e' p' : Int) (vv' vl' : Value) (wr : World) : Prop where
  mod : Mod (fun _ => False) w wr
  one : wr.heap[w.heap.size]? = some (.cells #[.int .i64 e, .int .i64 p, vv, vl] 34 (0, 0))
  two : wr.heap[w.heap.size + 1]? = some (.cells #[.int .i64 e', .int .i64 p', vv', vl'] 34 (0, 0))
theorem AnsB.keep {w wr wx : World} {e p e' p' : Int} {vv vl vv' vl' : Value} (h : AnsB w e p vv vl e' p' vv' vl' wr) (m : Mod (fun _ => False) wr wx) : AnsB w e p vv vl e' p' vv' vl' wx :=
  ⟨h.mod.trans m, m.heap h.one (fun f => f), m.heap h.two (fun f => f)⟩
theorem AnsB.start (w : World) (e p : Int) (vv vl : Value) (e' p' : Int) (vv' vl' : Value) : AnsB w e p vv vl e' p' vv' vl' ((w.alloc (.cells #[.int .i64 e, .int .i64 p, vv, vl] 34)).alloc (.cells #[.int .i64 e', .int .i64 p', vv', vl'] 34)) :=
  ⟨((Mod.refl _ w).alloc _).alloc _, heap_alloc_old (heap_alloc_new' w _), by have := heap_alloc_new' (w.alloc (.cells #[.int .i64 e, .int .i64 p, vv, vl] 34)) (.cells #[.int .i64 e', .int .i64 p', vv', vl'] 34); simpa using this⟩
set_option maxRecDepth 100000 in
set_option maxHeartbeats 4000000 in
theorem anssame_any (e p e' p' : Int) (vals vals' : List Val) (list list' : List Nat) (vv vl vv' vl' : Value) (w : World) (hv : RdS w 3 vv vals.length (vvcells vals)) (hv' : RdS w 3 vv' vals'.length (vvcells vals')) (hl : RdS w 1 vl list.length (list.map (keyV .u32))) (hl' : RdS w 1 vl' list'.length (list'.map (keyV .u32))) :
    Calls Tryz.prog 18 #[.agg #[.int .i64 e, .int .i64 p, vv, vl], .agg #[.int .i64 e', .int .i64 p', vv', vl']] w fun en w' => en = .returned (.bool (decide (e = e' ∧ p = p' ∧ vals = vals' ∧ list = list'))) ∧ Mod (fun _ => False) w w' := by
  have HVS : Hid (∀ w', Mod (fun _ => False) w w' → Calls Tryz.prog 43 #[vv, vv'] w' fun e w'' => e = .returned (.bool (decide (vals = vals'))) ∧ Mod (fun _ => False) w' w'') := Lib.hid (fun w' m => valsame_any vv vv' vals vals' w' (hv.keep m) (hv'.keep m))
  have HLS : Hid (∀ w', Mod (fun _ => False) w w' → Calls Tryz.prog 24 #[vl, vl'] w' fun e w'' => e = .returned (.bool (decide (list = list'))) ∧ Mod (fun _ => False) w' w'') := Lib.hid (fun w' m => nsame_any vl vl' list list' w' (hl.keep m) (hl'.keep m))
  have HB0 := Lib.hid (AnsB.start w e p vv vl e' p' vv' vl')
  obtain ⟨av, cv, rfl, -⟩ := hv.shape
  obtain ⟨av', cv', rfl, -⟩ := hv'.shape
  obtain ⟨al, cl, rfl, -⟩ := hl.shape
  obtain ⟨al', cl', rfl, -⟩ := hl'.shape
  obtain ⟨nv, hnv⟩ : ∃ n, n = vals.length := ⟨_, rfl⟩
  obtain ⟨nv', hnv'⟩ : ∃ n, n = vals'.length := ⟨_, rfl⟩
  obtain ⟨nl, hnl⟩ : ∃ n, n = list.length := ⟨_, rfl⟩
  obtain ⟨nl', hnl'⟩ : ∃ n, n = list'.length := ⟨_, rfl⟩
  simp only [← hnv, ← hnv', ← hnl, ← hnl'] at HVS HLS HB0 ⊢
  clear hv hv' hl hl' hnv hnv' hnl hnl'
  obtain ⟨bv, hbv⟩ : ∃ b, b = decide (vals = vals') := ⟨_, rfl⟩
  obtain ⟨bl, hbl⟩ : ∃ b, b = decide (list = list') := ⟨_, rfl⟩
  have HR : Hid (decide (e = e' ∧ p = p' ∧ vals = vals' ∧ list = list') = (decide (e = e') && (decide (p = p') && (bv && bl)))) := Lib.hid (by rw [hbv, hbl]; simp only [Bool.decide_and])
  rw [HR.out]
  rw [← hbv] at HVS
  rw [← hbl] at HLS
  clear hbv hbl HR

  by_cases he : e = e'
  · subst he
    by_cases hp : p = p'
    · subst hp
      cases bv with
      | true =>
        cases bl with
        | true =>
          go_enter Tryz.func18, Tryz.ntmps18
          go_wp2_with (first
            | (have hq := HB1.out.mod; go_at_call 24; go_loud (refine (HLS.out _ HB1.out.mod).mono ?_; (rintro en w2 ⟨rfl, hm2⟩); have HB2 := Lib.hid (HB1.out.keep hm2); clear hm2 hq))
            | (go_at_call 43; go_loud (refine (HVS.out _ HB0.out.mod).mono ?_; (rintro en w1 ⟨rfl, hm1⟩); have HB1 := Lib.hid (HB0.out.keep hm1); have b0 := cell_of_row HB1.out.one 0; have b1 := cell_of_row HB1.out.one 1; have b2 := cell_of_row HB1.out.one 2; have b3 := cell_of_row HB1.out.one 3; have d0 := cell_of_row HB1.out.two 0; have d1 := cell_of_row HB1.out.two 1; have d2 := cell_of_row HB1.out.two 2; have d3 := cell_of_row HB1.out.two 3; have z1 := lt_of_block HB1.out.one; have z2 := lt_of_block HB1.out.two; simp at b0 b1 b2 b3 d0 d1 d2 d3; clear hm1)))
          go_ret
          exact ⟨by simp, HB2.out.mod⟩
        | false =>
          go_enter Tryz.func18, Tryz.ntmps18
          go_wp2_with (first
            | (have hq := HB1.out.mod; go_at_call 24; go_loud (refine (HLS.out _ HB1.out.mod).mono ?_; (rintro en w2 ⟨rfl, hm2⟩); have HB2 := Lib.hid (HB1.out.keep hm2); clear hm2 hq))
            | (go_at_call 43; go_loud (refine (HVS.out _ HB0.out.mod).mono ?_; (rintro en w1 ⟨rfl, hm1⟩); have HB1 := Lib.hid (HB0.out.keep hm1); have b0 := cell_of_row HB1.out.one 0; have b1 := cell_of_row HB1.out.one 1; have b2 := cell_of_row HB1.out.one 2; have b3 := cell_of_row HB1.out.one 3; have d0 := cell_of_row HB1.out.two 0; have d1 := cell_of_row HB1.out.two 1; have d2 := cell_of_row HB1.out.two 2; have d3 := cell_of_row HB1.out.two 3; have z1 := lt_of_block HB1.out.one; have z2 := lt_of_block HB1.out.two; simp at b0 b1 b2 b3 d0 d1 d2 d3; clear hm1)))
          go_ret
          exact ⟨by simp, HB2.out.mod⟩
      | false =>
        go_enter Tryz.func18, Tryz.ntmps18
        go_wp2_with (first
          | (go_at_call 43; go_loud (refine (HVS.out _ HB0.out.mod).mono ?_; (rintro en w1 ⟨rfl, hm1⟩); have HB1 := Lib.hid (HB0.out.keep hm1); have b0 := cell_of_row HB1.out.one 0; have b1 := cell_of_row HB1.out.one 1; have b2 := cell_of_row HB1.out.one 2; have b3 := cell_of_row HB1.out.one 3; have d0 := cell_of_row HB1.out.two 0; have d1 := cell_of_row HB1.out.two 1; have d2 := cell_of_row HB1.out.two 2; have d3 := cell_of_row HB1.out.two 3; have z1 := lt_of_block HB1.out.one; have z2 := lt_of_block HB1.out.two; simp at b0 b1 b2 b3 d0 d1 d2 d3; clear hm1)))
        go_ret
        exact ⟨by simp, HB1.out.mod⟩
    · have f1 : (p == p') = false := by simpa using hp
      go_enter Tryz.func18, Tryz.ntmps18
      go_wp2
      go_ret
      exact ⟨by simp [hp], HB0.out.mod⟩
  · have f1 : (e == e') = false := by simpa using he
    go_enter Tryz.func18, Tryz.ntmps18
    go_wp2
    go_ret
    exact ⟨by simp [he], HB0.out.mod⟩
end Go.Proofs.YtbgjbikpenefoaaGreatDoor

/- YBE: what is needed of it (by shake.py). -/

/- YBE, as far as the seat goes. -/
/- gussetref03.SameReq of two that are alike. (Printed by gen_reqsame.py.) -/
namespace Go.Proofs.YtbgjbikpenefoaaGreatDoor
set_option linter.unusedVariables false
set_option linter.unusedSimpArgs false
open Go.RowKit
/-- Two requests' boxes. -/
structure RqB (w : World) (o o' : Array Value) (wr : World) : Prop where
  mod : Mod (fun _ => False) w wr
  one : wr.heap[w.heap.size]? = some (.cells o 29 (0, 0))
  two : wr.heap[w.heap.size + 1]? = some (.cells o' 29 (0, 0))
theorem RqB.keep {w wr wx : World} {o o' : Array Value} (h : RqB w o o' wr) (m : Mod (fun _ => False) wr wx) : RqB w o o' wx := ⟨h.mod.trans m, m.heap h.one (fun f => f), m.heap h.two (fun f => f)⟩
theorem RqB.start (w : World) (o o' : Array Value) : RqB w o o' ((w.alloc (.cells o 29)).alloc (.cells o' 29)) :=
  ⟨((Mod.refl _ w).alloc _).alloc _, heap_alloc_old (heap_alloc_new' w _), by have := heap_alloc_new' (w.alloc (.cells o 29)) (.cells o' 29); simpa using this⟩
set_option maxRecDepth 100000 in
set_option maxHeartbeats 4000000 in
theorem reqsame_yes (r : Rqt) (vo vo' : Value) (w : World) (ho : ORd w vo r.ops) (ho' : ORd w vo' r.ops) :
    Calls Tryz.prog 21 #[rqV r vo, rqV r vo'] w fun e w' => e = .returned (.bool true) ∧ Mod (fun _ => False) w w' := by
  obtain ⟨kind, ops, v, k, d⟩ := r
  obtain ⟨a, c, rfl, hc1, hc2, -⟩ := ho.row.shape
  obtain ⟨a', c', rfl, hc1', hc2', -⟩ := ho'.row.shape
  have HO := Lib.hid ho
  have HO' := Lib.hid ho'
  obtain ⟨n, hn⟩ : ∃ n, n = ops.length := ⟨_, rfl⟩
  have HN := Lib.hid hn
  simp only [rqV, ← hn] at HO HO' hc1 hc1' ⊢
  have HB0 := Lib.hid (RqB.start w #[.int .u8 (kind : Int), .slice a n c, .int .u32 (v : Int), .int .i64 k, .int .i64 d] #[.int .u8 (kind : Int), .slice a' n c', .int .u32 (v : Int), .int .i64 k, .int .i64 d])
  clear ho ho' hn
  go_enter Tryz.func21, Tryz.ntmps21
  go_wp2
  go_loopw [44] (fun i wr => ∃ j : Nat, i = .int .i64 (j : Int) ∧ j ≤ n ∧ RqB w #[.int .u8 (kind : Int), .slice a n c, .int .u32 (v : Int), .int .i64 k, .int .i64 d] #[.int .u8 (kind : Int), .slice a' n c', .int .u32 (v : Int), .int .i64 k, .int .i64 d] wr) (fun i _ => n - (intOf i).toNat)
  case atStart => exact ⟨0, rfl, Nat.zero_le _, HB0.out⟩
  case round =>
    obtain ⟨j, rfl, hj, hm⟩ := hrel
    have HM := Lib.hid hm
    clear hm HB0
    by_cases hjn : j < n
    · obtain ⟨x, hx⟩ : ∃ x, ops[j]? = some x := ⟨_, List.getElem?_eq_getElem (by rw [← HN.out]; exact hjn)⟩
      obtain ⟨b, off, e1, hb, p0, p1, p2, p3, p4, p5, p6⟩ := HO.out.ent hx rfl
      obtain ⟨b', off', e2, hb', q0, q1, q2, q3, q4, q5, q6⟩ := HO'.out.ent hx rfl
      have d0 := cell_of_row HM.out.one 1
      have d1 := cell_of_row HM.out.two 1
      simp at d0 d1
      subst e1 e2
      have p0 : ∀ x : MW wr, x.w.cell? _ = some _ := fun x => x.cell (HM.out.mod.cell p0)
      have p1 : ∀ x : MW wr, x.w.cell? _ = some _ := fun x => x.cell (HM.out.mod.cell p1)
      have p2 : ∀ x : MW wr, x.w.cell? _ = some _ := fun x => x.cell (HM.out.mod.cell p2)
      have p3 : ∀ x : MW wr, x.w.cell? _ = some _ := fun x => x.cell (HM.out.mod.cell p3)
      have p4 : ∀ x : MW wr, x.w.cell? _ = some _ := fun x => x.cell (HM.out.mod.cell p4)
      have p5 : ∀ x : MW wr, x.w.cell? _ = some _ := fun x => x.cell (HM.out.mod.cell p5)
      have p6 : ∀ x : MW wr, x.w.cell? _ = some _ := fun x => x.cell (HM.out.mod.cell p6)
      have q0 : ∀ x : MW wr, x.w.cell? _ = some _ := fun x => x.cell (HM.out.mod.cell q0)
      have q1 : ∀ x : MW wr, x.w.cell? _ = some _ := fun x => x.cell (HM.out.mod.cell q1)
      have q2 : ∀ x : MW wr, x.w.cell? _ = some _ := fun x => x.cell (HM.out.mod.cell q2)
      have q3 : ∀ x : MW wr, x.w.cell? _ = some _ := fun x => x.cell (HM.out.mod.cell q3)
      have q4 : ∀ x : MW wr, x.w.cell? _ = some _ := fun x => x.cell (HM.out.mod.cell q4)
      have q5 : ∀ x : MW wr, x.w.cell? _ = some _ := fun x => x.cell (HM.out.mod.cell q5)
      have q6 : ∀ x : MW wr, x.w.cell? _ = some _ := fun x => x.cell (HM.out.mod.cell q6)
      have d0 : ∀ x : MW wr, x.w.cell? _ = some _ := fun x => x.cell d0
      have d1 : ∀ x : MW wr, x.w.cell? _ = some _ := fun x => x.cell d1
      clear hx hb hb'
      obtain ⟨ok, oa, ob, okey, ⟨vk, vn, vs⟩⟩ := x
      simp only at p0 p1 p2 p3 p4 p5 p6 q0 q1 q2 q3 q4 q5 q6
      go_wp2_with fail
      refine wp_region_quietM (by kernel_rfl) (by kernel_rfl) ?_
      repeat (go_big_quiet_step (fail))
      refine wpQuiet_nil ?_
      intro w3 hm3
      have M3 := Lib.hid (HM.out.keep (MW.mod_of hm3))
      clear hm3 p0 p1 p2 p3 p4 p5 p6 q0 q1 q2 q3 q4 q5 q6 d0 d1
      go_wp2
      go_roundw
      case rel => exact ⟨j + 1, by go_num, by omega, M3.out⟩
      case measure => simp [intOf]; omega
    · go_wp2
      go_ret
      exact ⟨rfl, HM.out.mod⟩
end Go.Proofs.YtbgjbikpenefoaaGreatDoor
