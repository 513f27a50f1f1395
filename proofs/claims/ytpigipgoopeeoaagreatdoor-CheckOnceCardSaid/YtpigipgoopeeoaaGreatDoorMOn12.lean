import Derived.Test.YtpigipgoopeeoaaGreatDoorProg
import Derived.Test.YtpigipgoopeeoaaGreatDoorMOn11
import Derived.DeepKeys4
import Derived.Maps.Keyed
set_option linter.unusedVariables false
set_option linter.unusedSimpArgs false
namespace Go.Proofs.YtpigipgoopeeoaaGreatDoor
open Go.RowKit
theorem takes_eq {α : Type} {l m : List α} {k : Nat} {x : α} (h : l.take k = m.take k) (hx : l[k]? = some x) (hy : m[k]? = some x) : l.take (k + 1) = m.take (k + 1) := by
 obtain ⟨h1, h2⟩ := List.getElem?_eq_some_iff.1 hx
 obtain ⟨h3, h4⟩ := List.getElem?_eq_some_iff.1 hy
 rw [List.take_succ_eq_append_getElem h1, List.take_succ_eq_append_getElem h3, h, h2, h4]
theorem at_ne {α : Type} {l m : List α} {k : Nat} {x y : α} (hx : l[k]? = some x) (hy : m[k]? = some y) (hne : x ≠ y) : l ≠ m := by
 rintro rfl
 rw [hx] at hy
 exact hne (Option.some.inj hy)
theorem bytes_inj {a b : ByteArray} (h : a.toList = b.toList) : a = b := by
 rw [ByteArray.toList_eq, ByteArray.toList_eq] at h
 exact ByteArray.ext (Array.toList_inj.1 h)
theorem val_cases (x y : Val) : x = y ∨ (x ≠ y ∧ ((((x.k : Int) == (y.k : Int)) = false ∧ ¬ (x.k : Int) = (y.k : Int)) ∨ (x.k = y.k ∧ (x.n == y.n) = false ∧ ¬ x.n = y.n) ∨ (x.k = y.k ∧ x.n = y.n ∧ ¬ x.s.toList = y.s.toList))) := by
 obtain ⟨k, n, s⟩ := x
 obtain ⟨k', n', s'⟩ := y
 by_cases h1 : k = k'
 · by_cases h2 : n = n'
   · by_cases h3 : s = s'
     · subst h1 h2 h3; exact .inl rfl
     · exact .inr ⟨fun e => by injection e with _ _ e; exact h3 e, .inr (.inr ⟨h1, h2, fun e => h3 (bytes_inj e)⟩)⟩
   · exact .inr ⟨fun e => by injection e with _ e _; exact h2 e, .inr (.inl ⟨h1, by simpa using h2, h2⟩)⟩
 · exact .inr ⟨fun e => by injection e with e _ _; exact h1 e, .inl ⟨by simp; omega, by simp only; omega⟩⟩
theorem val_ent {w : World} {v : Value} {l : List Val} {n : Nat} (h : RdS w 3 v n (vvcells l)) {i : Nat} {x : Val} (hi : l[i]? = some x) {a : Option Addr} {m c : Nat} (e : v = .slice a m c) :
   ∃ b off, a = some ⟨b, off, none⟩ ∧ b < w.heap.size ∧ w.cell? ⟨b, off + i * 3, none⟩ = some (.int .u8 (x.k : Int)) ∧ w.cell? ⟨b, off + i * 3 + 1, none⟩ = some (.int .i64 x.n) ∧ w.cell? ⟨b, off + i * 3 + 2, none⟩ = some (.string x.s) := by
 have g := fun j hj => flat_get Val.cells (fun _ => rfl) l i j x hi (show j < 3 from hj)
 obtain ⟨a', c', e', -⟩ := h.shape
 rw [e] at e'
 injection e' with e1 e2 e3
 rw [e2] at e
 have k : ∀ j u, j < 3 → x.cells[j]? = some u → ∃ b off, a = some ⟨b, off, none⟩ ∧ b < w.heap.size ∧ w.cell? ⟨b, off + (i * 3 + j), none⟩ = some u := fun j u hj hu => h.cell a c e (i * 3 + j) u (by unfold vvcells; rw [g j hj]; exact hu)
 obtain ⟨b, off, ea, hb, h0⟩ := k 0 _ (by omega) rfl
 have r : ∀ j u, j < 3 → x.cells[j]? = some u → w.cell? ⟨b, off + (i * 3 + j), none⟩ = some u := fun j u hj hu => by
   obtain ⟨b1, off1, ea1, _, h1⟩ := k j u hj hu
   rw [ea] at ea1
   injection ea1 with e1; injection e1 with e1 e2
   subst e1 e2
   exact h1
 refine ⟨b, off, ea, hb, h0, ?_, ?_⟩
 · rw [Nat.add_assoc]; exact r 1 _ (by omega) rfl
 · rw [Nat.add_assoc]; exact r 2 _ (by omega) rfl
structure AnsB (w : World) (e p : Int) (vv vl : Value) (e' p' : Int) (vv' vl' : Value) (wr : World) : Prop where
 mod : Mod (fun _ => False) w wr
 one : wr.heap[w.heap.size]? = some (.cells #[.int .i64 e, .int .i64 p, vv, vl] 39 (0, 0))
 two : wr.heap[w.heap.size + 1]? = some (.cells #[.int .i64 e', .int .i64 p', vv', vl'] 39 (0, 0))
theorem AnsB.keep {w wr wx : World} {e p e' p' : Int} {vv vl vv' vl' : Value} (h : AnsB w e p vv vl e' p' vv' vl' wr) (m : Mod (fun _ => False) wr wx) : AnsB w e p vv vl e' p' vv' vl' wx :=
 ⟨h.mod.trans m, m.heap h.one (fun f => f), m.heap h.two (fun f => f)⟩
theorem AnsB.start (w : World) (e p : Int) (vv vl : Value) (e' p' : Int) (vv' vl' : Value) : AnsB w e p vv vl e' p' vv' vl' ((w.alloc (.cells #[.int .i64 e, .int .i64 p, vv, vl] 39)).alloc (.cells #[.int .i64 e', .int .i64 p', vv', vl'] 39)) :=
 ⟨((Mod.refl _ w).alloc _).alloc _, heap_alloc_old (heap_alloc_new' w _), by have := heap_alloc_new' (w.alloc (.cells #[.int .i64 e, .int .i64 p, vv, vl] 39)) (.cells #[.int .i64 e', .int .i64 p', vv', vl'] 39); simpa using this⟩
open Go.RowKit
set_option maxRecDepth 100000 in
set_option maxHeartbeats 2000000 in
theorem eqnums_any (v u : Value) (l m : List Nat) (w : World) (hv : RdS w 1 v l.length (l.map (keyV .u32))) (hu : RdS w 1 u m.length (m.map (keyV .u32))) :
   Calls Tryz.prog 57 #[v, u] w fun e w' => e = .returned (.bool (decide (l = m))) ∧ Mod (fun _ => False) w w' := by
 have HV := Lib.hid hv
 have HU := Lib.hid hu
 obtain ⟨a, c, rfl, hc1, hc2, -⟩ := hv.shape
 obtain ⟨a', c', rfl, hc1', hc2', -⟩ := hu.shape
 clear hv hu
 obtain ⟨n, hl⟩ : ∃ n, n = l.length := ⟨_, rfl⟩
 obtain ⟨n', hl'⟩ : ∃ n, n = m.length := ⟨_, rfl⟩
 have HN := Lib.hid hl
 have HN' := Lib.hid hl'
 rw [← hl] at HV hc1 ⊢
 rw [← hl'] at HU hc1' ⊢
 clear hl hl'
 by_cases hnn : n = n'
 · subst hnn
   go_enter Tryz.func57, Tryz.ntmps57
   go_wp2
   go_loopw [13] (fun i wr => ∃ k : Nat, i = .int .i64 k ∧ k ≤ n ∧ Mod (fun _ => False) w wr ∧ l.take k = m.take k) (fun i _ => n - (intOf i).toNat)
   case atStart => exact ⟨0, rfl, Nat.zero_le _, Mod.refl _ _, rfl⟩
   case round =>
     obtain ⟨k, rfl, hk, hm, htk⟩ := hrel
     have HM := Lib.hid hm
     have HTK := Lib.hid htk
     clear hm htk
     by_cases hkn : k < n
     · obtain ⟨x, hx⟩ : ∃ x, l[k]? = some x := ⟨_, List.getElem?_eq_getElem (by rw [← HN.out]; exact hkn)⟩
       obtain ⟨y, hy⟩ : ∃ y, m[k]? = some y := ⟨_, List.getElem?_eq_getElem (by rw [← HN'.out]; exact hkn)⟩
       obtain ⟨b, off, rfl, hb, p0⟩ := num_ent HV.out hx rfl
       obtain ⟨b', off', rfl, hb', q0⟩ := num_ent HU.out hy rfl
       have p0 : ∀ x : MW wr, x.w.cell? _ = some _ := fun x => x.cell (HM.out.cell p0)
       have q0 : ∀ x : MW wr, x.w.cell? _ = some _ := fun x => x.cell (HM.out.cell q0)
       by_cases hxy : x = y
       · subst hxy
         have HTS := Lib.hid (takes_eq HTK.out hx hy)
         clear hx hy
         go_wp2_with fail
         refine wp_region_quietM (by kernel_rfl) (by kernel_rfl) ?_
         repeat (go_big_quiet_step (fail))
         refine wpQuiet_nil ?_
         intro w3 hm3
         have M3 : Hid (Mod (fun _ => False) w w3) := Lib.hid (HM.out.trans (MW.mod_of hm3))
         clear hm3 p0 q0
         go_wp2
         go_roundw
         case rel => exact ⟨k + 1, by go_num, by omega, M3.out, HTS.out⟩
         case measure => simp [intOf]; omega
       · have HNE := Lib.hid (at_ne hx hy hxy)
         have f1 : ((x : Int) == (y : Int)) = false := by simp; omega
         clear hx hy hxy
         go_wp2_with fail
         refine wp_region_quietM (by kernel_rfl) (by kernel_rfl) ?_
         repeat (go_big_quiet_step (fail))
         refine wpQuiet_nil ?_
         intro w3 hm3
         have M3 : Hid (Mod (fun _ => False) w w3) := Lib.hid (HM.out.trans (MW.mod_of hm3))
         clear hm3 p0 q0
         go_wp2
         go_ret
         exact ⟨by rw [decide_eq_false HNE.out]; rfl, M3.out⟩
     · have HEQ : Hid (l = m) := Lib.hid (by
         have h := HTK.out
         rwa [List.take_of_length_le (by have := HN.out; omega), List.take_of_length_le (by have := HN'.out; omega)] at h)
       go_wp2
       go_ret
       exact ⟨by rw [decide_eq_true HEQ.out]; rfl, HM.out⟩
 · have HNE : Hid (l ≠ m) := Lib.hid (by rintro rfl; exact hnn (HN.out.trans HN'.out.symm))
   go_enter Tryz.func57, Tryz.ntmps57
   go_wp2
   go_ret
   exact ⟨by rw [decide_eq_false HNE.out]; rfl, Mod.refl _ _⟩
set_option maxRecDepth 100000 in
set_option maxHeartbeats 2000000 in
theorem eqvals_any (v u : Value) (l m : List Val) (w : World) (hv : RdS w 3 v l.length (vvcells l)) (hu : RdS w 3 u m.length (vvcells m)) :
   Calls Tryz.prog 56 #[v, u] w fun e w' => e = .returned (.bool (decide (l = m))) ∧ Mod (fun _ => False) w w' := by
 have HV := Lib.hid hv
 have HU := Lib.hid hu
 obtain ⟨a, c, rfl, hc1, hc2, -⟩ := hv.shape
 obtain ⟨a', c', rfl, hc1', hc2', -⟩ := hu.shape
 clear hv hu
 obtain ⟨n, hl⟩ : ∃ n, n = l.length := ⟨_, rfl⟩
 obtain ⟨n', hl'⟩ : ∃ n, n = m.length := ⟨_, rfl⟩
 have HN := Lib.hid hl
 have HN' := Lib.hid hl'
 rw [← hl] at HV hc1 ⊢
 rw [← hl'] at HU hc1' ⊢
 clear hl hl'
 by_cases hnn : n = n'
 · subst hnn
   go_enter Tryz.func56, Tryz.ntmps56
   go_wp2
   go_loopw [13] (fun i wr => ∃ k : Nat, i = .int .i64 k ∧ k ≤ n ∧ Mod (fun _ => False) w wr ∧ l.take k = m.take k) (fun i _ => n - (intOf i).toNat)
   case atStart => exact ⟨0, rfl, Nat.zero_le _, Mod.refl _ _, rfl⟩
   case round =>
     obtain ⟨k, rfl, hk, hm, htk⟩ := hrel
     have HM := Lib.hid hm
     have HTK := Lib.hid htk
     clear hm htk
     by_cases hkn : k < n
     · obtain ⟨x, hx⟩ : ∃ x, l[k]? = some x := ⟨_, List.getElem?_eq_getElem (by rw [← HN.out]; exact hkn)⟩
       obtain ⟨y, hy⟩ : ∃ y, m[k]? = some y := ⟨_, List.getElem?_eq_getElem (by rw [← HN'.out]; exact hkn)⟩
       obtain ⟨b, off, rfl, hb, p0, p1, p2⟩ := val_ent HV.out hx rfl
       obtain ⟨b', off', rfl, hb', q0, q1, q2⟩ := val_ent HU.out hy rfl
       have p0 : ∀ x : MW wr, x.w.cell? _ = some _ := fun x => x.cell (HM.out.cell p0)
       have p1 : ∀ x : MW wr, x.w.cell? _ = some _ := fun x => x.cell (HM.out.cell p1)
       have p2 : ∀ x : MW wr, x.w.cell? _ = some _ := fun x => x.cell (HM.out.cell p2)
       have q0 : ∀ x : MW wr, x.w.cell? _ = some _ := fun x => x.cell (HM.out.cell q0)
       have q1 : ∀ x : MW wr, x.w.cell? _ = some _ := fun x => x.cell (HM.out.cell q1)
       have q2 : ∀ x : MW wr, x.w.cell? _ = some _ := fun x => x.cell (HM.out.cell q2)
       rcases val_cases x y with hxy | ⟨hxy, hcs⟩
       · subst hxy
         have HTS := Lib.hid (takes_eq HTK.out hx hy)
         clear hx hy
         obtain ⟨xk, xn, xs⟩ := x
         simp only at p0 p1 p2 q0 q1 q2
         go_wp2_with fail
         refine wp_region_quietM (by kernel_rfl) (by kernel_rfl) ?_
         repeat (go_big_quiet_step (fail))
         refine wpQuiet_nil ?_
         intro w3 hm3
         have M3 : Hid (Mod (fun _ => False) w w3) := Lib.hid (HM.out.trans (MW.mod_of hm3))
         clear hm3 p0 q0 p1 q1 p2 q2
         go_wp2
         go_roundw
         case rel => exact ⟨k + 1, by go_num, by omega, M3.out, HTS.out⟩
         case measure => simp [intOf]; omega
       · have HNE := Lib.hid (at_ne hx hy hxy)
         clear hx hy hxy
         obtain ⟨xk, xn, xs⟩ := x
         obtain ⟨yk, yn, ys⟩ := y
         simp only at p0 p1 p2 q0 q1 q2 hcs
         rcases hcs with ⟨f1, f2⟩ | ⟨rfl, f1, f2⟩ | ⟨rfl, rfl, f1⟩
         all_goals
           go_wp2_with fail
           refine wp_region_quietM (by kernel_rfl) (by kernel_rfl) ?_
           repeat (go_big_quiet_step (fail))
           refine wpQuiet_nil ?_
           intro w3 hm3
           have M3 : Hid (Mod (fun _ => False) w w3) := Lib.hid (HM.out.trans (MW.mod_of hm3))
           clear hm3 p0 q0 p1 q1 p2 q2
           go_wp2
           go_ret
           exact ⟨by rw [decide_eq_false HNE.out]; rfl, M3.out⟩
     · have HEQ : Hid (l = m) := Lib.hid (by
         have h := HTK.out
         rwa [List.take_of_length_le (by have := HN.out; omega), List.take_of_length_le (by have := HN'.out; omega)] at h)
       go_wp2
       go_ret
       exact ⟨by rw [decide_eq_true HEQ.out]; rfl, HM.out⟩
 · have HNE : Hid (l ≠ m) := Lib.hid (by rintro rfl; exact hnn (HN.out.trans HN'.out.symm))
   go_enter Tryz.func56, Tryz.ntmps56
   go_wp2
   go_ret
   exact ⟨by rw [decide_eq_false HNE.out]; rfl, Mod.refl _ _⟩
instance : DecidableEq Opr := fun x y => decidable_of_iff (x.kind = y.kind ∧ x.a = y.a ∧ x.b = y.b ∧ x.key = y.key ∧ x.val = y.val) (by cases x; cases y; simp)
theorem opr_cases (x y : Opr) : x = y ∨ (x ≠ y ∧ ((((x.kind : Int) == (y.kind : Int)) = false ∧ ¬ (x.kind : Int) = (y.kind : Int)) ∨ (x.kind = y.kind ∧ ((x.a : Int) == (y.a : Int)) = false ∧ ¬ (x.a : Int) = (y.a : Int)) ∨ (x.kind = y.kind ∧ x.a = y.a ∧ ((x.b : Int) == (y.b : Int)) = false ∧ ¬ (x.b : Int) = (y.b : Int)) ∨ (x.kind = y.kind ∧ x.a = y.a ∧ x.b = y.b ∧ ((x.key : Int) == (y.key : Int)) = false ∧ ¬ (x.key : Int) = (y.key : Int)) ∨ (x.kind = y.kind ∧ x.a = y.a ∧ x.b = y.b ∧ x.key = y.key ∧ ((x.val.k : Int) == (y.val.k : Int)) = false ∧ ¬ (x.val.k : Int) = (y.val.k : Int)) ∨ (x.kind = y.kind ∧ x.a = y.a ∧ x.b = y.b ∧ x.key = y.key ∧ x.val.k = y.val.k ∧ (x.val.n == y.val.n) = false ∧ ¬ x.val.n = y.val.n) ∨ (x.kind = y.kind ∧ x.a = y.a ∧ x.b = y.b ∧ x.key = y.key ∧ x.val.k = y.val.k ∧ x.val.n = y.val.n ∧ ¬ x.val.s.toList = y.val.s.toList))) := by
 have d : ∀ {p q : Nat}, p ≠ q → ((p : Int) == (q : Int)) = false ∧ ¬ (p : Int) = (q : Int) := fun {p q} h => ⟨by simp; omega, by omega⟩
 by_cases he : x = y
 · exact .inl he
 · refine .inr ⟨he, ?_⟩
   obtain ⟨k, a, b, e, v⟩ := x
   obtain ⟨k', a', b', e', v'⟩ := y
   simp only
   by_cases h1 : k = k'
   · by_cases h2 : a = a'
     · by_cases h3 : b = b'
       · by_cases h4 : e = e'
         · subst h1 h2 h3 h4
           rcases val_cases v v' with h | ⟨_, h | h | h⟩
           · subst h; exact absurd rfl he
           · exact .inr (.inr (.inr (.inr (.inl ⟨rfl, rfl, rfl, rfl, h⟩))))
           · exact .inr (.inr (.inr (.inr (.inr (.inl ⟨rfl, rfl, rfl, rfl, h⟩)))))
           · exact .inr (.inr (.inr (.inr (.inr (.inr ⟨rfl, rfl, rfl, rfl, h⟩)))))
         · exact .inr (.inr (.inr (.inl ⟨h1, h2, h3, d h4⟩)))
       · exact .inr (.inr (.inl ⟨h1, h2, d h3⟩))
     · exact .inr (.inl ⟨h1, d h2⟩)
   · exact .inl (d h1)
set_option maxRecDepth 100000 in
set_option maxHeartbeats 2000000 in
theorem eqops_any (v u : Value) (l m : List Opr) (w : World) (hv : ORd w v l) (hu : ORd w u m) :
   Calls Tryz.prog 55 #[v, u] w fun e w' => e = .returned (.bool (decide (l = m))) ∧ Mod (fun _ => False) w w' := by
 obtain ⟨a, c, rfl, hc1, hc2, -⟩ := hv.row.shape
 obtain ⟨a', c', rfl, hc1', hc2', -⟩ := hu.row.shape
 have HV := Lib.hid hv
 have HU := Lib.hid hu
 clear hv hu
 obtain ⟨n, hl⟩ : ∃ n, n = l.length := ⟨_, rfl⟩
 obtain ⟨n', hl'⟩ : ∃ n, n = m.length := ⟨_, rfl⟩
 have HN := Lib.hid hl
 have HN' := Lib.hid hl'
 rw [← hl] at HV hc1 ⊢
 rw [← hl'] at HU hc1' ⊢
 clear hl hl'
 by_cases hnn : n = n'
 · subst hnn
   go_enter Tryz.func55, Tryz.ntmps55
   go_wp2
   go_loopw [13] (fun i wr => ∃ k : Nat, i = .int .i64 k ∧ k ≤ n ∧ Mod (fun _ => False) w wr ∧ l.take k = m.take k) (fun i _ => n - (intOf i).toNat)
   case atStart => exact ⟨0, rfl, Nat.zero_le _, Mod.refl _ _, rfl⟩
   case round =>
     obtain ⟨k, rfl, hk, hm, htk⟩ := hrel
     have HM := Lib.hid hm
     have HTK := Lib.hid htk
     clear hm htk
     by_cases hkn : k < n
     · obtain ⟨x, hx⟩ : ∃ x, l[k]? = some x := ⟨_, List.getElem?_eq_getElem (by rw [← HN.out]; exact hkn)⟩
       obtain ⟨y, hy⟩ : ∃ y, m[k]? = some y := ⟨_, List.getElem?_eq_getElem (by rw [← HN'.out]; exact hkn)⟩
       obtain ⟨b, off, rfl, hb, p0, p1, p2, p3, p4, p5, p6⟩ := HV.out.ent hx rfl
       obtain ⟨b', off', rfl, hb', q0, q1, q2, q3, q4, q5, q6⟩ := HU.out.ent hy rfl
       have p0 : ∀ x : MW wr, x.w.cell? _ = some _ := fun x => x.cell (HM.out.cell p0)
       have p1 : ∀ x : MW wr, x.w.cell? _ = some _ := fun x => x.cell (HM.out.cell p1)
       have p2 : ∀ x : MW wr, x.w.cell? _ = some _ := fun x => x.cell (HM.out.cell p2)
       have p3 : ∀ x : MW wr, x.w.cell? _ = some _ := fun x => x.cell (HM.out.cell p3)
       have p4 : ∀ x : MW wr, x.w.cell? _ = some _ := fun x => x.cell (HM.out.cell p4)
       have p5 : ∀ x : MW wr, x.w.cell? _ = some _ := fun x => x.cell (HM.out.cell p5)
       have p6 : ∀ x : MW wr, x.w.cell? _ = some _ := fun x => x.cell (HM.out.cell p6)
       have q0 : ∀ x : MW wr, x.w.cell? _ = some _ := fun x => x.cell (HM.out.cell q0)
       have q1 : ∀ x : MW wr, x.w.cell? _ = some _ := fun x => x.cell (HM.out.cell q1)
       have q2 : ∀ x : MW wr, x.w.cell? _ = some _ := fun x => x.cell (HM.out.cell q2)
       have q3 : ∀ x : MW wr, x.w.cell? _ = some _ := fun x => x.cell (HM.out.cell q3)
       have q4 : ∀ x : MW wr, x.w.cell? _ = some _ := fun x => x.cell (HM.out.cell q4)
       have q5 : ∀ x : MW wr, x.w.cell? _ = some _ := fun x => x.cell (HM.out.cell q5)
       have q6 : ∀ x : MW wr, x.w.cell? _ = some _ := fun x => x.cell (HM.out.cell q6)
       rcases opr_cases x y with hxy | ⟨hxy, hcs⟩
       · subst hxy
         have HTS := Lib.hid (takes_eq HTK.out hx hy)
         clear hx hy
         obtain ⟨xo, xa, xb, xe, ⟨xk, xn, xs⟩⟩ := x
         simp only at p0 p1 p2 p3 p4 p5 p6 q0 q1 q2 q3 q4 q5 q6
         go_wp2_with fail
         refine wp_region_quietM (by kernel_rfl) (by kernel_rfl) ?_
         repeat (go_big_quiet_step (fail))
         refine wpQuiet_nil ?_
         intro w3 hm3
         have M3 : Hid (Mod (fun _ => False) w w3) := Lib.hid (HM.out.trans (MW.mod_of hm3))
         clear hm3 p0 q0 p1 q1 p2 q2 p3 q3 p4 q4 p5 q5 p6 q6
         go_wp2
         go_roundw
         case rel => exact ⟨k + 1, by go_num, by omega, M3.out, HTS.out⟩
         case measure => simp [intOf]; omega
       · have HNE := Lib.hid (at_ne hx hy hxy)
         clear hx hy hxy
         obtain ⟨xo, xa, xb, xe, ⟨xk, xn, xs⟩⟩ := x
         obtain ⟨yo, ya, yb, ye, ⟨yk, yn, ys⟩⟩ := y
         simp only at p0 p1 p2 p3 p4 p5 p6 q0 q1 q2 q3 q4 q5 q6 hcs
         rcases hcs with ⟨f1, f2⟩ | ⟨rfl, f1, f2⟩ | ⟨rfl, rfl, f1, f2⟩ | ⟨rfl, rfl, rfl, f1, f2⟩ | ⟨rfl, rfl, rfl, rfl, f1, f2⟩ | ⟨rfl, rfl, rfl, rfl, rfl, f1, f2⟩ | ⟨rfl, rfl, rfl, rfl, rfl, rfl, f1⟩
         all_goals
           go_wp2_with fail
           refine wp_region_quietM (by kernel_rfl) (by kernel_rfl) ?_
           repeat (go_big_quiet_step (fail))
           refine wpQuiet_nil ?_
           intro w3 hm3
           have M3 : Hid (Mod (fun _ => False) w w3) := Lib.hid (HM.out.trans (MW.mod_of hm3))
           clear hm3 p0 q0 p1 q1 p2 q2 p3 q3 p4 q4 p5 q5 p6 q6
           go_wp2
           go_ret
           exact ⟨by rw [decide_eq_false HNE.out]; rfl, M3.out⟩
     · have HEQ : Hid (l = m) := Lib.hid (by
         have h := HTK.out
         rwa [List.take_of_length_le (by have := HN.out; omega), List.take_of_length_le (by have := HN'.out; omega)] at h)
       go_wp2
       go_ret
       exact ⟨by rw [decide_eq_true HEQ.out]; rfl, HM.out⟩
 · have HNE : Hid (l ≠ m) := Lib.hid (by rintro rfl; exact hnn (HN.out.trans HN'.out.symm))
   go_enter Tryz.func55, Tryz.ntmps55
   go_wp2
   go_ret
   exact ⟨by rw [decide_eq_false HNE.out]; rfl, Mod.refl _ _⟩
open Go.RowKit
structure RqB (w : World) (o o' : Array Value) (wr : World) : Prop where
 mod : Mod (fun _ => False) w wr
 one : wr.heap[w.heap.size]? = some (.cells o 34 (0, 0))
 two : wr.heap[w.heap.size + 1]? = some (.cells o' 34 (0, 0))
theorem RqB.keep {w wr wx : World} {o o' : Array Value} (h : RqB w o o' wr) (m : Mod (fun _ => False) wr wx) : RqB w o o' wx := ⟨h.mod.trans m, m.heap h.one (fun f => f), m.heap h.two (fun f => f)⟩
theorem RqB.start (w : World) (o o' : Array Value) : RqB w o o' ((w.alloc (.cells o 34)).alloc (.cells o' 34)) :=
 ⟨((Mod.refl _ w).alloc _).alloc _, heap_alloc_old (heap_alloc_new' w _), by have := heap_alloc_new' (w.alloc (.cells o 34)) (.cells o' 34); simpa using this⟩
open Go.RowKit
instance : DecidableEq Rqt := fun x y => decidable_of_iff (x.kind = y.kind ∧ x.ops = y.ops ∧ x.v = y.v ∧ x.k = y.k ∧ x.dest = y.dest) (by cases x; cases y; simp)
set_option maxRecDepth 100000 in
set_option maxHeartbeats 4000000 in
theorem csame_any (e p e' p' : Int) (vals vals' : List Val) (list list' : List Nat) (vv vl vv' vl' : Value) (w : World) (hv : RdS w 3 vv vals.length (vvcells vals)) (hv' : RdS w 3 vv' vals'.length (vvcells vals')) (hl : RdS w 1 vl list.length (list.map (keyV .u32))) (hl' : RdS w 1 vl' list'.length (list'.map (keyV .u32))) :
   Calls Tryz.prog 30 #[.agg #[.int .i64 e, .int .i64 p, vv, vl], .agg #[.int .i64 e', .int .i64 p', vv', vl']] w fun en w' => en = .returned (.bool (decide (e = e' ∧ p = p' ∧ vals = vals' ∧ list = list'))) ∧ Mod (fun _ => False) w w' := by
 have HVS : Hid (∀ w', Mod (fun _ => False) w w' → Calls Tryz.prog 56 #[vv, vv'] w' fun e w'' => e = .returned (.bool (decide (vals = vals'))) ∧ Mod (fun _ => False) w' w'') := Lib.hid (fun w' m => eqvals_any vv vv' vals vals' w' (hv.keep m) (hv'.keep m))
 have HLS : Hid (∀ w', Mod (fun _ => False) w w' → Calls Tryz.prog 57 #[vl, vl'] w' fun e w'' => e = .returned (.bool (decide (list = list'))) ∧ Mod (fun _ => False) w' w'') := Lib.hid (fun w' m => eqnums_any vl vl' list list' w' (hl.keep m) (hl'.keep m))
 have HB0 := Lib.hid (AnsB.start w e p vv vl e' p' vv' vl')
 obtain ⟨av, cv, rfl, -⟩ := hv.shape
 obtain ⟨av', cv', rfl, -⟩ := hv'.shape
 obtain ⟨al, cl, rfl, -⟩ := hl.shape
 obtain ⟨al', cl', rfl, -⟩ := hl'.shape
 obtain ⟨nv, hnv⟩ : ∃ n, n = vals.length := ⟨_, rfl⟩
 obtain ⟨nv', hnv'⟩ : ∃ n, n = vals'.length := ⟨_, rfl⟩
 obtain ⟨nl, hnl⟩ : ∃ n, n = list.length := ⟨_, rfl⟩
 obtain ⟨nl', hnl'⟩ : ∃ n, n = list'.length := ⟨_, rfl⟩
 simp only [← hnv, ← hnv', ← hnl, ← hnl'] at HVS HLS HB0 ⊢
 clear hv hv' hl hl' hnv hnv' hnl hnl'
 obtain ⟨bv, hbv⟩ : ∃ b, b = decide (vals = vals') := ⟨_, rfl⟩
 obtain ⟨bl, hbl⟩ : ∃ b, b = decide (list = list') := ⟨_, rfl⟩
 have HR : Hid (decide (e = e' ∧ p = p' ∧ vals = vals' ∧ list = list') = (decide (e = e') && (decide (p = p') && (bv && bl)))) := Lib.hid (by rw [hbv, hbl]; simp only [Bool.decide_and])
 rw [HR.out]
 rw [← hbv] at HVS
 rw [← hbl] at HLS
 clear hbv hbl HR
 by_cases he : e = e'
 · subst he
   by_cases hp : p = p'
   · subst hp
     cases bv with
     | true =>
       cases bl with
       | true =>
         go_enter Tryz.func30, Tryz.ntmps30
         go_wp2_with (first
           | (have hq := HB1.out.mod; go_at_call 57; go_loud (refine (HLS.out _ HB1.out.mod).mono ?_; (rintro en w2 ⟨rfl, hm2⟩); have HB2 := Lib.hid (HB1.out.keep hm2); clear hm2 hq))
           | (go_at_call 56; go_loud (refine (HVS.out _ HB0.out.mod).mono ?_; (rintro en w1 ⟨rfl, hm1⟩); have HB1 := Lib.hid (HB0.out.keep hm1); have b0 := cell_of_row HB1.out.one 0; have b1 := cell_of_row HB1.out.one 1; have b2 := cell_of_row HB1.out.one 2; have b3 := cell_of_row HB1.out.one 3; have d0 := cell_of_row HB1.out.two 0; have d1 := cell_of_row HB1.out.two 1; have d2 := cell_of_row HB1.out.two 2; have d3 := cell_of_row HB1.out.two 3; have z1 := lt_of_block HB1.out.one; have z2 := lt_of_block HB1.out.two; simp at b0 b1 b2 b3 d0 d1 d2 d3; clear hm1)))
         go_ret
         exact ⟨by simp, HB2.out.mod⟩
       | false =>
         go_enter Tryz.func30, Tryz.ntmps30
         go_wp2_with (first
           | (have hq := HB1.out.mod; go_at_call 57; go_loud (refine (HLS.out _ HB1.out.mod).mono ?_; (rintro en w2 ⟨rfl, hm2⟩); have HB2 := Lib.hid (HB1.out.keep hm2); clear hm2 hq))
           | (go_at_call 56; go_loud (refine (HVS.out _ HB0.out.mod).mono ?_; (rintro en w1 ⟨rfl, hm1⟩); have HB1 := Lib.hid (HB0.out.keep hm1); have b0 := cell_of_row HB1.out.one 0; have b1 := cell_of_row HB1.out.one 1; have b2 := cell_of_row HB1.out.one 2; have b3 := cell_of_row HB1.out.one 3; have d0 := cell_of_row HB1.out.two 0; have d1 := cell_of_row HB1.out.two 1; have d2 := cell_of_row HB1.out.two 2; have d3 := cell_of_row HB1.out.two 3; have z1 := lt_of_block HB1.out.one; have z2 := lt_of_block HB1.out.two; simp at b0 b1 b2 b3 d0 d1 d2 d3; clear hm1)))
         go_ret
         exact ⟨by simp, HB2.out.mod⟩
     | false =>
       go_enter Tryz.func30, Tryz.ntmps30
       go_wp2_with (first
         | (go_at_call 56; go_loud (refine (HVS.out _ HB0.out.mod).mono ?_; (rintro en w1 ⟨rfl, hm1⟩); have HB1 := Lib.hid (HB0.out.keep hm1); have b0 := cell_of_row HB1.out.one 0; have b1 := cell_of_row HB1.out.one 1; have b2 := cell_of_row HB1.out.one 2; have b3 := cell_of_row HB1.out.one 3; have d0 := cell_of_row HB1.out.two 0; have d1 := cell_of_row HB1.out.two 1; have d2 := cell_of_row HB1.out.two 2; have d3 := cell_of_row HB1.out.two 3; have z1 := lt_of_block HB1.out.one; have z2 := lt_of_block HB1.out.two; simp at b0 b1 b2 b3 d0 d1 d2 d3; clear hm1)))
       go_ret
       exact ⟨by simp, HB1.out.mod⟩
   · have f1 : (p == p') = false := by simpa using hp
     go_enter Tryz.func30, Tryz.ntmps30
     go_wp2
     go_ret
     exact ⟨by simp [hp], HB0.out.mod⟩
 · have f1 : (e == e') = false := by simpa using he
   go_enter Tryz.func30, Tryz.ntmps30
   go_wp2
   go_ret
   exact ⟨by simp [he], HB0.out.mod⟩
set_option maxRecDepth 100000 in
set_option maxHeartbeats 4000000 in
theorem alike_any (r r' : Rqt) (vo vo' : Value) (w : World) (ho : ORd w vo r.ops) (ho' : ORd w vo' r'.ops) :
   Calls Tryz.prog 29 #[rqV r vo, rqV r' vo'] w fun e w' => e = .returned (.bool (decide (r = r'))) ∧ Mod (fun _ => False) w w' := by
 have HOP : Hid (∀ w', Mod (fun _ => False) w w' → Calls Tryz.prog 55 #[vo, vo'] w' fun e w'' => e = .returned (.bool (decide (r.ops = r'.ops))) ∧ Mod (fun _ => False) w' w'') := Lib.hid (fun w' m => eqops_any vo vo' r.ops r'.ops w' (ho.keep m) (ho'.keep m))
 obtain ⟨a, c, rfl, -⟩ := ho.row.shape
 obtain ⟨a', c', rfl, -⟩ := ho'.row.shape
 obtain ⟨kind, ops, v, k, dd⟩ := r
 obtain ⟨kind', ops', v', k', dd'⟩ := r'
 simp only at HOP ⊢
 obtain ⟨n, hn⟩ : ∃ n, n = ops.length := ⟨_, rfl⟩
 obtain ⟨n', hn'⟩ : ∃ n, n = ops'.length := ⟨_, rfl⟩
 simp only [rqV, ← hn, ← hn'] at HOP ⊢
 have HB0 := Lib.hid (RqB.start w #[.int .u8 (kind : Int), .slice a n c, .int .u32 (v : Int), .int .i64 k, .int .i64 dd] #[.int .u8 (kind' : Int), .slice a' n' c', .int .u32 (v' : Int), .int .i64 k', .int .i64 dd'])
 obtain ⟨bo, hbo⟩ : ∃ b, b = decide (ops = ops') := ⟨_, rfl⟩
 have HR : Hid (decide ((⟨kind, ops, v, k, dd⟩ : Rqt) = ⟨kind', ops', v', k', dd'⟩) = (decide (kind = kind') && (decide (v = v') && (decide (k = k') && (decide (dd = dd') && bo))))) := Lib.hid (by
   rw [hbo, ← Bool.decide_and, ← Bool.decide_and, ← Bool.decide_and, ← Bool.decide_and]
   congr 1
   simp only [Rqt.mk.injEq, eq_iff_iff]
   constructor <;> (intro h; simp_all))
 rw [HR.out]
 rw [← hbo] at HOP
 clear hbo HR hn hn' ho ho'
 by_cases h1 : kind = kind'
 · subst h1
   by_cases h2 : v = v'
   · subst h2
     by_cases h3 : k = k'
     · subst h3
       by_cases h4 : dd = dd'
       · subst h4
         go_enter Tryz.func29, Tryz.ntmps29
         go_wp2_with (go_at_call 55; go_loud (refine (HOP.out _ HB0.out.mod).mono ?_; (rintro en w2 ⟨rfl, hm2⟩); have HB2 := Lib.hid (HB0.out.keep hm2); clear hm2))
         go_ret
         exact ⟨by simp, HB2.out.mod⟩
       · have g1 : (dd == dd') = false := by simpa using h4
         have H4 := Lib.hid h4
         go_enter Tryz.func29, Tryz.ntmps29
         go_wp2
         go_ret
         exact ⟨by simp [H4.out], HB0.out.mod⟩
     · have g1 : (k == k') = false := by simpa using h3
       have H3 := Lib.hid h3
       go_enter Tryz.func29, Tryz.ntmps29
       go_wp2
       go_ret
       exact ⟨by simp [H3.out], HB0.out.mod⟩
   · have g1 : ((v : Int) == (v' : Int)) = false := by simp; omega
     have g2 : ¬ (v : Int) = (v' : Int) := by omega
     have H2 := Lib.hid h2
     go_enter Tryz.func29, Tryz.ntmps29
     go_wp2
     go_ret
     exact ⟨by simp [H2.out], HB0.out.mod⟩
 · have g1 : ((kind : Int) == (kind' : Int)) = false := by simp; omega
   have g2 : ¬ (kind : Int) = (kind' : Int) := by omega
   have H1 := Lib.hid h1
   go_enter Tryz.func29, Tryz.ntmps29
   go_wp2
   go_ret
   exact ⟨by simp [H1.out], HB0.out.mod⟩
set_option maxRecDepth 100000 in
set_option maxHeartbeats 2000000 in
theorem given_any (e p : Int) (vv vl : Value) (w : World) :
   Calls Tryz.prog 36 #[.agg #[.int .i64 e, .int .i64 p, vv, vl]] w fun en w' => en = .returned (.bool (decide (e = 13 ∨ e = 14))) ∧ Mod (fun _ => False) w w' := by
 have HM : Hid (Mod (fun _ => False) w (w.alloc (.cells #[.int .i64 e, .int .i64 p, vv, vl] 39))) := Lib.hid ((Mod.refl _ _).alloc _)
 by_cases h1 : e = 13
 · subst h1
   go_enter Tryz.func36, Tryz.ntmps36
   go_wp2
   go_ret
   exact ⟨by simp, HM.out⟩
 · by_cases h2 : e = 14
   · subst h2
     go_enter Tryz.func36, Tryz.ntmps36
     go_wp2
     go_ret
     exact ⟨by simp, HM.out⟩
   · have g1 : (e == 13) = false := by simpa using h1
     have g2 : (e == 14) = false := by simpa using h2
     go_enter Tryz.func36, Tryz.ntmps36
     go_wp2
     go_ret
     exact ⟨by simp [h1, h2], HM.out⟩
open Go.RowKit Go.Maps
abbrev Nm := Nat × Nat
def nameV (k : Nm) : Value := .agg #[.int .u8 (k.1 : Int), .int .u32 (k.2 : Int)]
def Nm.ok (k : Nm) : Prop := k.1 < 256 ∧ k.2 < 4294967296
def litN (k : Nm) : Lit := .string (keyBytes [.int .u8 (k.1 : Int), .int .u32 (k.2 : Int)])
theorem laidN : laidOutB Tryz.prog = true := by kernel_rfl
theorem name_law : WideMaps.KeyLaw Tryz.prog 90 := deep_law_laid laidN (m := 3) (by omega) (of_decide_eq_true (by kernel_rfl)) (by kernel_rfl) (by kernel_rfl)
theorem name_keyed : Keyed Tryz.prog 90 := Keyed.of_law name_law
theorem keyLits_int (P : Program) (d : Nat) (t : TypeId) (q : IntKind) (n : Int) (h : P.underlying t = some (.int q)) (hw : (Lit.int q n).wf = true) : P.keyLits (d + 1) t [.int q n] = some [.int q n] := by
 simp only [Program.keyLits, h]
 rw [if_pos (by simp [hw])]
set_option maxRecDepth 100000 in
theorem key_name {k : Nm} (h : k.ok) : keyOf Tryz.prog 90 (nameV k) = some (litN k) := by
 obtain ⟨c, s⟩ := k
 have h1 : (Lit.int .u8 (c : Int)).wf = true := by have := h.1; simp only at this; go_wf
 have h2 : (Lit.int .u32 (s : Int)).wf = true := by have := h.2; simp only at this; go_wf
 have c0 : Tryz.prog.cellsOf 90 = 2 := by kernel_rfl
 have c1 : Tryz.prog.cellsOf 5 = 1 := by kernel_rfl
 have c2 : Tryz.prog.cellsOf 32 = 1 := by kernel_rfl
 have k1 : Tryz.prog.keyType 90 = true := by kernel_rfl
 have k2 : Value.formed Tryz.prog 90 (nameV (c, s)) = true := by kernel_rfl
 have k3 : ∀ d, Tryz.prog.keyLits (d + 1 + 1) 90 [.int .u8 (c : Int), .int .u32 (s : Int)] = some [.int .u8 (c : Int), .int .u32 (s : Int)] := fun d => by
   have e1 := keyLits_int Tryz.prog d 5 .u8 (c : Int) Tryz.underlying5 h1
   have e2 := keyLits_int Tryz.prog d 32 .u32 (s : Int) Tryz.underlying32 h2
   rw [Program.keyLits.eq_def]
   simp only [Tryz.underlying90]
   simp [c0, c1, c2, e1, e2]
 have k4 : Tryz.prog.types.size = (Tryz.prog.types.size - 1) + 1 := by kernel_rfl
 unfold keyOf
 rw [k1, k2, k4, show (nameV (c, s)).cells.toList = [.int .u8 (c : Int), .int .u32 (s : Int)] from rfl, k3]
 simp [Tryz.underlying90, litN]
structure NMap (P : Program) (kt : TypeId) (w : World) (b n : Nat) (f : Nm → Option Value) : Prop where
 ex : ∃ D : DataW Value, w.ownsMap P kt rawE b n D ∧ IsMap D ∧ ∀ k : Nm, k.ok → Maps.has D (litN k) = (f k).isSome ∧ ∀ z, D.atKey (litN k) (.held z) = .held ((f k).getD z)
theorem litN_inj {a b : Nm} (ha : a.ok) (hb : b.ok) (h : litN a = litN b) : a = b := by
 have h1 := key_name ha
 rw [h] at h1
 have := name_keyed.inj h1 (key_name hb)
 obtain ⟨c, s⟩ := a
 obtain ⟨c', s'⟩ := b
 simp [nameV] at this
 simp only [Prod.mk.injEq]
 omega
theorem NMap.made (w : World) : NMap Tryz.prog 90 (w.alloc (.map #[] 0)) w.heap.size 0 (fun _ => none) :=
 ⟨_, World.ownsMap_made w Tryz.prog 90 rawE, isMap_empty, fun k hk => ⟨rfl, fun z => rfl⟩⟩
theorem NMap.lt {w : World} {b n : Nat} {f : Nm → Option Value} (h : NMap Tryz.prog 90 w b n f) : b < w.heap.size := by
 obtain ⟨D, h1, _⟩ := h.ex
 exact h1.lt
theorem NMap.mod {S : Nat → Prop} {w w' : World} {b n : Nat} {f : Nm → Option Value} (h : NMap Tryz.prog 90 w b n f) (m : Mod S w w') (hs : ¬ S b) : NMap Tryz.prog 90 w' b n f := by
 obtain ⟨D, h1, h2, h3⟩ := h.ex
 exact ⟨D, m.ownsMap h1 hs, h2, h3⟩
theorem NMap.keep {w w' : World} {b n : Nat} {f : Nm → Option Value} (h : NMap Tryz.prog 90 w b n f) (m : Mod (fun _ => False) w w') : NMap Tryz.prog 90 w' b n f := h.mod m (fun e => e)
theorem zero_int (w : World) : (zeroValue 3).run Tryz.prog w = .ok (.int .i64 0) w := Tryz.zeroValue3 w
theorem NMap.getOk {w : World} {b n : Nat} {f : Nm → Option Value} (h : NMap Tryz.prog 90 w b n f) {k : Nm} (hk : k.ok) :
   (Instr.lookup 86 (.map (some b)) (nameV k) true).run Tryz.prog w = .ok (.tuple #[(f k).getD (.int .i64 0), .bool (f k).isSome]) w := by
 obtain ⟨D, h1, h2, h3⟩ := h.ex
 obtain ⟨v, ps, hr, hv⟩ := h1.look_ok name_keyed Tryz.underlying86 (zero_int w) (show rawE (.int .i64 0) = some (.held (.int .i64 0), []) from rfl) (key_name hk)
 rw [(h3 k hk).2] at hv
 rw [(h3 k hk).1] at hr
 simp only [rawE, Option.some.injEq, Prod.mk.injEq] at hv
 have : v = (f k).getD (.int .i64 0) := by have := hv.1; injection this
 rw [hr, this]
theorem litN_key {k : Nm} (hk : k.ok) : WideAt.IsKeyLit (litN k) := name_keyed.key (key_name hk)
theorem NMap.store {w : World} {b n : Nat} {f : Nm → Option Value} (h : NMap Tryz.prog 90 w b n f) (hn : n < maxLen) {k : Nm} (hk : k.ok) (v : Value) :
   ∃ w', (Instr.mapUpdate 86 (.map (some b)) (nameV k) v).run Tryz.prog w = .ok () w' ∧ NMap Tryz.prog 90 w' b (n + 1) (fun j => if j = k then some v else f j) ∧ Mod (fun i => i = b) w w' := by
 obtain ⟨D, h1, h2, h3⟩ := h.ex
 obtain ⟨w', hr, h4, h5⟩ := h1.store name_keyed Tryz.underlying86 hn (key_name hk) (show rawE v = some (.held v, []) from rfl)
 refine ⟨w', hr, ⟨_, h4, (by obtain ⟨es, rfl⟩ := h2; exact ⟨_, rfl⟩), fun j hj => ?_⟩, (Mod.refl _ w).turned h5 (fun _ => rfl)⟩
 by_cases e : j = k
 · subst e
   rw [if_pos rfl]
   exact ⟨has_put_same h2 (litN_key hk) _, fun z => atKey_put_same h2 (litN_key hk) _ _⟩
 · rw [if_neg e]
   have hne : litN j ≠ litN k := fun h => e (litN_inj hj hk h)
   exact ⟨(has_put_other hne _).trans (h3 j hj).1, fun z => (atKey_put_other hne _ _).trans ((h3 j hj).2 z)⟩
end Go.Proofs.YtpigipgoopeeoaaGreatDoor
