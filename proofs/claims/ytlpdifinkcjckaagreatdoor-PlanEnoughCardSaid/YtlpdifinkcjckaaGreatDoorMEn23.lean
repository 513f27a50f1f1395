import Derived.Test.YtlpdifinkcjckaaGreatDoorMEn14
import Derived.Test.YtlpdifinkcjckaaGreatDoorMEn22
set_option linter.unusedVariables false
set_option linter.unusedSimpArgs false
namespace Go.Proofs.YtlpdifinkcjckaaGreatDoor
open Go.RowKit
instance : DecidableEq Ent := fun x y => decidable_of_iff (x.key = y.key ∧ x.val = y.val) (by cases x; cases y; simp)
instance : DecidableEq Vtx := fun x y => decidable_of_iff (x.id = y.id ∧ x.there = y.there ∧ x.props = y.props ∧ x.halves = y.halves) (by cases x; cases y; simp)
theorem ent_cases (x y : Ent) : x = y ∨ (x ≠ y ∧ ((((x.key : Int) == (y.key : Int)) = false ∧ ¬ (x.key : Int) = (y.key : Int)) ∨ (x.key = y.key ∧ ((x.val.k : Int) == (y.val.k : Int)) = false ∧ ¬ (x.val.k : Int) = (y.val.k : Int)) ∨ (x.key = y.key ∧ x.val.k = y.val.k ∧ (x.val.n == y.val.n) = false ∧ ¬ x.val.n = y.val.n) ∨ (x.key = y.key ∧ x.val.k = y.val.k ∧ x.val.n = y.val.n ∧ ¬ x.val.s.toList = y.val.s.toList))) := by
 have d : ∀ {p q : Nat}, p ≠ q → ((p : Int) == (q : Int)) = false ∧ ¬ (p : Int) = (q : Int) := fun {p q} h => ⟨by simp; omega, by omega⟩
 by_cases he : x = y
 · exact .inl he
 · refine .inr ⟨he, ?_⟩
   obtain ⟨k, v⟩ := x
   obtain ⟨k', v'⟩ := y
   simp only
   by_cases h1 : k = k'
   · subst h1
     rcases val_cases v v' with h | ⟨_, h | h | h⟩
     · subst h; exact absurd rfl he
     · exact .inr (.inl ⟨rfl, h⟩)
     · exact .inr (.inr (.inl ⟨rfl, h⟩))
     · exact .inr (.inr (.inr ⟨rfl, h⟩))
   · exact .inl (d h1)
set_option maxRecDepth 100000 in
set_option maxHeartbeats 2000000 in
theorem eqprops_any (v u : Value) (l m : List Ent) (w : World) (hv : RdS w 4 v l.length (cellsOf .u8 l)) (hu : RdS w 4 u m.length (cellsOf .u8 m)) :
   Calls Tryz.prog 69 #[v, u] w fun e w' => e = .returned (.bool (decide (l = m))) ∧ Mod (fun _ => False) w w' := by
 have HV := Lib.hid hv
 have HU := Lib.hid hu
 obtain ⟨a, c, rfl, hc1, hc2, -⟩ := hv.shape
 obtain ⟨a', c', rfl, hc1', hc2', -⟩ := hu.shape
 clear hv hu
 obtain ⟨n, hl⟩ : ∃ n, n = l.length := ⟨_, rfl⟩
 obtain ⟨n', hl'⟩ : ∃ n, n = m.length := ⟨_, rfl⟩
 have HN := Lib.hid hl
 have HN' := Lib.hid hl'
 rw [← hl] at HV hc1 ⊢
 rw [← hl'] at HU hc1' ⊢
 clear hl hl'
 by_cases hnn : n = n'
 · subst hnn
   go_enter Tryz.func69, Tryz.ntmps69
   go_wp2
   go_loopw [13] (fun i wr => ∃ k : Nat, i = .int .i64 k ∧ k ≤ n ∧ Mod (fun _ => False) w wr ∧ l.take k = m.take k) (fun i _ => n - (intOf i).toNat)
   case atStart => exact ⟨0, rfl, Nat.zero_le _, Mod.refl _ _, rfl⟩
   case round =>
     obtain ⟨k, rfl, hk, hm, htk⟩ := hrel
     have HM := Lib.hid hm
     have HTK := Lib.hid htk
     clear hm htk
     by_cases hkn : k < n
     · obtain ⟨x, hx⟩ : ∃ x, l[k]? = some x := ⟨_, List.getElem?_eq_getElem (by rw [← HN.out]; exact hkn)⟩
       obtain ⟨y, hy⟩ : ∃ y, m[k]? = some y := ⟨_, List.getElem?_eq_getElem (by rw [← HN'.out]; exact hkn)⟩
       obtain ⟨b, off, rfl, hb, p0, p1, p2, p3⟩ := HV.out.ent hx rfl
       obtain ⟨b', off', rfl, hb', q0, q1, q2, q3⟩ := HU.out.ent hy rfl
       have p0 : ∀ x : MW wr, x.w.cell? _ = some _ := fun x => x.cell (HM.out.cell p0)
       have p1 : ∀ x : MW wr, x.w.cell? _ = some _ := fun x => x.cell (HM.out.cell p1)
       have p2 : ∀ x : MW wr, x.w.cell? _ = some _ := fun x => x.cell (HM.out.cell p2)
       have p3 : ∀ x : MW wr, x.w.cell? _ = some _ := fun x => x.cell (HM.out.cell p3)
       have q0 : ∀ x : MW wr, x.w.cell? _ = some _ := fun x => x.cell (HM.out.cell q0)
       have q1 : ∀ x : MW wr, x.w.cell? _ = some _ := fun x => x.cell (HM.out.cell q1)
       have q2 : ∀ x : MW wr, x.w.cell? _ = some _ := fun x => x.cell (HM.out.cell q2)
       have q3 : ∀ x : MW wr, x.w.cell? _ = some _ := fun x => x.cell (HM.out.cell q3)
       rcases ent_cases x y with hxy | ⟨hxy, hcs⟩
       · subst hxy
         have HTS := Lib.hid (takes_eq HTK.out hx hy)
         clear hx hy
         obtain ⟨xe, ⟨xk, xn, xs⟩⟩ := x
         simp only at p0 p1 p2 p3 q0 q1 q2 q3
         go_wp2_with fail
         refine wp_region_quietM (by kernel_rfl) (by kernel_rfl) ?_
         repeat (go_big_quiet_step (fail))
         refine wpQuiet_nil ?_
         intro w3 hm3
         have M3 : Hid (Mod (fun _ => False) w w3) := Lib.hid (HM.out.trans (MW.mod_of hm3))
         clear hm3 p0 q0 p1 q1 p2 q2 p3 q3
         go_wp2
         go_roundw
         case rel => exact ⟨k + 1, by go_num, by omega, M3.out, HTS.out⟩
         case measure => simp [intOf]; omega
       · have HNE := Lib.hid (at_ne hx hy hxy)
         clear hx hy hxy
         obtain ⟨xe, ⟨xk, xn, xs⟩⟩ := x
         obtain ⟨ye, ⟨yk, yn, ys⟩⟩ := y
         simp only at p0 p1 p2 p3 q0 q1 q2 q3 hcs
         rcases hcs with ⟨f1, f2⟩ | ⟨rfl, f1, f2⟩ | ⟨rfl, rfl, f1, f2⟩ | ⟨rfl, rfl, rfl, f1⟩
         all_goals
           go_wp2_with fail
           refine wp_region_quietM (by kernel_rfl) (by kernel_rfl) ?_
           repeat (go_big_quiet_step (fail))
           refine wpQuiet_nil ?_
           intro w3 hm3
           have M3 : Hid (Mod (fun _ => False) w w3) := Lib.hid (HM.out.trans (MW.mod_of hm3))
           clear hm3 p0 q0 p1 q1 p2 q2 p3 q3
           go_wp2
           go_ret
           exact ⟨by rw [decide_eq_false HNE.out]; rfl, M3.out⟩
     · have HEQ : Hid (l = m) := Lib.hid (by
         have h := HTK.out
         rwa [List.take_of_length_le (by have := HN.out; omega), List.take_of_length_le (by have := HN'.out; omega)] at h)
       go_wp2
       go_ret
       exact ⟨by rw [decide_eq_true HEQ.out]; rfl, HM.out⟩
 · have HNE : Hid (l ≠ m) := Lib.hid (by rintro rfl; exact hnn (HN.out.trans HN'.out.symm))
   go_enter Tryz.func69, Tryz.ntmps69
   go_wp2
   go_ret
   exact ⟨by rw [decide_eq_false HNE.out]; rfl, Mod.refl _ _⟩
set_option maxRecDepth 100000 in
set_option maxHeartbeats 2000000 in
theorem eqhalves_any (v u : Value) (l m : List Ent) (w : World) (hv : RdS w 4 v l.length (cellsOf .u32 l)) (hu : RdS w 4 u m.length (cellsOf .u32 m)) :
   Calls Tryz.prog 70 #[v, u] w fun e w' => e = .returned (.bool (decide (l = m))) ∧ Mod (fun _ => False) w w' := by
 have HV := Lib.hid hv
 have HU := Lib.hid hu
 obtain ⟨a, c, rfl, hc1, hc2, -⟩ := hv.shape
 obtain ⟨a', c', rfl, hc1', hc2', -⟩ := hu.shape
 clear hv hu
 obtain ⟨n, hl⟩ : ∃ n, n = l.length := ⟨_, rfl⟩
 obtain ⟨n', hl'⟩ : ∃ n, n = m.length := ⟨_, rfl⟩
 have HN := Lib.hid hl
 have HN' := Lib.hid hl'
 rw [← hl] at HV hc1 ⊢
 rw [← hl'] at HU hc1' ⊢
 clear hl hl'
 by_cases hnn : n = n'
 · subst hnn
   go_enter Tryz.func70, Tryz.ntmps70
   go_wp2
   go_loopw [13] (fun i wr => ∃ k : Nat, i = .int .i64 k ∧ k ≤ n ∧ Mod (fun _ => False) w wr ∧ l.take k = m.take k) (fun i _ => n - (intOf i).toNat)
   case atStart => exact ⟨0, rfl, Nat.zero_le _, Mod.refl _ _, rfl⟩
   case round =>
     obtain ⟨k, rfl, hk, hm, htk⟩ := hrel
     have HM := Lib.hid hm
     have HTK := Lib.hid htk
     clear hm htk
     by_cases hkn : k < n
     · obtain ⟨x, hx⟩ : ∃ x, l[k]? = some x := ⟨_, List.getElem?_eq_getElem (by rw [← HN.out]; exact hkn)⟩
       obtain ⟨y, hy⟩ : ∃ y, m[k]? = some y := ⟨_, List.getElem?_eq_getElem (by rw [← HN'.out]; exact hkn)⟩
       obtain ⟨b, off, rfl, hb, p0, p1, p2, p3⟩ := HV.out.ent hx rfl
       obtain ⟨b', off', rfl, hb', q0, q1, q2, q3⟩ := HU.out.ent hy rfl
       have p0 : ∀ x : MW wr, x.w.cell? _ = some _ := fun x => x.cell (HM.out.cell p0)
       have p1 : ∀ x : MW wr, x.w.cell? _ = some _ := fun x => x.cell (HM.out.cell p1)
       have p2 : ∀ x : MW wr, x.w.cell? _ = some _ := fun x => x.cell (HM.out.cell p2)
       have p3 : ∀ x : MW wr, x.w.cell? _ = some _ := fun x => x.cell (HM.out.cell p3)
       have q0 : ∀ x : MW wr, x.w.cell? _ = some _ := fun x => x.cell (HM.out.cell q0)
       have q1 : ∀ x : MW wr, x.w.cell? _ = some _ := fun x => x.cell (HM.out.cell q1)
       have q2 : ∀ x : MW wr, x.w.cell? _ = some _ := fun x => x.cell (HM.out.cell q2)
       have q3 : ∀ x : MW wr, x.w.cell? _ = some _ := fun x => x.cell (HM.out.cell q3)
       rcases ent_cases x y with hxy | ⟨hxy, hcs⟩
       · subst hxy
         have HTS := Lib.hid (takes_eq HTK.out hx hy)
         clear hx hy
         obtain ⟨xe, ⟨xk, xn, xs⟩⟩ := x
         simp only at p0 p1 p2 p3 q0 q1 q2 q3
         go_wp2_with fail
         refine wp_region_quietM (by kernel_rfl) (by kernel_rfl) ?_
         repeat (go_big_quiet_step (fail))
         refine wpQuiet_nil ?_
         intro w3 hm3
         have M3 : Hid (Mod (fun _ => False) w w3) := Lib.hid (HM.out.trans (MW.mod_of hm3))
         clear hm3 p0 q0 p1 q1 p2 q2 p3 q3
         go_wp2
         go_roundw
         case rel => exact ⟨k + 1, by go_num, by omega, M3.out, HTS.out⟩
         case measure => simp [intOf]; omega
       · have HNE := Lib.hid (at_ne hx hy hxy)
         clear hx hy hxy
         obtain ⟨xe, ⟨xk, xn, xs⟩⟩ := x
         obtain ⟨ye, ⟨yk, yn, ys⟩⟩ := y
         simp only at p0 p1 p2 p3 q0 q1 q2 q3 hcs
         rcases hcs with ⟨f1, f2⟩ | ⟨rfl, f1, f2⟩ | ⟨rfl, rfl, f1, f2⟩ | ⟨rfl, rfl, rfl, f1⟩
         all_goals
           go_wp2_with fail
           refine wp_region_quietM (by kernel_rfl) (by kernel_rfl) ?_
           repeat (go_big_quiet_step (fail))
           refine wpQuiet_nil ?_
           intro w3 hm3
           have M3 : Hid (Mod (fun _ => False) w w3) := Lib.hid (HM.out.trans (MW.mod_of hm3))
           clear hm3 p0 q0 p1 q1 p2 q2 p3 q3
           go_wp2
           go_ret
           exact ⟨by rw [decide_eq_false HNE.out]; rfl, M3.out⟩
     · have HEQ : Hid (l = m) := Lib.hid (by
         have h := HTK.out
         rwa [List.take_of_length_le (by have := HN.out; omega), List.take_of_length_le (by have := HN'.out; omega)] at h)
       go_wp2
       go_ret
       exact ⟨by rw [decide_eq_true HEQ.out]; rfl, HM.out⟩
 · have HNE : Hid (l ≠ m) := Lib.hid (by rintro rfl; exact hnn (HN.out.trans HN'.out.symm))
   go_enter Tryz.func70, Tryz.ntmps70
   go_wp2
   go_ret
   exact ⟨by rw [decide_eq_false HNE.out]; rfl, Mod.refl _ _⟩
theorem heap_second2 (W : World) (A B : Obj) : ((W.alloc A).alloc B).heap[W.heap.size + 1]? = some B := by
 have h := heap_alloc_new' (W.alloc A) B
 simpa using h
def sameB (x y : Vtx) : Bool := decide (x.there = y.there) && (decide (x.props = y.props) && decide (x.halves = y.halves))
theorem sameB_iff {x y : Vtx} (h : x.id = y.id) : sameB x y = true ↔ x = y := by
 obtain ⟨i, t, p, q⟩ := x
 obtain ⟨i', t', p', q'⟩ := y
 simp only at h
 subst h
 unfold sameB
 simp
set_option maxRecDepth 100000 in
set_option maxHeartbeats 2000000 in
theorem psame_any (x y : Vtx) (vp vh up uh : Value) (w : World) (hx : VRd w vp vh x) (hy : VRd w up uh y) :
   Calls Tryz.prog 42 #[vtxV x vp vh, vtxV y up uh] w fun e w' => e = .returned (.bool (sameB x y)) ∧ Mod (fun _ => False) w w' := by
 have HX := Lib.hid hx
 have HY := Lib.hid hy
 obtain ⟨ap, cp, e1, -⟩ := hx.props.shape
 obtain ⟨ah, ch, e2, -⟩ := hx.halves.shape
 obtain ⟨ap', cp', e3, -⟩ := hy.props.shape
 obtain ⟨ah', ch', e4, -⟩ := hy.halves.shape
 subst e1 e2 e3 e4
 obtain ⟨id, th, ps, hs⟩ := x
 obtain ⟨id', th', ps', hs'⟩ := y
 obtain ⟨np, hnp⟩ : ∃ n, n = ps.length := ⟨_, rfl⟩
 obtain ⟨nh, hnh⟩ : ∃ n, n = hs.length := ⟨_, rfl⟩
 obtain ⟨np', hnp'⟩ : ∃ n, n = ps'.length := ⟨_, rfl⟩
 obtain ⟨nh', hnh'⟩ : ∃ n, n = hs'.length := ⟨_, rfl⟩
 have HP : Hid (∀ w', Mod (fun _ => False) w w' → Calls Tryz.prog 69 #[.slice ap np cp, .slice ap' np' cp'] w' fun e w'' => e = .returned (.bool (decide (ps = ps'))) ∧ Mod (fun _ => False) w' w'') := Lib.hid (fun w' m => eqprops_any _ _ ps ps' w' (by have h := (HX.out.keep m).props; simp only [← hnp] at h ⊢; exact h) (by have h := (HY.out.keep m).props; simp only [← hnp'] at h ⊢; exact h))
 have HH : Hid (∀ w', Mod (fun _ => False) w w' → Calls Tryz.prog 70 #[.slice ah nh ch, .slice ah' nh' ch'] w' fun e w'' => e = .returned (.bool (decide (hs = hs'))) ∧ Mod (fun _ => False) w' w'') := Lib.hid (fun w' m => eqhalves_any _ _ hs hs' w' (by have h := (HX.out.keep m).halves; simp only [← hnh] at h ⊢; exact h) (by have h := (HY.out.keep m).halves; simp only [← hnh'] at h ⊢; exact h))
 have HS : Hid (sameB ⟨id, th, ps, hs⟩ ⟨id', th', ps', hs'⟩ = (decide (th = th') && (decide (ps = ps') && decide (hs = hs')))) := Lib.hid rfl
 simp only [vtxV, ← hnp, ← hnh, ← hnp', ← hnh']
 clear hx hy hnp hnh hnp' hnh' HX HY
 generalize decide (ps = ps') = bp at HP HS
 generalize decide (hs = hs') = bh at HH HS
 generalize sameB ⟨id, th, ps, hs⟩ ⟨id', th', ps', hs'⟩ = bs at HS ⊢
 go_enter Tryz.func42, Tryz.ntmps42
 cases th <;> cases th' <;> cases bp <;> cases bh
 all_goals
   go_wp2_with (first
     | (go_at_call 70; refine (HH.out _ HM1.out).mono ?_; (rintro e w2 ⟨rfl, hm2⟩); have HM2 := Lib.hid (HM1.out.trans hm2); clear hm2)
     | (go_at_call 69; refine (HP.out _ (((Mod.refl _ _).alloc _).alloc _)).mono ?_; (rintro e w1 ⟨rfl, hm1⟩); have HM1 : Hid (Mod (fun _ => False) w w1) := Lib.hid ((((Mod.refl _ _).alloc _).alloc _).trans hm1); have b0 := hm1.heap (heap_alloc_old (heap_alloc_new' w _)) (fun f => f); have b1 := hm1.heap (heap_second2 _ _ _) (fun f => f); have c3 := cell_of_row b0 3; have d3 := cell_of_row b1 3; have zb := lt_of_block b0; have zd := lt_of_block b1; simp at c3 d3; clear hm1 b0 b1))
   go_ret
   refine ⟨by rw [HS.out]; rfl, ?_⟩
   first
     | exact HM2.out
     | exact HM1.out
     | exact ((Mod.refl _ _).alloc _).alloc _
open Go.RowKit Go.Maps
set_option maxRecDepth 100000 in
set_option maxHeartbeats 4000000 in
theorem run_none (g bm : Nat) (ns : List Node) (kind a b key vk : Nat) (vn : Int) (vs : ByteArray) (pos : Int) (w : World) (hp : PG w g bm ns) (hL : Fair (ns.map Node.x)) (ho : Opr.Fits ⟨kind, a, b, key, ⟨vk, vn, vs⟩⟩) (hk : kind ≠ 1) (hf : findN ns a = none) :
   Calls Tryz.prog 56 #[.pointer (some ⟨g, 0, none⟩), .int .i64 pos, .agg #[.int .u8 (kind : Int), .int .u32 (a : Int), .int .u32 (b : Int), .int .u8 (key : Int), .int .u8 (vk : Int), .int .i64 vn, .string vs]] w (RunP g bm ns ⟨kind, a, b, key, ⟨vk, vn, vs⟩⟩ pos w) := by
 have HONE : Hid (oneG (ns.map Node.x) ⟨kind, a, b, key, ⟨vk, vn, vs⟩⟩ = ⟨6, ns.map Node.x, []⟩) := Lib.hid (by unfold oneG; rw [if_neg hk, findN_map, hf]; rfl)
 have HP := Lib.hid hp
 have HL := Lib.hid hL
 have HO := Lib.hid ho
 have g0 := cell_of_row hp.cell 0
 have zg := lt_of_block hp.cell
 have zg1 : g < w.heap.size + 1 := by omega
 have zg2 : g < w.heap.size + 1 + 1 := by omega
 have zg3 : g < w.heap.size + 1 + 1 + 1 := by omega
 simp at g0
 have m1 : Mod (fun _ => False) w (w.alloc (.cells #[.int .u8 (kind : Int), .int .u32 (a : Int), .int .u32 (b : Int), .int .u8 (key : Int), .int .u8 (vk : Int), .int .i64 vn, .string vs] 82)).drew := ((Mod.refl _ _).alloc _).drew
 have HM1 := Lib.hid m1
 have la := hp.nm.look m1 ho.a
 have lb := hp.nm.look m1 ho.b
 have k1 : ((kind : Int) == 1) = false := by simp; omega
 rw [hf] at la
 simp only [ptrN] at la
 generalize ptrN (findN ns b) = pb at lb
 clear hp hL ho hk hf m1
 go_enter Tryz.func56, Tryz.ntmps56
 go_wp2_with fail
 go_region
 go_wp2_with (go_at_call 83; refine (refusal_any 6 pos _ _ (by rfl)).mono ?_; (rintro e w9 ⟨rfl, rfl⟩))
 go_ret2
 exact RunP.no HONE.out (by omega) (RunNO.made HM1.out (by simp))
set_option maxRecDepth 100000 in
set_option maxHeartbeats 4000000 in
theorem run_1a (g bm : Nat) (ns : List Node) (a b key vk : Nat) (vn : Int) (vs : ByteArray) (pos : Int) (w : World) (hp : PG w g bm ns) (hL : Fair (ns.map Node.x)) (ho : Opr.Fits ⟨1, a, b, key, ⟨vk, vn, vs⟩⟩) (n : Node) (hf : findN ns a = some n) :
   Calls Tryz.prog 56 #[.pointer (some ⟨g, 0, none⟩), .int .i64 pos, .agg #[.int .u8 1, .int .u32 (a : Int), .int .u32 (b : Int), .int .u8 (key : Int), .int .u8 (vk : Int), .int .i64 vn, .string vs]] w (RunP g bm ns ⟨1, a, b, key, ⟨vk, vn, vs⟩⟩ pos w) := by
 have HONE : Hid (oneG (ns.map Node.x) ⟨1, a, b, key, ⟨vk, vn, vs⟩⟩ = ⟨7, ns.map Node.x, []⟩) := Lib.hid (by unfold oneG; rw [if_pos rfl, findN_map, hf]; rfl)
 have HP := Lib.hid hp
 have HL := Lib.hid hL
 have HO := Lib.hid ho
 have g0 := cell_of_row hp.cell 0
 have zg := lt_of_block hp.cell
 have zg1 : g < w.heap.size + 1 := by omega
 have zg2 : g < w.heap.size + 1 + 1 := by omega
 have zg3 : g < w.heap.size + 1 + 1 + 1 := by omega
 simp at g0
 have m1 : Mod (fun _ => False) w (w.alloc (.cells #[.int .u8 1, .int .u32 (a : Int), .int .u32 (b : Int), .int .u8 (key : Int), .int .u8 (vk : Int), .int .i64 vn, .string vs] 82)).drew := ((Mod.refl _ _).alloc _).drew
 have HM1 := Lib.hid m1
 have la := hp.nm.look m1 ho.a
 have lb := hp.nm.look m1 ho.b
 rw [hf] at la
 simp only [ptrN] at la
 generalize ptrN (findN ns b) = pb at lb
 clear hp hL ho hf m1
 go_enter Tryz.func56, Tryz.ntmps56
 go_wp2_with fail
 go_region
 go_wp2_with (go_at_call 83; refine (refusal_any 7 pos _ _ (by rfl)).mono ?_; (rintro e w9 ⟨rfl, rfl⟩))
 go_ret2
 exact RunP.no HONE.out (by omega) (RunNO.made HM1.out (by simp))
set_option maxRecDepth 100000 in
set_option maxHeartbeats 4000000 in
theorem run_1b (g bm : Nat) (ns : List Node) (a b key vk : Nat) (vn : Int) (vs : ByteArray) (pos : Int) (w : World) (hp : PG w g bm ns) (hL : Fair (ns.map Node.x)) (ho : Opr.Fits ⟨1, a, b, key, ⟨vk, vn, vs⟩⟩) (hf : findN ns a = none) :
   Calls Tryz.prog 56 #[.pointer (some ⟨g, 0, none⟩), .int .i64 pos, .agg #[.int .u8 1, .int .u32 (a : Int), .int .u32 (b : Int), .int .u8 (key : Int), .int .u8 (vk : Int), .int .i64 vn, .string vs]] w (RunP g bm ns ⟨1, a, b, key, ⟨vk, vn, vs⟩⟩ pos w) := by
 have HONE : Hid (oneG (ns.map Node.x) ⟨1, a, b, key, ⟨vk, vn, vs⟩⟩ = ⟨0, layV ⟨a, true, [], []⟩ (ns.map Node.x), []⟩) := Lib.hid (by unfold oneG; rw [if_pos rfl, findN_map, hf]; rfl)
 have HP := Lib.hid hp
 have HL := Lib.hid hL
 have HO := Lib.hid ho
 have g0 := cell_of_row hp.cell 0
 have zg := lt_of_block hp.cell
 have zg1 : g < w.heap.size + 1 := by omega
 have zg2 : g < w.heap.size + 1 + 1 := by omega
 have zg3 : g < w.heap.size + 1 + 1 + 1 := by omega
 simp at g0
 have m1 : Mod (fun _ => False) w (w.alloc (.cells #[.int .u8 1, .int .u32 (a : Int), .int .u32 (b : Int), .int .u8 (key : Int), .int .u8 (vk : Int), .int .i64 vn, .string vs] 82)).drew := ((Mod.refl _ _).alloc _).drew
 have HM1 := Lib.hid m1
 have la := hp.nm.look m1 ho.a
 have lb := hp.nm.look m1 ho.b
 rw [hf] at la
 simp only [ptrN] at la
 generalize ptrN (findN ns b) = pb at lb
 have hlen : (ns.map Node.f).length < maxLen := by
   have := hL.short
   rw [List.length_map] at this ⊢
   unfold maxLen; omega
 have hbm := hp.lt bm (.inr (.inl rfl))
 have m40 : Mod (fun _ => False) w (((((w.alloc (.cells #[.int .u8 1, .int .u32 (a : Int), .int .u32 (b : Int), .int .u8 (key : Int), .int .u8 (vk : Int), .int .i64 vn, .string vs] 82)).alloc (.map #[] 0)).alloc (.map #[] 0)).alloc (.cells #[.map (some (w.heap.size + 1)), .map (some (w.heap.size + 1 + 1))] 104)).drew.drew) := (((((Mod.refl _ w).alloc _).alloc _).alloc _).alloc _).drew.drew
 have hb10 : (((((w.alloc (.cells #[.int .u8 1, .int .u32 (a : Int), .int .u32 (b : Int), .int .u8 (key : Int), .int .u8 (vk : Int), .int .i64 vn, .string vs] 82)).alloc (.map #[] 0)).alloc (.map #[] 0)).alloc (.cells #[.map (some (w.heap.size + 1)), .map (some (w.heap.size + 1 + 1))] 104)).drew.drew).heap[(w.heap.size + 1)]? = some (.map #[] 0) := heap_alloc_old (heap_alloc_old (by have h := heap_alloc_new' (w.alloc (.cells #[.int .u8 1, .int .u32 (a : Int), .int .u32 (b : Int), .int .u8 (key : Int), .int .u8 (vk : Int), .int .i64 vn, .string vs] 82)) (.map #[] 0); simpa using h))
 have hb20 : (((((w.alloc (.cells #[.int .u8 1, .int .u32 (a : Int), .int .u32 (b : Int), .int .u8 (key : Int), .int .u8 (vk : Int), .int .i64 vn, .string vs] 82)).alloc (.map #[] 0)).alloc (.map #[] 0)).alloc (.cells #[.map (some (w.heap.size + 1)), .map (some (w.heap.size + 1 + 1))] 104)).drew.drew).heap[(w.heap.size + 1 + 1)]? = some (.map #[] 0) := heap_alloc_old (by have h := heap_alloc_new' ((w.alloc (.cells #[.int .u8 1, .int .u32 (a : Int), .int .u32 (b : Int), .int .u8 (key : Int), .int .u8 (vk : Int), .int .i64 vn, .string vs] 82)).alloc (.map #[] 0)) (.map #[] 0); simpa using h)
 have hb30 : (((((w.alloc (.cells #[.int .u8 1, .int .u32 (a : Int), .int .u32 (b : Int), .int .u8 (key : Int), .int .u8 (vk : Int), .int .i64 vn, .string vs] 82)).alloc (.map #[] 0)).alloc (.map #[] 0)).alloc (.cells #[.map (some (w.heap.size + 1)), .map (some (w.heap.size + 1 + 1))] 104)).drew.drew).heap[(w.heap.size + 1 + 1 + 1)]? = some (.cells #[.map (some (w.heap.size + 1)), .map (some (w.heap.size + 1 + 1))] 104 (0, 0)) := by have h := heap_alloc_new' (((w.alloc (.cells #[.int .u8 1, .int .u32 (a : Int), .int .u32 (b : Int), .int .u8 (key : Int), .int .u8 (vk : Int), .int .i64 vn, .string vs] 82)).alloc (.map #[] 0)).alloc (.map #[] 0)) (.cells #[.map (some (w.heap.size + 1)), .map (some (w.heap.size + 1 + 1))] 104); rw [show (((w.alloc (.cells #[.int .u8 1, .int .u32 (a : Int), .int .u32 (b : Int), .int .u8 (key : Int), .int .u8 (vk : Int), .int .i64 vn, .string vs] 82)).alloc (.map #[] 0)).alloc (.map #[] 0)).heap.size = (w.heap.size + 1 + 1 + 1) by simp] at h; exact h
 have hn0 := NAt.made (id := a) ho.a hb30 hb10 hb20
 obtain ⟨w50, hrun0, hU0, hM0⟩ := (hp.nm.map.keep m40).store Tryz.underlying27 Tryz.underlying84 hlen (u32key ho.a) (.pointer (some ⟨(w.heap.size + 1 + 1 + 1), 0, none⟩))
 have HT0 : Hid (Turned g bm ns (layV ⟨a, true, [], []⟩ (ns.map Node.x)) (fun k => k ≠ a) w w50 (layG keyN ⟨⟨a, true, [], []⟩, (w.heap.size + 1 + 1 + 1), (w.heap.size + 1), (w.heap.size + 1 + 1)⟩ false ns)) := Lib.hid (by
   refine Turned.add hp (n := ⟨⟨a, true, [], []⟩, (w.heap.size + 1 + 1 + 1), (w.heap.size + 1), (w.heap.size + 1 + 1)⟩) rfl m40 hM0 hU0 (hn0.mod hM0 (fun x hx e => ?_)) (fun x hx => ?_) ⟨by dsimp only; omega, by dsimp only; omega, by dsimp only; omega⟩
   · simp [Node.blocks] at hx; omega
   · simp [Node.blocks] at hx; omega)
 have g40 := m40.cell g0
 have m41 : Mod (fun _ => False) w (((((w.alloc (.cells #[.int .u8 1, .int .u32 (a : Int), .int .u32 (b : Int), .int .u8 (key : Int), .int .u8 (vk : Int), .int .i64 vn, .string vs] 82)).alloc (.map #[] 0)).alloc (.map #[] 0)).alloc (.cells #[.map (some (w.heap.size + 1 + 1)), .map (some (w.heap.size + 1))] 104)).drew.drew) := (((((Mod.refl _ w).alloc _).alloc _).alloc _).alloc _).drew.drew
 have hb11 : (((((w.alloc (.cells #[.int .u8 1, .int .u32 (a : Int), .int .u32 (b : Int), .int .u8 (key : Int), .int .u8 (vk : Int), .int .i64 vn, .string vs] 82)).alloc (.map #[] 0)).alloc (.map #[] 0)).alloc (.cells #[.map (some (w.heap.size + 1 + 1)), .map (some (w.heap.size + 1))] 104)).drew.drew).heap[(w.heap.size + 1)]? = some (.map #[] 0) := heap_alloc_old (heap_alloc_old (by have h := heap_alloc_new' (w.alloc (.cells #[.int .u8 1, .int .u32 (a : Int), .int .u32 (b : Int), .int .u8 (key : Int), .int .u8 (vk : Int), .int .i64 vn, .string vs] 82)) (.map #[] 0); simpa using h))
 have hb21 : (((((w.alloc (.cells #[.int .u8 1, .int .u32 (a : Int), .int .u32 (b : Int), .int .u8 (key : Int), .int .u8 (vk : Int), .int .i64 vn, .string vs] 82)).alloc (.map #[] 0)).alloc (.map #[] 0)).alloc (.cells #[.map (some (w.heap.size + 1 + 1)), .map (some (w.heap.size + 1))] 104)).drew.drew).heap[(w.heap.size + 1 + 1)]? = some (.map #[] 0) := heap_alloc_old (by have h := heap_alloc_new' ((w.alloc (.cells #[.int .u8 1, .int .u32 (a : Int), .int .u32 (b : Int), .int .u8 (key : Int), .int .u8 (vk : Int), .int .i64 vn, .string vs] 82)).alloc (.map #[] 0)) (.map #[] 0); simpa using h)
 have hb31 : (((((w.alloc (.cells #[.int .u8 1, .int .u32 (a : Int), .int .u32 (b : Int), .int .u8 (key : Int), .int .u8 (vk : Int), .int .i64 vn, .string vs] 82)).alloc (.map #[] 0)).alloc (.map #[] 0)).alloc (.cells #[.map (some (w.heap.size + 1 + 1)), .map (some (w.heap.size + 1))] 104)).drew.drew).heap[(w.heap.size + 1 + 1 + 1)]? = some (.cells #[.map (some (w.heap.size + 1 + 1)), .map (some (w.heap.size + 1))] 104 (0, 0)) := by have h := heap_alloc_new' (((w.alloc (.cells #[.int .u8 1, .int .u32 (a : Int), .int .u32 (b : Int), .int .u8 (key : Int), .int .u8 (vk : Int), .int .i64 vn, .string vs] 82)).alloc (.map #[] 0)).alloc (.map #[] 0)) (.cells #[.map (some (w.heap.size + 1 + 1)), .map (some (w.heap.size + 1))] 104); rw [show (((w.alloc (.cells #[.int .u8 1, .int .u32 (a : Int), .int .u32 (b : Int), .int .u8 (key : Int), .int .u8 (vk : Int), .int .i64 vn, .string vs] 82)).alloc (.map #[] 0)).alloc (.map #[] 0)).heap.size = (w.heap.size + 1 + 1 + 1) by simp] at h; exact h
 have hn1 := NAt.made (id := a) ho.a hb31 hb21 hb11
 obtain ⟨w51, hrun1, hU1, hM1⟩ := (hp.nm.map.keep m41).store Tryz.underlying27 Tryz.underlying84 hlen (u32key ho.a) (.pointer (some ⟨(w.heap.size + 1 + 1 + 1), 0, none⟩))
 have HT1 : Hid (Turned g bm ns (layV ⟨a, true, [], []⟩ (ns.map Node.x)) (fun k => k ≠ a) w w51 (layG keyN ⟨⟨a, true, [], []⟩, (w.heap.size + 1 + 1 + 1), (w.heap.size + 1 + 1), (w.heap.size + 1)⟩ false ns)) := Lib.hid (by
   refine Turned.add hp (n := ⟨⟨a, true, [], []⟩, (w.heap.size + 1 + 1 + 1), (w.heap.size + 1 + 1), (w.heap.size + 1)⟩) rfl m41 hM1 hU1 (hn1.mod hM1 (fun x hx e => ?_)) (fun x hx => ?_) ⟨by dsimp only; omega, by dsimp only; omega, by dsimp only; omega⟩
   · simp [Node.blocks] at hx; omega
   · simp [Node.blocks] at hx; omega)
 have g41 := m41.cell g0
 clear hp hL ho hf m1 hU0 hM0 hn0 m40 hU1 hM1 hn1 m41 hb10 hb20 hb30 hb11 hb21 hb31 hlen
 have hmm := @run_makeMap Tryz.prog
 go_enter Tryz.func56, Tryz.ntmps56
 go_wp2_with fail
 go_region
 go_wp2_with fail
 go_region
 all_goals
   go_wp2_with fail
   go_ret2
   first
     | exact RunP.ok HONE.out ⟨_, _, rfl, ⟨HT0.out.pg, HT0.out.is, HT0.out.mod, HT0.out.new, HT0.out.newM, fun n hn => HT0.out.same n hn.1⟩, RdS.none _ _⟩
     | exact RunP.ok HONE.out ⟨_, _, rfl, ⟨HT1.out.pg, HT1.out.is, HT1.out.mod, HT1.out.new, HT1.out.newM, fun n hn => HT1.out.same n hn.1⟩, RdS.none _ _⟩
end Go.Proofs.YtlpdifinkcjckaaGreatDoor
