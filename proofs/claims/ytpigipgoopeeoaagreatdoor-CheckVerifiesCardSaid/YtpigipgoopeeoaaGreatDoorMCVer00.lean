import Derived.Test.YtpigipgoopeeoaaGreatDoorMCHolCVer04
set_option linter.unusedVariables false
set_option linter.unusedSimpArgs false
namespace Go.Proofs.YtpigipgoopeeoaaGreatDoor
open Go.RowKit
set_option maxRecDepth 100000 in
set_option maxHeartbeats 2000000 in
theorem nsame_any (v u : Value) (l m : List Nat) (w : World) (hv : RdS w 1 v l.length (l.map (keyV .u32))) (hu : RdS w 1 u m.length (m.map (keyV .u32))) :
   Calls Tryz.prog 46 #[v, u] w fun e w' => e = .returned (.bool (decide (l = m))) ∧ Mod (fun _ => False) w w' := by
 have HV := Lib.hid hv
 have HU := Lib.hid hu
 obtain ⟨a, c, rfl, hc1, hc2, -⟩ := hv.shape
 obtain ⟨a', c', rfl, hc1', hc2', -⟩ := hu.shape
 clear hv hu
 obtain ⟨n, hl⟩ : ∃ n, n = l.length := ⟨_, rfl⟩
 obtain ⟨n', hl'⟩ : ∃ n, n = m.length := ⟨_, rfl⟩
 have HN := Lib.hid hl
 have HN' := Lib.hid hl'
 rw [← hl] at HV hc1 ⊢
 rw [← hl'] at HU hc1' ⊢
 clear hl hl'
 by_cases hnn : n = n'
 · subst hnn
   go_enter Tryz.func46, Tryz.ntmps46
   go_wp2
   go_loopw [13] (fun i wr => ∃ k : Nat, i = .int .i64 k ∧ k ≤ n ∧ Mod (fun _ => False) w wr ∧ l.take k = m.take k) (fun i _ => n - (intOf i).toNat)
   case atStart => exact ⟨0, rfl, Nat.zero_le _, Mod.refl _ _, rfl⟩
   case round =>
     obtain ⟨k, rfl, hk, hm, htk⟩ := hrel
     have HM := Lib.hid hm
     have HTK := Lib.hid htk
     clear hm htk
     by_cases hkn : k < n
     · obtain ⟨x, hx⟩ : ∃ x, l[k]? = some x := ⟨_, List.getElem?_eq_getElem (by rw [← HN.out]; exact hkn)⟩
       obtain ⟨y, hy⟩ : ∃ y, m[k]? = some y := ⟨_, List.getElem?_eq_getElem (by rw [← HN'.out]; exact hkn)⟩
       obtain ⟨b, off, rfl, hb, p0⟩ := num_ent HV.out hx rfl
       obtain ⟨b', off', rfl, hb', q0⟩ := num_ent HU.out hy rfl
       have p0 : ∀ x : MW wr, x.w.cell? _ = some _ := fun x => x.cell (HM.out.cell p0)
       have q0 : ∀ x : MW wr, x.w.cell? _ = some _ := fun x => x.cell (HM.out.cell q0)
       by_cases hxy : x = y
       · subst hxy
         have HTS := Lib.hid (takes_eq HTK.out hx hy)
         clear hx hy
         go_wp2_with fail
         refine wp_region_quietM (by kernel_rfl) (by kernel_rfl) ?_
         repeat (go_big_quiet_step (fail))
         refine wpQuiet_nil ?_
         intro w3 hm3
         have M3 : Hid (Mod (fun _ => False) w w3) := Lib.hid (HM.out.trans (MW.mod_of hm3))
         clear hm3 p0 q0
         go_wp2
         go_roundw
         case rel => exact ⟨k + 1, by go_num, by omega, M3.out, HTS.out⟩
         case measure => simp [intOf]; omega
       · have HNE := Lib.hid (at_ne hx hy hxy)
         have f1 : ((x : Int) == (y : Int)) = false := by simp; omega
         clear hx hy hxy
         go_wp2_with fail
         refine wp_region_quietM (by kernel_rfl) (by kernel_rfl) ?_
         repeat (go_big_quiet_step (fail))
         refine wpQuiet_nil ?_
         intro w3 hm3
         have M3 : Hid (Mod (fun _ => False) w w3) := Lib.hid (HM.out.trans (MW.mod_of hm3))
         clear hm3 p0 q0
         go_wp2
         go_ret
         exact ⟨by rw [decide_eq_false HNE.out]; rfl, M3.out⟩
     · have HEQ : Hid (l = m) := Lib.hid (by
         have h := HTK.out
         rwa [List.take_of_length_le (by have := HN.out; omega), List.take_of_length_le (by have := HN'.out; omega)] at h)
       go_wp2
       go_ret
       exact ⟨by rw [decide_eq_true HEQ.out]; rfl, HM.out⟩
 · have HNE : Hid (l ≠ m) := Lib.hid (by rintro rfl; exact hnn (HN.out.trans HN'.out.symm))
   go_enter Tryz.func46, Tryz.ntmps46
   go_wp2
   go_ret
   exact ⟨by rw [decide_eq_false HNE.out]; rfl, Mod.refl _ _⟩
set_option maxRecDepth 100000 in
set_option maxHeartbeats 2000000 in
theorem valsame_any (v u : Value) (l m : List Val) (w : World) (hv : RdS w 3 v l.length (vvcells l)) (hu : RdS w 3 u m.length (vvcells m)) :
   Calls Tryz.prog 45 #[v, u] w fun e w' => e = .returned (.bool (decide (l = m))) ∧ Mod (fun _ => False) w w' := by
 have HV := Lib.hid hv
 have HU := Lib.hid hu
 obtain ⟨a, c, rfl, hc1, hc2, -⟩ := hv.shape
 obtain ⟨a', c', rfl, hc1', hc2', -⟩ := hu.shape
 clear hv hu
 obtain ⟨n, hl⟩ : ∃ n, n = l.length := ⟨_, rfl⟩
 obtain ⟨n', hl'⟩ : ∃ n, n = m.length := ⟨_, rfl⟩
 have HN := Lib.hid hl
 have HN' := Lib.hid hl'
 rw [← hl] at HV hc1 ⊢
 rw [← hl'] at HU hc1' ⊢
 clear hl hl'
 by_cases hnn : n = n'
 · subst hnn
   go_enter Tryz.func45, Tryz.ntmps45
   go_wp2
   go_loopw [13] (fun i wr => ∃ k : Nat, i = .int .i64 k ∧ k ≤ n ∧ Mod (fun _ => False) w wr ∧ l.take k = m.take k) (fun i _ => n - (intOf i).toNat)
   case atStart => exact ⟨0, rfl, Nat.zero_le _, Mod.refl _ _, rfl⟩
   case round =>
     obtain ⟨k, rfl, hk, hm, htk⟩ := hrel
     have HM := Lib.hid hm
     have HTK := Lib.hid htk
     clear hm htk
     by_cases hkn : k < n
     · obtain ⟨x, hx⟩ : ∃ x, l[k]? = some x := ⟨_, List.getElem?_eq_getElem (by rw [← HN.out]; exact hkn)⟩
       obtain ⟨y, hy⟩ : ∃ y, m[k]? = some y := ⟨_, List.getElem?_eq_getElem (by rw [← HN'.out]; exact hkn)⟩
       obtain ⟨b, off, rfl, hb, p0, p1, p2⟩ := val_ent HV.out hx rfl
       obtain ⟨b', off', rfl, hb', q0, q1, q2⟩ := val_ent HU.out hy rfl
       have p0 : ∀ x : MW wr, x.w.cell? _ = some _ := fun x => x.cell (HM.out.cell p0)
       have p1 : ∀ x : MW wr, x.w.cell? _ = some _ := fun x => x.cell (HM.out.cell p1)
       have p2 : ∀ x : MW wr, x.w.cell? _ = some _ := fun x => x.cell (HM.out.cell p2)
       have q0 : ∀ x : MW wr, x.w.cell? _ = some _ := fun x => x.cell (HM.out.cell q0)
       have q1 : ∀ x : MW wr, x.w.cell? _ = some _ := fun x => x.cell (HM.out.cell q1)
       have q2 : ∀ x : MW wr, x.w.cell? _ = some _ := fun x => x.cell (HM.out.cell q2)
       rcases val_cases x y with hxy | ⟨hxy, hcs⟩
       · subst hxy
         have HTS := Lib.hid (takes_eq HTK.out hx hy)
         clear hx hy
         obtain ⟨xk, xn, xs⟩ := x
         simp only at p0 p1 p2 q0 q1 q2
         go_wp2_with fail
         refine wp_region_quietM (by kernel_rfl) (by kernel_rfl) ?_
         repeat (go_big_quiet_step (fail))
         refine wpQuiet_nil ?_
         intro w3 hm3
         have M3 : Hid (Mod (fun _ => False) w w3) := Lib.hid (HM.out.trans (MW.mod_of hm3))
         clear hm3 p0 q0 p1 q1 p2 q2
         go_wp2
         go_roundw
         case rel => exact ⟨k + 1, by go_num, by omega, M3.out, HTS.out⟩
         case measure => simp [intOf]; omega
       · have HNE := Lib.hid (at_ne hx hy hxy)
         clear hx hy hxy
         obtain ⟨xk, xn, xs⟩ := x
         obtain ⟨yk, yn, ys⟩ := y
         simp only at p0 p1 p2 q0 q1 q2 hcs
         rcases hcs with ⟨f1, f2⟩ | ⟨rfl, f1, f2⟩ | ⟨rfl, rfl, f1⟩
         all_goals
           go_wp2_with fail
           refine wp_region_quietM (by kernel_rfl) (by kernel_rfl) ?_
           repeat (go_big_quiet_step (fail))
           refine wpQuiet_nil ?_
           intro w3 hm3
           have M3 : Hid (Mod (fun _ => False) w w3) := Lib.hid (HM.out.trans (MW.mod_of hm3))
           clear hm3 p0 q0 p1 q1 p2 q2
           go_wp2
           go_ret
           exact ⟨by rw [decide_eq_false HNE.out]; rfl, M3.out⟩
     · have HEQ : Hid (l = m) := Lib.hid (by
         have h := HTK.out
         rwa [List.take_of_length_le (by have := HN.out; omega), List.take_of_length_le (by have := HN'.out; omega)] at h)
       go_wp2
       go_ret
       exact ⟨by rw [decide_eq_true HEQ.out]; rfl, HM.out⟩
 · have HNE : Hid (l ≠ m) := Lib.hid (by rintro rfl; exact hnn (HN.out.trans HN'.out.symm))
   go_enter Tryz.func45, Tryz.ntmps45
   go_wp2
   go_ret
   exact ⟨by rw [decide_eq_false HNE.out]; rfl, Mod.refl _ _⟩
set_option maxRecDepth 100000 in
set_option maxHeartbeats 4000000 in
theorem anssame_any (e p e' p' : Int) (vals vals' : List Val) (list list' : List Nat) (vv vl vv' vl' : Value) (w : World) (hv : RdS w 3 vv vals.length (vvcells vals)) (hv' : RdS w 3 vv' vals'.length (vvcells vals')) (hl : RdS w 1 vl list.length (list.map (keyV .u32))) (hl' : RdS w 1 vl' list'.length (list'.map (keyV .u32))) :
   Calls Tryz.prog 19 #[.agg #[.int .i64 e, .int .i64 p, vv, vl], .agg #[.int .i64 e', .int .i64 p', vv', vl']] w fun en w' => en = .returned (.bool (decide (e = e' ∧ p = p' ∧ vals = vals' ∧ list = list'))) ∧ Mod (fun _ => False) w w' := by
 have HVS : Hid (∀ w', Mod (fun _ => False) w w' → Calls Tryz.prog 45 #[vv, vv'] w' fun e w'' => e = .returned (.bool (decide (vals = vals'))) ∧ Mod (fun _ => False) w' w'') := Lib.hid (fun w' m => valsame_any vv vv' vals vals' w' (hv.keep m) (hv'.keep m))
 have HLS : Hid (∀ w', Mod (fun _ => False) w w' → Calls Tryz.prog 46 #[vl, vl'] w' fun e w'' => e = .returned (.bool (decide (list = list'))) ∧ Mod (fun _ => False) w' w'') := Lib.hid (fun w' m => nsame_any vl vl' list list' w' (hl.keep m) (hl'.keep m))
 have HB0 := Lib.hid (AnsB.start w e p vv vl e' p' vv' vl')
 obtain ⟨av, cv, rfl, -⟩ := hv.shape
 obtain ⟨av', cv', rfl, -⟩ := hv'.shape
 obtain ⟨al, cl, rfl, -⟩ := hl.shape
 obtain ⟨al', cl', rfl, -⟩ := hl'.shape
 obtain ⟨nv, hnv⟩ : ∃ n, n = vals.length := ⟨_, rfl⟩
 obtain ⟨nv', hnv'⟩ : ∃ n, n = vals'.length := ⟨_, rfl⟩
 obtain ⟨nl, hnl⟩ : ∃ n, n = list.length := ⟨_, rfl⟩
 obtain ⟨nl', hnl'⟩ : ∃ n, n = list'.length := ⟨_, rfl⟩
 simp only [← hnv, ← hnv', ← hnl, ← hnl'] at HVS HLS HB0 ⊢
 clear hv hv' hl hl' hnv hnv' hnl hnl'
 obtain ⟨bv, hbv⟩ : ∃ b, b = decide (vals = vals') := ⟨_, rfl⟩
 obtain ⟨bl, hbl⟩ : ∃ b, b = decide (list = list') := ⟨_, rfl⟩
 have HR : Hid (decide (e = e' ∧ p = p' ∧ vals = vals' ∧ list = list') = (decide (e = e') && (decide (p = p') && (bv && bl)))) := Lib.hid (by rw [hbv, hbl]; simp only [Bool.decide_and])
 rw [HR.out]
 rw [← hbv] at HVS
 rw [← hbl] at HLS
 clear hbv hbl HR
 by_cases he : e = e'
 · subst he
   by_cases hp : p = p'
   · subst hp
     cases bv with
     | true =>
       cases bl with
       | true =>
         go_enter Tryz.func19, Tryz.ntmps19
         go_wp2_with (first
           | (have hq := HB1.out.mod; go_at_call 46; go_loud (refine (HLS.out _ HB1.out.mod).mono ?_; (rintro en w2 ⟨rfl, hm2⟩); have HB2 := Lib.hid (HB1.out.keep hm2); clear hm2 hq))
           | (go_at_call 45; go_loud (refine (HVS.out _ HB0.out.mod).mono ?_; (rintro en w1 ⟨rfl, hm1⟩); have HB1 := Lib.hid (HB0.out.keep hm1); have b0 := cell_of_row HB1.out.one 0; have b1 := cell_of_row HB1.out.one 1; have b2 := cell_of_row HB1.out.one 2; have b3 := cell_of_row HB1.out.one 3; have d0 := cell_of_row HB1.out.two 0; have d1 := cell_of_row HB1.out.two 1; have d2 := cell_of_row HB1.out.two 2; have d3 := cell_of_row HB1.out.two 3; have z1 := lt_of_block HB1.out.one; have z2 := lt_of_block HB1.out.two; simp at b0 b1 b2 b3 d0 d1 d2 d3; clear hm1)))
         go_ret
         exact ⟨by simp, HB2.out.mod⟩
       | false =>
         go_enter Tryz.func19, Tryz.ntmps19
         go_wp2_with (first
           | (have hq := HB1.out.mod; go_at_call 46; go_loud (refine (HLS.out _ HB1.out.mod).mono ?_; (rintro en w2 ⟨rfl, hm2⟩); have HB2 := Lib.hid (HB1.out.keep hm2); clear hm2 hq))
           | (go_at_call 45; go_loud (refine (HVS.out _ HB0.out.mod).mono ?_; (rintro en w1 ⟨rfl, hm1⟩); have HB1 := Lib.hid (HB0.out.keep hm1); have b0 := cell_of_row HB1.out.one 0; have b1 := cell_of_row HB1.out.one 1; have b2 := cell_of_row HB1.out.one 2; have b3 := cell_of_row HB1.out.one 3; have d0 := cell_of_row HB1.out.two 0; have d1 := cell_of_row HB1.out.two 1; have d2 := cell_of_row HB1.out.two 2; have d3 := cell_of_row HB1.out.two 3; have z1 := lt_of_block HB1.out.one; have z2 := lt_of_block HB1.out.two; simp at b0 b1 b2 b3 d0 d1 d2 d3; clear hm1)))
         go_ret
         exact ⟨by simp, HB2.out.mod⟩
     | false =>
       go_enter Tryz.func19, Tryz.ntmps19
       go_wp2_with (first
         | (go_at_call 45; go_loud (refine (HVS.out _ HB0.out.mod).mono ?_; (rintro en w1 ⟨rfl, hm1⟩); have HB1 := Lib.hid (HB0.out.keep hm1); have b0 := cell_of_row HB1.out.one 0; have b1 := cell_of_row HB1.out.one 1; have b2 := cell_of_row HB1.out.one 2; have b3 := cell_of_row HB1.out.one 3; have d0 := cell_of_row HB1.out.two 0; have d1 := cell_of_row HB1.out.two 1; have d2 := cell_of_row HB1.out.two 2; have d3 := cell_of_row HB1.out.two 3; have z1 := lt_of_block HB1.out.one; have z2 := lt_of_block HB1.out.two; simp at b0 b1 b2 b3 d0 d1 d2 d3; clear hm1)))
       go_ret
       exact ⟨by simp, HB1.out.mod⟩
   · have f1 : (p == p') = false := by simpa using hp
     go_enter Tryz.func19, Tryz.ntmps19
     go_wp2
     go_ret
     exact ⟨by simp [hp], HB0.out.mod⟩
 · have f1 : (e == e') = false := by simpa using he
   go_enter Tryz.func19, Tryz.ntmps19
   go_wp2
   go_ret
   exact ⟨by simp [he], HB0.out.mod⟩
open Go.RowKit
set_option maxRecDepth 100000 in
set_option maxHeartbeats 8000000 in
theorem reqsame_any (r r' : Rqt) (vo vo' : Value) (w : World) (ho : ORd w vo r.ops) (ho' : ORd w vo' r'.ops) :
   Calls Tryz.prog 18 #[rqV r vo, rqV r' vo'] w fun e w' => e = .returned (.bool (decide (r = r'))) ∧ Mod (fun _ => False) w w' := by
 have HO := Lib.hid ho
 have HO' := Lib.hid ho'
 obtain ⟨a, c, rfl, hc1, hc2, -⟩ := ho.row.shape
 obtain ⟨a', c', rfl, hc1', hc2', -⟩ := ho'.row.shape
 obtain ⟨kind, ops, v, k, dd⟩ := r
 obtain ⟨kind', ops', v', k', dd'⟩ := r'
 obtain ⟨n, hn⟩ : ∃ n, n = ops.length := ⟨_, rfl⟩
 obtain ⟨n', hn'⟩ : ∃ n, n = ops'.length := ⟨_, rfl⟩
 have HN := Lib.hid hn
 have HN' := Lib.hid hn'
 simp only [rqV, ← hn, ← hn'] at HO HO' hc1 hc1' ⊢
 have HB0 := Lib.hid (RqB.start w #[.int .u8 (kind : Int), .slice a n c, .int .u32 (v : Int), .int .i64 k, .int .i64 dd] #[.int .u8 (kind' : Int), .slice a' n' c', .int .u32 (v' : Int), .int .i64 k', .int .i64 dd'])
 have HR : Hid (decide ((⟨kind, ops, v, k, dd⟩ : Rqt) = ⟨kind', ops', v', k', dd'⟩) = (decide (kind = kind') && (decide (v = v') && (decide (k = k') && (decide (dd = dd') && decide (ops = ops')))))) := Lib.hid (by
   rw [← Bool.decide_and, ← Bool.decide_and, ← Bool.decide_and, ← Bool.decide_and]
   congr 1
   simp only [Rqt.mk.injEq, eq_iff_iff]
   constructor <;> (intro h; simp_all))
 rw [HR.out]
 clear HR hn hn' ho ho'
 by_cases h1 : kind = kind'
 · subst h1
   by_cases h2 : v = v'
   · subst h2
     by_cases h3 : k = k'
     · subst h3
       by_cases h4 : dd = dd'
       · subst h4
         by_cases h5 : n = n'
         · subst h5
           go_enter Tryz.func18, Tryz.ntmps18
           go_wp2
           go_loopw [44] (fun i wr => ∃ j : Nat, i = .int .i64 (j : Int) ∧ j ≤ n ∧ RqB w #[.int .u8 (kind : Int), .slice a n c, .int .u32 (v : Int), .int .i64 k, .int .i64 dd] #[.int .u8 (kind : Int), .slice a' n c', .int .u32 (v : Int), .int .i64 k, .int .i64 dd] wr ∧ ops.take j = ops'.take j) (fun i _ => n - (intOf i).toNat)
           case atStart => exact ⟨0, rfl, Nat.zero_le _, HB0.out, rfl⟩
           case round =>
             obtain ⟨j, rfl, hj, hm, htk⟩ := hrel
             have HM := Lib.hid hm
             have HTK := Lib.hid htk
             clear hm HB0 htk
             by_cases hjn : j < n
             · obtain ⟨x, hx⟩ : ∃ x, ops[j]? = some x := ⟨_, List.getElem?_eq_getElem (by rw [← HN.out]; exact hjn)⟩
               obtain ⟨y, hy⟩ : ∃ y, ops'[j]? = some y := ⟨_, List.getElem?_eq_getElem (by rw [← HN'.out]; exact hjn)⟩
               obtain ⟨b, off, e1, hb, p0, p1, p2, p3, p4, p5, p6⟩ := HO.out.ent hx rfl
               obtain ⟨b', off', e2, hb', q0, q1, q2, q3, q4, q5, q6⟩ := HO'.out.ent hy rfl
               have d0 := cell_of_row HM.out.one 1
               have d1 := cell_of_row HM.out.two 1
               simp at d0 d1
               subst e1 e2
               have p0 : ∀ x : MW wr, x.w.cell? _ = some _ := fun x => x.cell (HM.out.mod.cell p0)
               have p1 : ∀ x : MW wr, x.w.cell? _ = some _ := fun x => x.cell (HM.out.mod.cell p1)
               have p2 : ∀ x : MW wr, x.w.cell? _ = some _ := fun x => x.cell (HM.out.mod.cell p2)
               have p3 : ∀ x : MW wr, x.w.cell? _ = some _ := fun x => x.cell (HM.out.mod.cell p3)
               have p4 : ∀ x : MW wr, x.w.cell? _ = some _ := fun x => x.cell (HM.out.mod.cell p4)
               have p5 : ∀ x : MW wr, x.w.cell? _ = some _ := fun x => x.cell (HM.out.mod.cell p5)
               have p6 : ∀ x : MW wr, x.w.cell? _ = some _ := fun x => x.cell (HM.out.mod.cell p6)
               have q0 : ∀ x : MW wr, x.w.cell? _ = some _ := fun x => x.cell (HM.out.mod.cell q0)
               have q1 : ∀ x : MW wr, x.w.cell? _ = some _ := fun x => x.cell (HM.out.mod.cell q1)
               have q2 : ∀ x : MW wr, x.w.cell? _ = some _ := fun x => x.cell (HM.out.mod.cell q2)
               have q3 : ∀ x : MW wr, x.w.cell? _ = some _ := fun x => x.cell (HM.out.mod.cell q3)
               have q4 : ∀ x : MW wr, x.w.cell? _ = some _ := fun x => x.cell (HM.out.mod.cell q4)
               have q5 : ∀ x : MW wr, x.w.cell? _ = some _ := fun x => x.cell (HM.out.mod.cell q5)
               have q6 : ∀ x : MW wr, x.w.cell? _ = some _ := fun x => x.cell (HM.out.mod.cell q6)
               have d0 : ∀ x : MW wr, x.w.cell? _ = some _ := fun x => x.cell d0
               have d1 : ∀ x : MW wr, x.w.cell? _ = some _ := fun x => x.cell d1
               clear hb hb'
               rcases opr_cases x y with hxy | ⟨hxy, hcs⟩
               · subst hxy
                 have HTS := Lib.hid (takes_eq HTK.out hx hy)
                 clear hx hy
                 obtain ⟨xo, xa, xb, xe, ⟨xk, xn, xs⟩⟩ := x
                 simp only at p0 p1 p2 p3 p4 p5 p6 q0 q1 q2 q3 q4 q5 q6
                 go_wp2_with fail
                 refine wp_region_quietM (by kernel_rfl) (by kernel_rfl) ?_
                 repeat (go_big_quiet_step (fail))
                 refine wpQuiet_nil ?_
                 intro w3 hm3
                 have M3 := Lib.hid (HM.out.keep (MW.mod_of hm3))
                 clear hm3 p0 p1 p2 p3 p4 p5 p6 q0 q1 q2 q3 q4 q5 q6 d0 d1
                 go_wp2
                 go_roundw
                 case rel => exact ⟨j + 1, by go_num, by omega, M3.out, HTS.out⟩
                 case measure => simp [intOf]; omega
               · have HNE := Lib.hid (at_ne hx hy hxy)
                 clear hx hy hxy
                 obtain ⟨xo, xa, xb, xe, ⟨xk, xn, xs⟩⟩ := x
                 obtain ⟨yo, ya, yb, ye, ⟨yk, yn, ys⟩⟩ := y
                 simp only at p0 p1 p2 p3 p4 p5 p6 q0 q1 q2 q3 q4 q5 q6 hcs
                 rcases hcs with ⟨f1, f2⟩ | ⟨rfl, f1, f2⟩ | ⟨rfl, rfl, f1, f2⟩ | ⟨rfl, rfl, rfl, f1, f2⟩ | ⟨rfl, rfl, rfl, rfl, f1, f2⟩ | ⟨rfl, rfl, rfl, rfl, rfl, f1, f2⟩ | ⟨rfl, rfl, rfl, rfl, rfl, rfl, f1⟩
                 all_goals
                   go_wp2_with fail
                   refine wp_region_quietM (by kernel_rfl) (by kernel_rfl) ?_
                   repeat (go_big_quiet_step (fail))
                   refine wpQuiet_nil ?_
                   intro w3 hm3
                   have M3 := Lib.hid (HM.out.keep (MW.mod_of hm3))
                   clear hm3 p0 p1 p2 p3 p4 p5 p6 q0 q1 q2 q3 q4 q5 q6 d0 d1
                   go_wp2
                   go_ret
                   exact ⟨by simp [HNE.out], M3.out.mod⟩
             · have HEQ : Hid (ops = ops') := Lib.hid (by
                 have h := HTK.out
                 rwa [List.take_of_length_le (by have := HN.out; omega), List.take_of_length_le (by have := HN'.out; omega)] at h)
               go_wp2
               go_ret
               exact ⟨by simp [HEQ.out], HM.out.mod⟩
         · have g1 : ((n : Int) == (n' : Int)) = false := by simp; omega
           have g2 : ¬ (n : Int) = (n' : Int) := by omega
           have HNE : Hid (ops ≠ ops') := Lib.hid (by rintro rfl; exact h5 (HN.out.trans HN'.out.symm))
           clear h5
           go_enter Tryz.func18, Tryz.ntmps18
           go_wp2
           go_ret
           exact ⟨by simp [HNE.out], HB0.out.mod⟩
       · have g1 : (dd == dd') = false := by simpa using h4
         have H4 := Lib.hid h4
         go_enter Tryz.func18, Tryz.ntmps18
         go_wp2
         go_ret
         exact ⟨by simp [H4.out], HB0.out.mod⟩
     · have g1 : (k == k') = false := by simpa using h3
       have H3 := Lib.hid h3
       go_enter Tryz.func18, Tryz.ntmps18
       go_wp2
       go_ret
       exact ⟨by simp [H3.out], HB0.out.mod⟩
   · have g1 : ((v : Int) == (v' : Int)) = false := by simp; omega
     have g2 : ¬ (v : Int) = (v' : Int) := by omega
     have H2 := Lib.hid h2
     go_enter Tryz.func18, Tryz.ntmps18
     go_wp2
     go_ret
     exact ⟨by simp [H2.out], HB0.out.mod⟩
 · have g1 : ((kind : Int) == (kind' : Int)) = false := by simp; omega
   have g2 : ¬ (kind : Int) = (kind' : Int) := by omega
   have H1 := Lib.hid h1
   go_enter Tryz.func18, Tryz.ntmps18
   go_wp2
   go_ret
   exact ⟨by simp [H1.out], HB0.out.mod⟩
theorem entX_isSome {l : List Ent} {f : Nat} {v : Val} (h : Rising Ent.key l) : entX l f = some v ↔ (⟨f, v⟩ : Ent) ∈ l := by
 refine ⟨entX_mem, fun hm => ?_⟩
 cases hx : entX l f with
 | none => exact absurd rfl (entX_isNone.1 hx _ hm)
 | some u =>
   have := h.uniq (entX_mem hx) hm rfl
   injection this with _ e
   rw [e]
end Go.Proofs.YtpigipgoopeeoaaGreatDoor
