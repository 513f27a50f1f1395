import Derived.Test.YtlpdifinkcjckaaGreatDoorMFw28
import Derived.LaidLaws
import Derived.LaidHandle
import Derived.Handed
import Derived.RowKit
set_option linter.unusedVariables false
set_option linter.unusedSimpArgs false
namespace Go.Proofs.YtlpdifinkcjckaaGreatDoor
open Go.RowKit
theorem wt_cases (x y : Wt) : x = y ∨ (x ≠ y ∧ ((((x.1 : Int) == (y.1 : Int)) = false ∧ ¬ (x.1 : Int) = (y.1 : Int)) ∨ (x.1 = y.1 ∧ ((x.2 : Int) == (y.2 : Int)) = false ∧ ¬ (x.2 : Int) = (y.2 : Int)))) := by
 have d : ∀ {p q : Nat}, p ≠ q → ((p : Int) == (q : Int)) = false ∧ ¬ (p : Int) = (q : Int) := fun {p q} h => ⟨by simp; omega, by omega⟩
 obtain ⟨a, b⟩ := x
 obtain ⟨a', b'⟩ := y
 simp only
 by_cases h1 : a = a'
 · by_cases h2 : b = b'
   · exact .inl (by rw [h1, h2])
   · exact .inr ⟨fun e => h2 (congrArg Prod.snd e), .inr ⟨h1, d h2⟩⟩
 · exact .inr ⟨fun e => h1 (congrArg Prod.fst e), .inl (d h1)⟩
set_option maxRecDepth 100000 in
set_option maxHeartbeats 2000000 in
theorem wsame_any (v u : Value) (l m : List Wt) (w : World) (hv : WRd w v l) (hu : WRd w u m) :
   Calls Tryz.prog 52 #[v, u] w fun e w' => e = .returned (.bool (decide (l = m))) ∧ Mod (fun _ => False) w w' := by
 obtain ⟨a, c, rfl, hc1, hc2, -⟩ := hv.row.shape
 obtain ⟨a', c', rfl, hc1', hc2', -⟩ := hu.row.shape
 have HV := Lib.hid hv
 have HU := Lib.hid hu
 clear hv hu
 obtain ⟨n, hl⟩ : ∃ n, n = l.length := ⟨_, rfl⟩
 obtain ⟨n', hl'⟩ : ∃ n, n = m.length := ⟨_, rfl⟩
 have HN := Lib.hid hl
 have HN' := Lib.hid hl'
 rw [← hl] at HV hc1 ⊢
 rw [← hl'] at HU hc1' ⊢
 clear hl hl'
 by_cases hnn : n = n'
 · subst hnn
   go_enter Tryz.func52, Tryz.ntmps52
   go_wp2
   go_loopw [13] (fun i wr => ∃ k : Nat, i = .int .i64 k ∧ k ≤ n ∧ Mod (fun _ => False) w wr ∧ l.take k = m.take k) (fun i _ => n - (intOf i).toNat)
   case atStart => exact ⟨0, rfl, Nat.zero_le _, Mod.refl _ _, rfl⟩
   case round =>
     obtain ⟨k, rfl, hk, hm, htk⟩ := hrel
     have HM := Lib.hid hm
     have HTK := Lib.hid htk
     clear hm htk
     by_cases hkn : k < n
     · obtain ⟨x, hx⟩ : ∃ x, l[k]? = some x := ⟨_, List.getElem?_eq_getElem (by rw [← HN.out]; exact hkn)⟩
       obtain ⟨y, hy⟩ : ∃ y, m[k]? = some y := ⟨_, List.getElem?_eq_getElem (by rw [← HN'.out]; exact hkn)⟩
       obtain ⟨b, off, rfl, hb, p0, p1⟩ := HV.out.ent hx rfl
       obtain ⟨b', off', rfl, hb', q0, q1⟩ := HU.out.ent hy rfl
       have p0 : ∀ x : MW wr, x.w.cell? _ = some _ := fun x => x.cell (HM.out.cell p0)
       have p1 : ∀ x : MW wr, x.w.cell? _ = some _ := fun x => x.cell (HM.out.cell p1)
       have q0 : ∀ x : MW wr, x.w.cell? _ = some _ := fun x => x.cell (HM.out.cell q0)
       have q1 : ∀ x : MW wr, x.w.cell? _ = some _ := fun x => x.cell (HM.out.cell q1)
       rcases wt_cases x y with hxy | ⟨hxy, hcs⟩
       · subst hxy
         have HTS := Lib.hid (takes_eq HTK.out hx hy)
         clear hx hy
         obtain ⟨xk, xn⟩ := x
         simp only at p0 p1 q0 q1
         go_wp2_with fail
         refine wp_region_quietM (by kernel_rfl) (by kernel_rfl) ?_
         repeat (go_big_quiet_step (fail))
         refine wpQuiet_nil ?_
         intro w3 hm3
         have M3 : Hid (Mod (fun _ => False) w w3) := Lib.hid (HM.out.trans (MW.mod_of hm3))
         clear hm3 p0 q0 p1 q1
         go_wp2
         go_roundw
         case rel => exact ⟨k + 1, by go_num, by omega, M3.out, HTS.out⟩
         case measure => simp [intOf]; omega
       · have HNE := Lib.hid (at_ne hx hy hxy)
         clear hx hy hxy
         obtain ⟨xk, xn⟩ := x
         obtain ⟨yk, yn⟩ := y
         simp only at p0 p1 q0 q1 hcs
         rcases hcs with ⟨f1, f2⟩ | ⟨rfl, f1, f2⟩
         all_goals
           go_wp2_with fail
           refine wp_region_quietM (by kernel_rfl) (by kernel_rfl) ?_
           repeat (go_big_quiet_step (fail))
           refine wpQuiet_nil ?_
           intro w3 hm3
           have M3 : Hid (Mod (fun _ => False) w w3) := Lib.hid (HM.out.trans (MW.mod_of hm3))
           clear hm3 p0 q0 p1 q1
           go_wp2
           go_ret
           exact ⟨by rw [decide_eq_false HNE.out]; rfl, M3.out⟩
     · have HEQ : Hid (l = m) := Lib.hid (by
         have h := HTK.out
         rwa [List.take_of_length_le (by have := HN.out; omega), List.take_of_length_le (by have := HN'.out; omega)] at h)
       go_wp2
       go_ret
       exact ⟨by rw [decide_eq_true HEQ.out]; rfl, HM.out⟩
 · have HNE : Hid (l ≠ m) := Lib.hid (by rintro rfl; exact hnn (HN.out.trans HN'.out.symm))
   go_enter Tryz.func52, Tryz.ntmps52
   go_wp2
   go_ret
   exact ⟨by rw [decide_eq_false HNE.out]; rfl, Mod.refl _ _⟩
theorem wsame18_any (v u : Value) (l m : List Wt) (w : World) (hv : WRd w v l) (hu : WRd w u m) :
   Calls Tryz.prog 29 #[v, u] w fun e w' => e = .returned (.bool (decide (l = m))) ∧ Mod (fun _ => False) w w' := by
 have HW := Lib.hid (wsame_any v u l m w hv hu)
 obtain ⟨a, c, rfl, -⟩ := hv.row.shape
 obtain ⟨a', c', rfl, -⟩ := hu.row.shape
 generalize decide (l = m) = b at HW ⊢
 clear hv hu
 go_enter Tryz.func29, Tryz.ntmps29
 go_wp2_with (go_at_call 52; refine HW.out.mono ?_; (rintro e w1 ⟨rfl, hm1⟩); have HM1 := Lib.hid hm1; clear hm1)
 go_ret
 exact ⟨rfl, HM1.out⟩
open Go.RowKit
def pOps1 : List Opr := [⟨4, 3, 0, 0, noVal⟩, ⟨5, 5, 2, 0, noVal⟩, ⟨3, 3, 0, 0, noVal⟩]
def pOps2 : List Opr := [⟨1, 2, 0, 0, noVal⟩, ⟨5, 1, 2, 0, noVal⟩]
def pV : List Vs := [⟨⟨1, true, [], []⟩, .slice none 0 0, .slice none 0 0⟩]
def pW : List Wt := [(2, 2), (3, 2), (5, 2)]
def pC1 : Array Value := (ocells pOps1).toArray
def pC2 : Array Value := (ocells pOps2).toArray
def pCV : Array Value := (vcells pV).toArray
def pCW : Array Value := (pW.flatMap wtC).toArray
theorem pw1 : wantsR pOps1 = pW := by kernel_rfl
theorem pw2 : checkR (txq pOps1) = 0 := by kernel_rfl
theorem pr1 : planE (pV.map Vs.x) pOps2 = 0 := by kernel_rfl
theorem pr2 : planAns (pV.map Vs.x) pOps2 = ⟨0, 0, [], []⟩ := by kernel_rfl
theorem pr3 : planOut (pV.map Vs.x) pOps2 = [⟨1, true, [], [⟨2, noVal⟩]⟩, ⟨2, true, [], [⟨1, noVal⟩]⟩] := by kernel_rfl
theorem plit_ops (cs : Array Value) (l : List Opr) (w : World) (hc : cs.toList = ocells l) (hs : cs.size = l.length * 7) (h1 : l.length ≤ maxLen) (hf : ∀ o ∈ l, o.Fits) : ORd (w.alloc (.cells cs 82)) (.slice (some ⟨w.heap.size, 0, none⟩) l.length l.length) l := by
 have h := Seg.lit (e := 82) (size := 7) w cs l.length hs h1 (by rw [hc]; exact ocells_ones l)
 rw [hc] at h
 exact ⟨h.rdS, hf⟩
theorem pFits1 : ∀ o ∈ pOps1, o.Fits := by
 intro o ho
 simp only [pOps1, List.mem_cons, List.mem_nil_iff, or_false] at ho
 rcases ho with rfl | rfl | rfl <;> exact ⟨by decide, by decide, by decide, by decide, ⟨by decide, by decide, by decide⟩⟩
theorem pFits2 : ∀ o ∈ pOps2, o.Fits := by
 intro o ho
 simp only [pOps2, List.mem_cons, List.mem_nil_iff, or_false] at ho
 rcases ho with rfl | rfl <;> exact ⟨by decide, by decide, by decide, by decide, ⟨by decide, by decide, by decide⟩⟩
theorem pwant (n0 : Nat) (W : World) (hn : W.heap.size = n0) : Calls Tryz.prog 12 #[.slice (some ⟨n0, 0, none⟩) 3 3] (W.alloc (.cells pC1 82)) fun e w' => ∃ a c, e = .returned (.tuple #[.slice a 3 c, .int .i64 0]) ∧ Mod (fun _ => False) (W.alloc (.cells pC1 82)) w' ∧ WRd w' (.slice a 3 c) pW := by
 subst hn
 have ho := plit_ops pC1 pOps1 W rfl rfl (by decide) pFits1
 refine (wants_any pOps1 _ _ ho).mono ?_
 rintro e w' ⟨v, rfl, h⟩
 rw [pw1] at h
 rw [pw2]
 obtain ⟨a, c, rfl, -⟩ := h.seg.shape
 exact ⟨a, c, rfl, h.mod, h.rd⟩
theorem plit_v (W : World) : LRd (W.alloc (.cells pCV 47)) (.slice (some ⟨W.heap.size, 0, none⟩) 1 1) pV := by
 have h := Seg.lit (e := 47) (size := 4) W pCV 1 rfl (by decide) (by intro u hu; simp [pCV, vcells, pV, Vs.cells] at hu; rcases hu with rfl | rfl | rfl <;> rfl)
 refine ⟨h.rdS, fun s hs => ?_⟩
 simp only [pV, List.mem_singleton] at hs
 subst hs
 exact vrd_empty _ 1 true (by decide)
theorem prun2 (n0 n1 : Nat) (W : World) (hg : ErrT W) (hn : W.heap.size = n0) (hn1 : n0 + 1 = n1) : Calls Tryz.prog 15 #[.slice (some ⟨n0, 0, none⟩) 1 1, .slice (some ⟨n1, 0, none⟩) 2 2] ((W.alloc (.cells pCV 47)).alloc (.cells pC2 82)) fun e w' => ∃ a8 c8 a7 c7 bv ov cv ah ch, e = .returned (.tuple #[.agg #[.int .i64 0, .int .i64 0, .slice a8 0 c8, .slice a7 0 c7], .slice (some ⟨bv, ov, none⟩) 2 cv, .int .i64 0]) ∧ Mod (fun _ => False) ((W.alloc (.cells pCV 47)).alloc (.cells pC2 82)) w' ∧ w'.cell? ⟨bv, ov + 3, none⟩ = some (.slice ah 1 ch) ∧ bv < w'.heap.size ∧ 2 ≤ cv := by
 subst hn
 have hv := (plit_v W).keep ((Mod.refl _ _).alloc (.cells pC2 82))
 have ho := plit_ops pC2 pOps2 (W.alloc (.cells pCV 47)) rfl rfl (by decide) pFits2
 have e1 : (W.alloc (.cells pCV 47)).heap.size = n1 := by rw [← hn1]; simp
 rw [e1] at ho
 refine (prun_any pV _ pOps2 _ _ hv (by decide) ho (hg.keep (((Mod.refl (fun _ => False) _).alloc _).alloc _) (fun f => f))).mono ?_
 rintro e w' ⟨hm, -, hr⟩
 obtain ⟨vv, vl, vc, cs, rfl, h1, h2, h3, h4⟩ := hr pr1
 rw [pr2] at h1 h2 ⊢
 rw [pr3] at h4
 obtain ⟨a8, c8, rfl, -⟩ := h1.shape
 obtain ⟨a7, c7, rfl, -⟩ := h2.shape
 obtain ⟨s0, s1, rfl⟩ : ∃ s0 s1, cs = [s0, s1] := by
   have hl := congrArg List.length h4
   simp at hl
   match cs, hl with
   | [s0, s1], _ => exact ⟨s0, s1, rfl⟩
 simp only [List.map_cons, List.map_nil] at h4
 injection h4 with e0 h4
 obtain ⟨av, cv, rfl, hcv, -⟩ := h3.row.shape
 obtain ⟨b, off, rfl, hb, -, -, -, q3⟩ := h3.ent (i := 0) rfl rfl
 have hvr := (h3.each s0 (by simp)).halves
 rw [e0] at hvr
 obtain ⟨ah, ch, hvh, -⟩ := hvr.shape
 rw [hvh] at q3
 exact ⟨a8, c8, a7, c7, b, off, cv, ah, ch, rfl, hm, by simpa using q3, hb, hcv⟩
theorem plit_w (W : World) (n0 : Nat) (hn : W.heap.size = n0) : WRd (W.alloc (.cells pCW 43)) (.slice (some ⟨n0, 0, none⟩) 3 3) pW := by
 subst hn
 have h := Seg.lit (e := 43) (size := 2) W pCW 3 rfl (by decide) (by intro u hu; simp [pCW, wtC, pW] at hu; rcases hu with rfl | rfl | rfl | rfl | rfl | rfl <;> rfl)
 exact ⟨h.rdS, by intro x hx; simp [pW] at hx; rcases hx with rfl | rfl | rfl <;> decide⟩
set_option maxRecDepth 100000 in
set_option maxHeartbeats 8000000 in
theorem pawake_any (w : World) (hg : ErrT w) : Calls Tryz.prog 8 #[] w fun e w' => e = .returned (.bool true) ∧ Mod (fun _ => False) w w' := by
 have HE := Lib.hid hg
 clear hg
 go_enter Tryz.func8, Tryz.ntmps8
 go_wp2_with (first
   | (go_at_call 29; go_loud (refine (wsame18_any _ _ pW pW _ (HWR.out.keep (HM2.out.trans (((Mod.refl _ _).alloc _).alloc _))) (plit_w _ _ (by simp))).mono ?_; (rintro e w3 ⟨rfl, hm3⟩); have HM3 := Lib.hid (HMA.out.trans hm3); have hn3 := hm3.heap (heap_alloc_old (heap_alloc_new' w2 (.cells #[.int .i64 0, .int .i64 0, .slice a8 0 c8, .slice a7 0 c7] 34))) (fun f => f); have c0 := cell_of_row hn3 0; have zc := lt_of_block hn3; replace q3 := ((((Mod.refl (fun _ => False) w2).alloc _).alloc _).trans hm3).cell q3; (have zb : bv < w3.heap.size := Nat.lt_of_lt_of_le zb ((((Mod.refl (fun _ => False) w2).alloc _).alloc _).trans hm3).size); simp at c0; clear hm3 hn3))
   | (go_at_call 15; go_loud (refine (prun2 w1.heap.size (w1.heap.size + 1) w1 (HE.out.keep HM1.out (fun f => f)) rfl rfl).mono ?_; (rintro e w2 ⟨a8, c8, a7, c7, bv, ov, cv, ah, ch, rfl, hm2, q3, zb, hcv⟩); (have HM2 : Hid (Mod (fun _ => False) w1 w2) := Lib.hid ((((Mod.refl _ _).alloc _).alloc _).trans hm2)); (have HMA : Hid (Mod (fun _ => False) w ((w2.alloc (.cells #[.int .i64 0, .int .i64 0, .slice a8 0 c8, .slice a7 0 c7] 34)).alloc (.cells pCW 43))) := Lib.hid (((HM1.out.trans HM2.out).alloc _).alloc _)); clear hm2))
   | (go_at_call 12; go_loud (refine (pwant w.heap.size w rfl).mono ?_; (rintro e w1 ⟨a1, c1, rfl, hm1, hwr⟩); (have HM1 : Hid (Mod (fun _ => False) w w1) := Lib.hid (((Mod.refl _ _).alloc _).trans hm1)); have HWR := Lib.hid hwr; clear hm1 hwr)))
 go_ret
 exact ⟨rfl, HM3.out⟩
open Go.RowKit Go.Maps
theorem LRd.less {w : World} {aa : Option Addr} {n ca q : Nat} {l : List Vs} (h : LRd w (.slice aa n ca) l) (hn : n = l.length) (hq : q ≤ n) : LRd w (.slice aa q ca) (l.take q) := by
 have hr := h.row
 rw [← hn] at hr
 obtain ⟨a, c, e, h1, h2, h3⟩ := hr.shape
 injection e with e1 e2 e3
 subst e1 e3
 have hl : (l.take q).length = q := by rw [List.length_take]; omega
 refine ⟨⟨?_, ?_, fun a' c' e j u hu => ?_⟩, fun s hs => h.each s (List.mem_of_mem_take hs)⟩
 · rw [← vcells_take, List.length_take, hr.len, hl]; omega
 · exact ⟨_, _, by rw [hl], by omega, h2, h3⟩
 · injection e with e1 e2 e3
   subst e1 e3
   rw [← vcells_take, List.getElem?_take] at hu
   split at hu
   · exact hr.cell _ _ rfl j u hu
   · simp at hu
open Go.RowKit
theorem laid_et : Tryz.prog.globalNamed "errors.errorType" = some 0 := by kernel_rfl
theorem laid_rt : (Tryz.prog.cutTypes.find? (·.1 == "internal/reflectlite.rtype")).map (·.2) = some 216 := by kernel_rfl
theorem laid_row : ((List.range Tryz.prog.types.size).filter fun t => Tryz.prog.rowNamed t [101, 114, 114, 111, 114]) = [130] := by kernel_rfl
theorem errT_of_laid {W : World} (h : laidMetH Tryz.prog [("errors.errorType", Rows.laid_errors_errorType)] W) : ErrT W := by
 have h' : laidMet Tryz.prog [] W ∧ handlesMet Tryz.prog [("errors.errorType", Rows.laid_errors_errorType)] W := h
 obtain ⟨name, u, ty, e1, e2, e3, e4, e5⟩ := h'.2 _ (List.mem_singleton.2 rfl)
 have en : name = [101, 114, 114, 111, 114] := (Option.some.inj e1).symm
 subst en
 obtain rfl := Option.some.inj (laid_rt.symm.trans e2)
 have hm : ty ∈ (List.range Tryz.prog.types.size).filter fun t => Tryz.prog.rowNamed t [101, 114, 114, 111, 114] := List.mem_filter.2 ⟨List.mem_range.2 e3, e4⟩
 rw [laid_row] at hm
 obtain rfl := List.mem_singleton.1 hm
 have hh : typeHandle Tryz.prog 130 = .pointer (some ⟨1, 130, none⟩) := by kernel_rfl
 rw [hh] at e5
 have h0 := World.var?_cell laid_et e5 0
 unfold ErrT
 simpa using h0
noncomputable def laidWorld (os : Os) : World :=
 let w0 := World.holding Tryz.prog os ⟨#[], #[], []⟩
 { w0 with heap := w0.heap.modify 0 fun
     | .cells _ t frozen => .cells #[.iface 216 (.agg #[.pointer (some ⟨1, 130, none⟩)])] t frozen
     | o => o }
end Go.Proofs.YtlpdifinkcjckaaGreatDoor
