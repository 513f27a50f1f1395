import Derived.Test.YtlpdifinkcjckaaGreatDoorMEn33
set_option linter.unusedVariables false
set_option linter.unusedSimpArgs false
namespace Go.Proofs.YtlpdifinkcjckaaGreatDoor
open Go.RowKit
def pOps1 : List Opr := [⟨4, 3, 0, 0, noVal⟩, ⟨5, 5, 2, 0, noVal⟩, ⟨3, 3, 0, 0, noVal⟩]
def pOps2 : List Opr := [⟨1, 2, 0, 0, noVal⟩, ⟨5, 1, 2, 0, noVal⟩]
def pV : List Vs := [⟨⟨1, true, [], []⟩, .slice none 0 0, .slice none 0 0⟩]
def pW : List Wt := [(2, 2), (3, 2), (5, 2)]
def pC1 : Array Value := (ocells pOps1).toArray
def pC2 : Array Value := (ocells pOps2).toArray
def pCV : Array Value := (vcells pV).toArray
def pCW : Array Value := (pW.flatMap wtC).toArray
theorem pw1 : wantsR pOps1 = pW := by kernel_rfl
theorem pw2 : checkR (txq pOps1) = 0 := by kernel_rfl
theorem pr1 : planE (pV.map Vs.x) pOps2 = 0 := by kernel_rfl
theorem pr2 : planAns (pV.map Vs.x) pOps2 = ⟨0, 0, [], []⟩ := by kernel_rfl
theorem pr3 : planOut (pV.map Vs.x) pOps2 = [⟨1, true, [], [⟨2, noVal⟩]⟩, ⟨2, true, [], [⟨1, noVal⟩]⟩] := by kernel_rfl
theorem plit_ops (cs : Array Value) (l : List Opr) (w : World) (hc : cs.toList = ocells l) (hs : cs.size = l.length * 7) (h1 : l.length ≤ maxLen) (hf : ∀ o ∈ l, o.Fits) : ORd (w.alloc (.cells cs 82)) (.slice (some ⟨w.heap.size, 0, none⟩) l.length l.length) l := by
 have h := Seg.lit (e := 82) (size := 7) w cs l.length hs h1 (by rw [hc]; exact ocells_ones l)
 rw [hc] at h
 exact ⟨h.rdS, hf⟩
theorem pFits1 : ∀ o ∈ pOps1, o.Fits := by
 intro o ho
 simp only [pOps1, List.mem_cons, List.mem_nil_iff, or_false] at ho
 rcases ho with rfl | rfl | rfl <;> exact ⟨by decide, by decide, by decide, by decide, ⟨by decide, by decide, by decide⟩⟩
theorem pFits2 : ∀ o ∈ pOps2, o.Fits := by
 intro o ho
 simp only [pOps2, List.mem_cons, List.mem_nil_iff, or_false] at ho
 rcases ho with rfl | rfl <;> exact ⟨by decide, by decide, by decide, by decide, ⟨by decide, by decide, by decide⟩⟩
theorem pwant (n0 : Nat) (W : World) (hn : W.heap.size = n0) : Calls Tryz.prog 12 #[.slice (some ⟨n0, 0, none⟩) 3 3] (W.alloc (.cells pC1 82)) fun e w' => ∃ a c, e = .returned (.tuple #[.slice a 3 c, .int .i64 0]) ∧ Mod (fun _ => False) (W.alloc (.cells pC1 82)) w' ∧ WRd w' (.slice a 3 c) pW := by
 subst hn
 have ho := plit_ops pC1 pOps1 W rfl rfl (by decide) pFits1
 refine (wants_any pOps1 _ _ ho).mono ?_
 rintro e w' ⟨v, rfl, h⟩
 rw [pw1] at h
 rw [pw2]
 obtain ⟨a, c, rfl, -⟩ := h.seg.shape
 exact ⟨a, c, rfl, h.mod, h.rd⟩
theorem plit_v (W : World) : LRd (W.alloc (.cells pCV 47)) (.slice (some ⟨W.heap.size, 0, none⟩) 1 1) pV := by
 have h := Seg.lit (e := 47) (size := 4) W pCV 1 rfl (by decide) (by intro u hu; simp [pCV, vcells, pV, Vs.cells] at hu; rcases hu with rfl | rfl | rfl <;> rfl)
 refine ⟨h.rdS, fun s hs => ?_⟩
 simp only [pV, List.mem_singleton] at hs
 subst hs
 exact vrd_empty _ 1 true (by decide)
theorem prun2 (n0 n1 : Nat) (W : World) (hg : ErrT W) (hn : W.heap.size = n0) (hn1 : n0 + 1 = n1) : Calls Tryz.prog 15 #[.slice (some ⟨n0, 0, none⟩) 1 1, .slice (some ⟨n1, 0, none⟩) 2 2] ((W.alloc (.cells pCV 47)).alloc (.cells pC2 82)) fun e w' => ∃ a8 c8 a7 c7 bv ov cv ah ch, e = .returned (.tuple #[.agg #[.int .i64 0, .int .i64 0, .slice a8 0 c8, .slice a7 0 c7], .slice (some ⟨bv, ov, none⟩) 2 cv, .int .i64 0]) ∧ Mod (fun _ => False) ((W.alloc (.cells pCV 47)).alloc (.cells pC2 82)) w' ∧ w'.cell? ⟨bv, ov + 3, none⟩ = some (.slice ah 1 ch) ∧ bv < w'.heap.size ∧ 2 ≤ cv := by
 subst hn
 have hv := (plit_v W).keep ((Mod.refl _ _).alloc (.cells pC2 82))
 have ho := plit_ops pC2 pOps2 (W.alloc (.cells pCV 47)) rfl rfl (by decide) pFits2
 have e1 : (W.alloc (.cells pCV 47)).heap.size = n1 := by rw [← hn1]; simp
 rw [e1] at ho
 refine (prun_any pV _ pOps2 _ _ hv (by decide) ho (hg.keep (((Mod.refl (fun _ => False) _).alloc _).alloc _) (fun f => f))).mono ?_
 rintro e w' ⟨hm, -, hr⟩
 obtain ⟨vv, vl, vc, cs, rfl, h1, h2, h3, h4⟩ := hr pr1
 rw [pr2] at h1 h2 ⊢
 rw [pr3] at h4
 obtain ⟨a8, c8, rfl, -⟩ := h1.shape
 obtain ⟨a7, c7, rfl, -⟩ := h2.shape
 obtain ⟨s0, s1, rfl⟩ : ∃ s0 s1, cs = [s0, s1] := by
   have hl := congrArg List.length h4
   simp at hl
   match cs, hl with
   | [s0, s1], _ => exact ⟨s0, s1, rfl⟩
 simp only [List.map_cons, List.map_nil] at h4
 injection h4 with e0 h4
 obtain ⟨av, cv, rfl, hcv, -⟩ := h3.row.shape
 obtain ⟨b, off, rfl, hb, -, -, -, q3⟩ := h3.ent (i := 0) rfl rfl
 have hvr := (h3.each s0 (by simp)).halves
 rw [e0] at hvr
 obtain ⟨ah, ch, hvh, -⟩ := hvr.shape
 rw [hvh] at q3
 exact ⟨a8, c8, a7, c7, b, off, cv, ah, ch, rfl, hm, by simpa using q3, hb, hcv⟩
theorem plit_w (W : World) (n0 : Nat) (hn : W.heap.size = n0) : WRd (W.alloc (.cells pCW 43)) (.slice (some ⟨n0, 0, none⟩) 3 3) pW := by
 subst hn
 have h := Seg.lit (e := 43) (size := 2) W pCW 3 rfl (by decide) (by intro u hu; simp [pCW, wtC, pW] at hu; rcases hu with rfl | rfl | rfl | rfl | rfl | rfl <;> rfl)
 exact ⟨h.rdS, by intro x hx; simp [pW] at hx; rcases hx with rfl | rfl | rfl <;> decide⟩
set_option maxRecDepth 100000 in
set_option maxHeartbeats 8000000 in
theorem pawake_any (w : World) (hg : ErrT w) : Calls Tryz.prog 8 #[] w fun e w' => e = .returned (.bool true) ∧ Mod (fun _ => False) w w' := by
 have HE := Lib.hid hg
 clear hg
 go_enter Tryz.func8, Tryz.ntmps8
 go_wp2_with (first
   | (go_at_call 29; go_loud (refine (wsame18_any _ _ pW pW _ (HWR.out.keep (HM2.out.trans (((Mod.refl _ _).alloc _).alloc _))) (plit_w _ _ (by simp))).mono ?_; (rintro e w3 ⟨rfl, hm3⟩); have HM3 := Lib.hid (HMA.out.trans hm3); have hn3 := hm3.heap (heap_alloc_old (heap_alloc_new' w2 (.cells #[.int .i64 0, .int .i64 0, .slice a8 0 c8, .slice a7 0 c7] 34))) (fun f => f); have c0 := cell_of_row hn3 0; have zc := lt_of_block hn3; replace q3 := ((((Mod.refl (fun _ => False) w2).alloc _).alloc _).trans hm3).cell q3; (have zb : bv < w3.heap.size := Nat.lt_of_lt_of_le zb ((((Mod.refl (fun _ => False) w2).alloc _).alloc _).trans hm3).size); simp at c0; clear hm3 hn3))
   | (go_at_call 15; go_loud (refine (prun2 w1.heap.size (w1.heap.size + 1) w1 (HE.out.keep HM1.out (fun f => f)) rfl rfl).mono ?_; (rintro e w2 ⟨a8, c8, a7, c7, bv, ov, cv, ah, ch, rfl, hm2, q3, zb, hcv⟩); (have HM2 : Hid (Mod (fun _ => False) w1 w2) := Lib.hid ((((Mod.refl _ _).alloc _).alloc _).trans hm2)); (have HMA : Hid (Mod (fun _ => False) w ((w2.alloc (.cells #[.int .i64 0, .int .i64 0, .slice a8 0 c8, .slice a7 0 c7] 34)).alloc (.cells pCW 43))) := Lib.hid (((HM1.out.trans HM2.out).alloc _).alloc _)); clear hm2))
   | (go_at_call 12; go_loud (refine (pwant w.heap.size w rfl).mono ?_; (rintro e w1 ⟨a1, c1, rfl, hm1, hwr⟩); (have HM1 : Hid (Mod (fun _ => False) w w1) := Lib.hid (((Mod.refl _ _).alloc _).trans hm1)); have HWR := Lib.hid hwr; clear hm1 hwr)))
 go_ret
 exact ⟨rfl, HM3.out⟩
open Go.RowKit
theorem emptyN (w : World) (t : TypeId) (size : Nat) : Seg (w.alloc (.cells #[] t)) t size (.slice (some ⟨w.heap.size, 0, none⟩) 0 0) 0 [] := ⟨by simp, by simp, .inr ⟨_, 0, 0, #[], rfl, heap_alloc_new' w _, Nat.le_refl _, Nat.zero_le _, by simp, by simp⟩⟩
set_option maxRecDepth 100000 in
set_option maxHeartbeats 2000000 in
theorem opsc_any (n : Nat) (v : Value) (us : List Value) (w : World) (hv : RdS w 7 v n us) (h1 : ∀ u ∈ us, u.oneCell' = true) (hn : n * 48 ≤ 140737488355328) :
   Calls Tryz.prog 13 #[v] w fun e w' => ∃ a c, e = .returned (.slice a n c) ∧ Mod (fun _ => False) w w' ∧ Seg w' 82 7 (.slice a n c) n us ∧ ∀ b, (Value.slice a n c).ownBlock = some b → w.heap.size ≤ b := by
 have HR := Lib.hid hv
 have H1 := Lib.hid h1
 obtain ⟨a, c, rfl, -⟩ := hv.shape
 have HB := Lib.hid hn
 obtain ⟨i0, hi, hz0, hz1, hz2⟩ := info_parts infoOp
 have HI : Hid (Tryz.prog.info? 82 = some i0 ∧ i0.zero = some (.agg #[.int .u8 0, .int .u32 0, .int .u32 0, .int .u8 0, .int .u8 0, .int .i64 0, zval]) ∧ i0.size = 7 ∧ i0.bytes = 48) := ⟨hi, hz0, hz1, hz2⟩
 clear hi hz0 hz1 hz2 hv h1 hn
 go_enter Tryz.func13, Tryz.ntmps13
 have HE := Lib.hid (emptyN w 82 7)
 have HR0 := Lib.hid (HR.out.keep ((Mod.refl _ _).alloc (.cells #[] 82)))
 go_wp2_with (at_builtin; go_loud (refine wpList_append_seg rfl (.tmp 3) (.tmp 4) 23 rfl i0 _ 7 48 Tryz.underlying23 HI.out.1 HI.out.2.1 HI.out.2.2.1 HI.out.2.2.2 rfl (by decide) rfl HE.out _ n _ rfl (HR0.out.src H1.out) (by have := HB.out; unfold maxLen; omega) (by have := HB.out; omega) ?_; intro v3 w3 hs3 hg3 ho3; (obtain ⟨hsg, hmd, hown⟩ := fresh_segG rfl hs3 hg3 ho3); (obtain ⟨a3, c3, rfl, -⟩ := hsg.shape); have HS3 := Lib.hid (And.intro hsg (And.intro hmd hown)); clear hs3 hg3 ho3 hsg hmd hown))
 go_ret
 exact ⟨a3, c3, rfl, HS3.out.2.1, HS3.out.1, HS3.out.2.2⟩
theorem ops18_any (ops : List Opr) (vo : Value) (w : World) (ho : ORd w vo ops) (hn : ops.length * 48 ≤ 140737488355328) :
   Calls Tryz.prog 13 #[vo] w fun e w' => ∃ a c, e = .returned (.slice a ops.length c) ∧ Mod (fun _ => False) w w' ∧ ORd w' (.slice a ops.length c) ops :=
 (opsc_any ops.length vo _ w ho.row (ocells_ones _) hn).mono (fun _ _ ⟨a, c, he, hm, hs, _⟩ => ⟨a, c, he, hm, hs.rdS, ho.fits⟩)
open Go.RowKit Go.Maps
def runA (l : List Vtx) (ops : List Opr) : Ans := if planE l ops = 0 then planAns l ops else ⟨0, 0, [], []⟩
def runO (l : List Vtx) (ops : List Opr) : List Vtx := if planE l ops = 0 then planOut l ops else []
def RunS (A : Ans) (O : List Vtx) (pe : Nat) (w : World) (e : Ending) (w' : World) : Prop :=
 Mod (fun _ => False) w w' ∧ ∃ av nv cv al nl cl ac nc cc cs, e = .returned (.tuple #[.agg #[.int .i64 (A.e : Nat), .int .i64 (A.at_ : Nat), .slice av nv cv, .slice al nl cl], .slice ac nc cc, .int .i64 (pe : Int)]) ∧ RdS w' 3 (.slice av nv cv) A.vals.length (vvcells A.vals) ∧ RdS w' 1 (.slice al nl cl) A.list.length (A.list.map (keyV .u32)) ∧ LRd w' (.slice ac nc cc) cs ∧ cs.map Vs.x = O
theorem PRun.same {l : List Vtx} {ops : List Opr} {w w' : World} {e : Ending} (h : PRun l ops w e w') : RunS (runA l ops) (runO l ops) (planE l ops) w e w' := by
 obtain ⟨hm, h1, h2⟩ := h
 refine ⟨hm, ?_⟩
 unfold runA runO
 by_cases hz : planE l ops = 0
 · rw [if_pos hz, if_pos hz]
   obtain ⟨vv, vl, vc, cs, e1, h5, h6, h7, h8⟩ := h2 hz
   obtain ⟨av, cv, rfl, -⟩ := h5.shape
   obtain ⟨al, cl, rfl, -⟩ := h6.shape
   obtain ⟨ag, cg, e3, -⟩ := h7.row.shape
   subst e3
   exact ⟨av, _, cv, al, _, cl, ag, _, cg, cs, by rw [e1, hz]; rfl, h5, h6, h7, h8⟩
 · rw [if_neg hz, if_neg hz]
   exact ⟨none, 0, 0, none, 0, 0, none, 0, 0, [], h1 hz, RdS.none _ _, RdS.none _ _, ⟨RdS.none _ _, by simp⟩, rfl⟩
end Go.Proofs.YtlpdifinkcjckaaGreatDoor
