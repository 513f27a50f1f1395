import Derived.Test.YtlpdifinkcjckaaGreatDoorMNWan02
import Derived.Test.YtlpdifinkcjckaaGreatDoorMNRun10
set_option linter.unusedVariables false
set_option linter.unusedSimpArgs false
namespace Go.Proofs.YtlpdifinkcjckaaGreatDoor
open Go.RowKit Go.Maps
theorem noRow_slice (a : Option Addr) (n c : Nat) : NoRow #[.slice a n c] := by
 refine ⟨fun j n => .inl fun e => ?_, fun j k n m s ⟨h0, h1, h3⟩ => ?_⟩
 · rcases j with _ | j <;> simp at e
 · rcases j with _ | j <;> simp at h3
theorem GrAt.else {w w' : World} {g g2 : Nat} {v v2 : Value} {l l2 : List Vs} (h : GrAt w g v l) (h2 : GrAt w g2 v2 l2) (hne : g2 ≠ g) (m : Mod (fun k => k = g) w w') : GrAt w' g2 v2 l2 := by
 obtain ⟨a, c, e, -⟩ := h.lst.row.shape
 have hb := h.box
 rw [e] at hb
 exact ⟨m.heap h2.box hne, h2.lst.offC hb (noRow_slice _ _ _) m⟩
theorem tellV_id (L : Gr) (v : Nat) : (tellV L v).id = v := by
 unfold tellV
 cases h : findV L v with
 | none => rfl
 | some x => exact (findV_mem h).2
theorem sameB_dec {x y : Vtx} (h : x.id = y.id) : sameB x y = decide (x = y) := by
 by_cases e : x = y
 · rw [decide_eq_true e]; exact (sameB_iff h).2 e
 · rw [decide_eq_false e]
   cases hs : sameB x y with
   | false => rfl
   | true => exact absurd ((sameB_iff h).1 hs) e
set_option maxRecDepth 100000 in
set_option maxHeartbeats 8000000 in
theorem drun_any (l : List Vs) (vl : Value) (ops : List Opr) (vo : Value) (w : World) (hl : LRd w vl l) (hz : ∀ s ∈ l, Slim s.x) (ho : ORd w vo ops) (hlen : ops.length ≤ 100) :
   Calls Tryz.prog 19 #[vl, vo] w (PRun (l.map Vs.x) ops w) := by
 have HL := Lib.hid hl
 have HO := Lib.hid ho
 have HZ := Lib.hid hz
 obtain ⟨a, c, rfl, hc1, hc2, -⟩ := hl.row.shape
 obtain ⟨a', c', rfl, -⟩ := ho.row.shape
 obtain ⟨n, hnn⟩ : ∃ n, n = l.length := ⟨_, rfl⟩
 obtain ⟨no, hno⟩ : ∃ n, n = ops.length := ⟨_, rfl⟩
 have HN := Lib.hid hnn
 rw [← hnn] at HL hc1 ⊢
 rw [← hno] at HO ⊢
 have HM0 : Hid (Mod (fun _ => False) w (w.alloc (.cells #[.int .i64 0, .int .i64 0, .slice none 0 0, .slice none 0 0] 34))) := Lib.hid ((Mod.refl _ _).alloc _)
 have HB0 : Hid ((w.alloc (.cells #[.int .i64 0, .int .i64 0, .slice none 0 0, .slice none 0 0] 34)).heap[w.heap.size]? = some (.cells #[.int .i64 0, .int .i64 0, .slice none 0 0, .slice none 0 0] 34 (0, 0))) := Lib.hid (heap_alloc_new' _ _)
 have HCK : Hid (∀ w', Mod (fun _ => False) w w' → Calls Tryz.prog 44 #[.agg #[.int .u8 1, .slice a' no c', .int .u32 0, .int .i64 0, .int .i64 0]] w' fun e w'' => e = .returned (.int .i64 (checkR (txq ops) : Nat)) ∧ Mod (fun _ => False) w' w'') := Lib.hid (fun w' m => dcheck_any (txq ops) (.slice a' no c') w' (HO.out.keep m))
 have HFO : Hid (∀ w', Mod (fun _ => False) w w' → Calls Tryz.prog 45 #[.slice a n c] w' fun e w'' => e = .returned (.bool (formL (l.map Vs.x))) ∧ Mod (fun _ => False) w' w'') := Lib.hid (fun w' m => form18_any l _ w' (HL.out.keep m) (fun s hs => by have := (HZ.out s hs).1; have := (HZ.out s hs).2; omega))
 have HWN : Hid (∀ w', Mod (fun _ => False) w w' → (∀ o ∈ ops, opOK o = true) → Calls Tryz.prog 49 #[.slice a' no c'] w' fun e w'' => ∃ av nv cv, e = .returned (.slice av nv cv) ∧ WSeg w' w'' (.slice av nv cv) (wantsP ops)) := Lib.hid (fun w' m hok => (rwants_any ops _ w' (HO.out.keep m) hlen).mono (by
   rintro e w'' ⟨v, rfl, h⟩
   rw [docW_eq hok] at h
   obtain ⟨av, cv, rfl, -⟩ := h.seg.shape
   exact ⟨av, _, cv, rfl, h⟩))
 obtain ⟨vs, hvs⟩ : ∃ vs, vs = l.map Vs.x := ⟨_, rfl⟩
 have HVS := Lib.hid hvs
 rw [← hvs] at HFO ⊢
 have HPE : Hid (planE vs ops = if formL vs = false ∧ (checkR (txq ops) = 0 ∨ 3 < checkR (txq ops)) then 3 else checkR (txq ops)) := Lib.hid rfl
 have HPZ : Hid (checkR (txq ops) = 0 → ∀ o ∈ ops, opOK o = true) := Lib.hid (fun h => (checkR_tx h rfl).1)
 have HRI : Hid (formL vs = true → ∀ x ∈ vs, x.right = true) := Lib.hid (fun h => formL_right h)
 have HD1 : Hid (checkR (txq ops) = 0 → ∀ (g : Nat) (gv : Value) (l' : List Vs) w', GrAt w' g gv l' → Fair (l'.map Vs.x) → Mod (fun _ => False) w w' → Calls Tryz.prog 48 #[.pointer (some ⟨g, 0, none⟩), .agg #[.int .u8 1, .slice a' no c', .int .u32 0, .int .i64 0, .int .i64 0]] w' (DoP g l' (txq ops) w')) := Lib.hid (fun hc g gv l' w' hg hf m => do_1f g gv l' (txq ops) (.slice a' no c') w' hg hf (HO.out.keep m) hc rfl)
 obtain ⟨fb, hfb⟩ : ∃ b, b = formL vs := ⟨_, rfl⟩
 obtain ⟨ck, hck⟩ : ∃ k, k = checkR (txq ops) := ⟨_, rfl⟩
 rw [← hfb] at HFO HPE HRI
 rw [← hck] at HCK HPE HPZ HD1
 have HCKE := Lib.hid hck
 have HFB := Lib.hid hfb
 clear hl hz ho hnn hno hvs hfb hck
 go_enter Tryz.func19, Tryz.ntmps19
 by_cases hA : fb = true ∧ ck = 0
 rotate_left
 · have HPZ2 : Hid (planE vs ops ≠ 0) := Lib.hid (fun h => hA (by
     have h2 := planE_zero h
     rw [← HFB.out, ← HCKE.out] at h2
     exact h2))
   obtain ⟨pe, hpe⟩ : ∃ p, p = planE vs ops := ⟨_, rfl⟩
   have HPE2 := Lib.hid hpe
   have hpe2 := HPE.out
   rw [← hpe] at hpe2
   clear hpe HPE HPZ HRI HD1 HWN
   cases fb with
   | true =>
     have hk0 : ¬ ck = 0 := fun e => hA ⟨rfl, e⟩
     have hk1 : ¬ (ck : Int) = 0 := by omega
     have HPV : Hid (pe = ck) := Lib.hid (by rw [hpe2, if_neg (by simp)])
     clear hA hpe2 hk0
     go_upto_region 5 with (first
       | (go_at_call 45; go_loud (refine (HFO.out _ HM1.out).mono ?_; (rintro e w2 ⟨rfl, hm2⟩); have HM2 : Hid (Mod (fun _ => False) w w2) := Lib.hid (HM1.out.trans hm2); have HB2 := Lib.hid (hm2.heap HB1.out (fun f => f)); clear hm2))
       | (go_at_call 44; go_loud (refine (HCK.out _ HM0.out).mono ?_; (rintro e w1 ⟨rfl, hm1⟩); have HM1 : Hid (Mod (fun _ => False) w w1) := Lib.hid (HM0.out.trans hm1); have HB1 := Lib.hid (hm1.heap HB0.out (fun f => f)); clear hm1)))
     have hbx := HB2.out
     have p0 := cell_of_row hbx 0
     have p1 := cell_of_row hbx 1
     have p2 := cell_of_row hbx 2
     have p3 := cell_of_row hbx 3
     have f0 := free_of_row hbx 0
     have f1 := free_of_row hbx 1
     have f2 := free_of_row hbx 2
     have f3 := free_of_row hbx 3
     have zr := lt_of_block hbx
     simp at p0 p1 p2 p3
     clear hbx
     go_wp2
     refine bodyPost_ret (v := .tuple #[.agg #[.int .i64 0, .int .i64 0, .slice none 0 0, .slice none 0 0], .slice none 0 0, .int .i64 (ck : Int)]) (by simp [results, Tryz.results19, go_sem, p0, p1, p2, p3]) rfl ?_
     exact ⟨(run_end HM2.out (Nat.le_refl _) (.int .i64 0) (.int .i64 0) (.slice none 0 0) (.slice none 0 0)).1, fun _ => by rw [← HPE2.out, HPV.out], fun h => absurd h HPZ2.out⟩
   | false =>
     by_cases hc0 : ck = 0
     · subst hc0
       have HPV : Hid (pe = 3) := Lib.hid (by rw [hpe2, if_pos ⟨rfl, .inl rfl⟩])
       clear hA hpe2
       go_upto_region 5 with (first
         | (go_at_call 45; go_loud (refine (HFO.out _ HM1.out).mono ?_; (rintro e w2 ⟨rfl, hm2⟩); have HM2 : Hid (Mod (fun _ => False) w w2) := Lib.hid (HM1.out.trans hm2); have HB2 := Lib.hid (hm2.heap HB1.out (fun f => f)); clear hm2))
         | (go_at_call 44; go_loud (refine (HCK.out _ HM0.out).mono ?_; (rintro e w1 ⟨rfl, hm1⟩); have HM1 : Hid (Mod (fun _ => False) w w1) := Lib.hid (HM0.out.trans hm1); have HB1 := Lib.hid (hm1.heap HB0.out (fun f => f)); clear hm1)))
       have hbx := HB2.out
       have p0 := cell_of_row hbx 0
       have p1 := cell_of_row hbx 1
       have p2 := cell_of_row hbx 2
       have p3 := cell_of_row hbx 3
       have f0 := free_of_row hbx 0
       have f1 := free_of_row hbx 1
       have f2 := free_of_row hbx 2
       have f3 := free_of_row hbx 3
       have zr := lt_of_block hbx
       simp at p0 p1 p2 p3
       clear hbx
       go_wp2
       refine bodyPost_ret (v := .tuple #[.agg #[.int .i64 0, .int .i64 0, .slice none 0 0, .slice none 0 0], .slice none 0 0, .int .i64 3]) (by simp [results, Tryz.results19, go_sem, p0, p1, p2, p3]) rfl ?_
       exact ⟨(run_end HM2.out (Nat.le_refl _) (.int .i64 0) (.int .i64 0) (.slice none 0 0) (.slice none 0 0)).1, fun _ => by rw [← HPE2.out, HPV.out]; rfl, fun h => absurd h HPZ2.out⟩
     · have hk1 : ¬ (ck : Int) = 0 := by omega
       by_cases hc3 : 3 < ck
       · have hk3 : (3 : Int) < (ck : Int) := by omega
         have HPV : Hid (pe = 3) := Lib.hid (by rw [hpe2, if_pos ⟨rfl, .inr hc3⟩])
         clear hA hpe2 hc0 hc3
         go_upto_region 5 with (first
           | (go_at_call 45; go_loud (refine (HFO.out _ HM1.out).mono ?_; (rintro e w2 ⟨rfl, hm2⟩); have HM2 : Hid (Mod (fun _ => False) w w2) := Lib.hid (HM1.out.trans hm2); have HB2 := Lib.hid (hm2.heap HB1.out (fun f => f)); clear hm2))
           | (go_at_call 44; go_loud (refine (HCK.out _ HM0.out).mono ?_; (rintro e w1 ⟨rfl, hm1⟩); have HM1 : Hid (Mod (fun _ => False) w w1) := Lib.hid (HM0.out.trans hm1); have HB1 := Lib.hid (hm1.heap HB0.out (fun f => f)); clear hm1)))
         have hbx := HB2.out
         have p0 := cell_of_row hbx 0
         have p1 := cell_of_row hbx 1
         have p2 := cell_of_row hbx 2
         have p3 := cell_of_row hbx 3
         have f0 := free_of_row hbx 0
         have f1 := free_of_row hbx 1
         have f2 := free_of_row hbx 2
         have f3 := free_of_row hbx 3
         have zr := lt_of_block hbx
         simp at p0 p1 p2 p3
         clear hbx
         go_wp2
         refine bodyPost_ret (v := .tuple #[.agg #[.int .i64 0, .int .i64 0, .slice none 0 0, .slice none 0 0], .slice none 0 0, .int .i64 3]) (by simp [results, Tryz.results19, go_sem, p0, p1, p2, p3]) rfl ?_
         exact ⟨(run_end HM2.out (Nat.le_refl _) (.int .i64 0) (.int .i64 0) (.slice none 0 0) (.slice none 0 0)).1, fun _ => by rw [← HPE2.out, HPV.out]; rfl, fun h => absurd h HPZ2.out⟩
       · have hk3 : ¬ (3 : Int) < (ck : Int) := by omega
         have hk4 : (ck : Int) ≤ 3 := by omega
         have hk5 : decide ((3 : Int) < (ck : Int)) = false := by simp; omega
         have HPV : Hid (pe = ck) := Lib.hid (by rw [hpe2, if_neg (by omega)])
         clear hA hpe2 hc0 hc3
         go_upto_region 5 with (first
           | (go_at_call 45; go_loud (refine (HFO.out _ HM1.out).mono ?_; (rintro e w2 ⟨rfl, hm2⟩); have HM2 : Hid (Mod (fun _ => False) w w2) := Lib.hid (HM1.out.trans hm2); have HB2 := Lib.hid (hm2.heap HB1.out (fun f => f)); clear hm2))
           | (go_at_call 44; go_loud (refine (HCK.out _ HM0.out).mono ?_; (rintro e w1 ⟨rfl, hm1⟩); have HM1 : Hid (Mod (fun _ => False) w w1) := Lib.hid (HM0.out.trans hm1); have HB1 := Lib.hid (hm1.heap HB0.out (fun f => f)); clear hm1)))
         have hbx := HB2.out
         have p0 := cell_of_row hbx 0
         have p1 := cell_of_row hbx 1
         have p2 := cell_of_row hbx 2
         have p3 := cell_of_row hbx 3
         have f0 := free_of_row hbx 0
         have f1 := free_of_row hbx 1
         have f2 := free_of_row hbx 2
         have f3 := free_of_row hbx 3
         have zr := lt_of_block hbx
         simp at p0 p1 p2 p3
         clear hbx
         go_wp2
         refine bodyPost_ret (v := .tuple #[.agg #[.int .i64 0, .int .i64 0, .slice none 0 0, .slice none 0 0], .slice none 0 0, .int .i64 (ck : Int)]) (by simp [results, Tryz.results19, go_sem, p0, p1, p2, p3]) rfl ?_
         exact ⟨(run_end HM2.out (Nat.le_refl _) (.int .i64 0) (.int .i64 0) (.slice none 0 0) (.slice none 0 0)).1, fun _ => by rw [← HPE2.out, HPV.out], fun h => absurd h HPZ2.out⟩
 obtain ⟨rfl, rfl⟩ := hA
 have hPE0 : planE vs ops = 0 := by rw [HPE.out, if_neg (by simp)]
 have HE0 := Lib.hid hPE0
 have HOK := Lib.hid (HPZ.out rfl)
 have HRT := Lib.hid (HRI.out rfl)
 have HDO := Lib.hid (HD1.out rfl)
 clear hPE0 HPZ HRI HD1 HPE
 go_upto_region 7 with (first
   | (go_at_call 45; go_loud (refine (HFO.out _ HM1.out).mono ?_; (rintro e w2 ⟨rfl, hm2⟩); have HM2 : Hid (Mod (fun _ => False) w w2) := Lib.hid (HM1.out.trans hm2); have HB2 := Lib.hid (hm2.heap HB1.out (fun f => f)); clear hm2))
   | (go_at_call 44; go_loud (refine (HCK.out _ HM0.out).mono ?_; (rintro e w1 ⟨rfl, hm1⟩); have HM1 : Hid (Mod (fun _ => False) w w1) := Lib.hid (HM0.out.trans hm1); have HB1 := Lib.hid (hm1.heap HB0.out (fun f => f)); clear hm1)))
 obtain ⟨gb, hgb⟩ : ∃ b, b = w2.heap.size := ⟨_, rfl⟩
 obtain ⟨W3, hW3⟩ : ∃ W, W = w2.alloc (.cells #[.slice none 0 0] 117) := ⟨_, rfl⟩
 have HG3 : Hid (W3.heap[gb]? = some (.cells #[.slice none 0 0] 117 (0, 0))) := Lib.hid (by rw [hW3, hgb]; exact heap_alloc_new' _ _)
 have HM3 : Hid (Mod (fun _ => False) w W3) := Lib.hid (by rw [hW3]; exact HM2.out.alloc _)
 have HB3 : Hid (W3.heap[w.heap.size]? = some (.cells #[.int .i64 0, .int .i64 0, .slice none 0 0, .slice none 0 0] 34 (0, 0))) := Lib.hid (by rw [hW3]; exact heap_alloc_old HB2.out)
 have HZG : Hid (w.heap.size < gb) := Lib.hid (by rw [hgb]; exact lt_of_block HB2.out)
 rw [← hW3, ← hgb]
 clear hW3 hgb
 go_wp2_with fail
 go_loopw [39] (fun i wr => ∃ k : Nat, i = .int .i64 (k : Int) ∧ k ≤ n ∧ ∃ gv' l', GrAt wr gb gv' l' ∧ l'.map Vs.x = layAll (vs.take k) ∧ Mod (fun _ => False) w wr ∧ wr.heap[w.heap.size]? = some (.cells #[.int .i64 0, .int .i64 0, .slice none 0 0, .slice none 0 0] 34 (0, 0))) (fun i _ => n - (intOf i).toNat)
 case atStart => exact ⟨0, rfl, Nat.zero_le _, .slice none 0 0, [], ⟨HG3.out, ⟨RdS.none _ _, by simp⟩⟩, rfl, HM3.out, HB3.out⟩
 case round =>
   obtain ⟨k, rfl, hk, gv, lg, hgr, hlg, hmw, hrb⟩ := hrel
   have HGR := Lib.hid hgr
   have HLG := Lib.hid hlg
   have HMW := Lib.hid hmw
   have HRB := Lib.hid hrb
   have HFA : Hid (Fair (lg.map Vs.x)) := Lib.hid (by rw [hlg]; exact layAll_fair _ (fun x hx => HRT.out x (List.mem_of_mem_take hx)))
   clear hgr hlg hmw hrb
   by_cases hkn : k < n
   · obtain ⟨s, hs⟩ : ∃ s, l[k]? = some s := ⟨_, List.getElem?_eq_getElem (by rw [← HN.out]; exact hkn)⟩
     obtain ⟨bl, offl, e0, hbl, r0, r1, r2, r3⟩ := HL.out.ent hs rfl
     replace r0 := HMW.out.cell r0
     replace r1 := HMW.out.cell r1
     replace r2 := HMW.out.cell r2
     replace r3 := HMW.out.cell r3
     have zbl : bl < wr.heap.size := Nat.lt_of_lt_of_le hbl HMW.out.size
     have hvr := HL.out.at hs
     have hxm : vs[k]? = some s.x := by rw [HVS.out, List.getElem?_map, hs]; rfl
     have HTK : Hid (layAll (vs.take (k + 1)) = layV s.x (layAll (vs.take k))) := Lib.hid (by rw [take_snoc hxm, layAll_snoc])
     have HPT : Hid (∀ w', Mod (fun _ => False) wr w' → Calls Tryz.prog 46 #[.pointer (some ⟨gb, 0, none⟩), vtxV s.x s.vp s.vh] w' fun e w'' => e = .returned (.int .i64 0) ∧ Mod (fun k => k = gb) w' w'' ∧ ∃ v' l', GrAt w'' gb v' l' ∧ l'.map Vs.x = layV s.x (lg.map Vs.x)) := Lib.hid (fun w' m => dput_any gb gv lg s.x s.vp s.vh w' (HGR.out.keep m) ((hvr.keep HMW.out).keep m) (HRT.out _ (List.mem_of_getElem? hxm)) (HZ.out s (List.mem_of_getElem? hs)) (by have := HFA.out.tame.len; omega))
     obtain ⟨ap, cp, ep, -⟩ := hvr.props.shape
     obtain ⟨ah, ch, eh, -⟩ := hvr.halves.shape
     subst e0
     clear hs hvr hxm hbl
     obtain ⟨⟨id, th, ps, hs⟩, vp, vh⟩ := s
     simp only at r0 r1 r2 r3 ep eh HPT HTK
     subst ep eh
     simp only [vtxV] at HPT
     generalize ps.length = np at *
     generalize hs.length = nh at *
     go_wp2_with (go_at_call 46; go_loud (refine (HPT.out _ ((Mod.refl _ _).alloc _)).mono ?_; (rintro e w5 ⟨rfl, hm5, v5, l5, hg5, hl5⟩); have HG5 := Lib.hid hg5; have HL5 := Lib.hid hl5; have HM5 : Hid (Mod (fun _ => False) w w5) := Lib.hid ((HMW.out.alloc _).trans' hm5 (fun i hi e => by have := HZG.out; omega)); have HB5 := Lib.hid (hm5.heap (heap_alloc_old HRB.out) (fun e => by have := HZG.out; omega)); clear hm5 hg5 hl5))
     go_roundw
     case rel => exact ⟨k + 1, by go_num, by omega, v5, l5, HG5.out, by rw [HL5.out, HTK.out, HLG.out], HM5.out, HB5.out⟩
     case measure => simp [intOf]; omega
   · have HTA : Hid (lg.map Vs.x = layAll vs) := Lib.hid (by have h := HLG.out; rw [List.take_of_length_le (by rw [HVS.out, List.length_map, ← HN.out]; omega)] at h; exact h)
     obtain ⟨wo, rfl⟩ : ∃ wo : World, wo = wr := ⟨_, rfl⟩
     have HCP : Hid (∀ w', Mod (fun _ => False) wo w' → Calls Tryz.prog 47 #[.pointer (some ⟨gb, 0, none⟩)] w' fun e w'' => Mod (fun _ => False) w' w'' ∧ ∃ g' v' l', e = .returned (.pointer (some ⟨g', 0, none⟩)) ∧ GrAt w'' g' v' l' ∧ l'.map Vs.x = lg.map Vs.x ∧ w'.heap.size ≤ g') := Lib.hid (fun w' m => by
       have ht := HFA.out.tame
       exact copy_any gb gv lg w' (HGR.out.keep m) (by have := ht.len; omega) (fun x hx => by have := ht.each x hx; exact ⟨by omega, by omega⟩))
     have HDA := Lib.hid (fun w' (mq : Mod (fun _ => False) wo w') => HDO.out gb gv lg w' (HGR.out.keep mq) HFA.out (HMW.out.trans mq))
     have HAN : Hid (planAns vs ops = (doG (lg.map Vs.x) (txq ops)).2) := Lib.hid (by unfold planAns; rw [HTA.out])
     have HOU : Hid (planOut vs ops = if (planAns vs ops).e = 0 then changedG (lg.map Vs.x) (doG (lg.map Vs.x) (txq ops)).1 (wantsP ops) else []) := Lib.hid (by unfold planOut; rw [HTA.out])
     have HWN2 := Lib.hid (fun w' m => HWN.out w' m HOK.out)
     have HSH := Lib.hid (wants_short HOK.out)
     have HFT := Lib.hid (wantsP_fits HOK.out)
     obtain ⟨W, hW⟩ : ∃ W, W = wantsP ops := ⟨_, rfl⟩
     rw [← hW] at HWN2 HSH HFT HOU
     unfold DoP at HDA
     obtain ⟨q, hq⟩ : ∃ q, q = W.length := ⟨_, rfl⟩
     have HQ := Lib.hid hq
     have hq40 : q ≤ 40 := by have := HSH.out; omega
     generalize doG (lg.map Vs.x) (txq ops) = ga at HDA HAN HOU
     obtain ⟨L', an⟩ := ga
     simp only at HDA HAN HOU
     obtain ⟨ze, za, vals, list⟩ := an
     simp only at HDA
     obtain ⟨nz, hnz⟩ : ∃ n, n = vals.length := ⟨_, rfl⟩
     obtain ⟨ny, hny⟩ : ∃ n, n = list.length := ⟨_, rfl⟩
     have HNZ : Hid (nz = vals.length ∧ ny = list.length) := Lib.hid ⟨hnz, hny⟩
     rw [← hnz, ← hny] at HDA
     clear hnz hny hW hq
     have HIV : Hid (Tryz.prog.info? 47 = Tryz.prog.info? 47) := Lib.hid rfl
     obtain ⟨i0, hi, hz0, hz1, hz2⟩ := info_parts infoVtx
     have HI : Hid (Tryz.prog.info? 47 = some i0 ∧ i0.zero = some (.agg #[.int .u32 0, .bool false, .slice none 0 0, .slice none 0 0]) ∧ i0.size = 4 ∧ i0.bytes = 56) := ⟨hi, hz0, hz1, hz2⟩
     clear hi hz0 hz1 hz2 HIV
     go_wp2_with (first
       | (go_at_call 49; go_loud (refine (HWN2.out _ (HMD.out.alloc _)).mono ?_; (rintro e w10 ⟨av, nv, cv, rfl, hws⟩); have HWS := Lib.hid hws; clear hws))
       | (go_at_call 48; go_loud (refine (HDA.out _ HMC.out).mono ?_; (rintro e w9 ⟨hm9, vv9, vl9, v9, l9, rfl, hg9, hl9, hvv, hvl⟩); have HG9 := Lib.hid hg9; have HL9 := Lib.hid hl9; have HVV := Lib.hid hvv; have HVL := Lib.hid hvl; have HGW9 := Lib.hid ((HGR.out.keep HMC.out).else HGW.out (by have := HZW.out; have := lt_of_block HGR.out.box; omega) hm9); have HMD : Hid (Mod (fun _ => False) w w9) := Lib.hid ((HMW.out.trans HMC.out).trans' hm9 (fun i hi e => by have := HZG.out; omega)); have HB9 := Lib.hid (hm9.heap (HMC.out.heap HRB.out (fun f => f)) (fun e => by have := HZG.out; omega)); (obtain ⟨a8, c8, rfl, -⟩ := hvv.shape); (obtain ⟨a7, c7, rfl, -⟩ := hvl.shape); clear hm9 hg9 hl9 hvv hvl))
       | (go_at_call 47; go_loud (refine (HCP.out _ (Mod.refl _ _)).mono ?_; (rintro e w8 ⟨hm8, gw, v8, l8, rfl, hg8, hl8, hlo8⟩); have HGW := Lib.hid hg8; have HLW := Lib.hid hl8; have HZW := Lib.hid hlo8; have HMC := Lib.hid hm8; clear hm8 hg8 hl8 hlo8)))
     obtain rfl : nv = q := by obtain ⟨a9, c9, e9, -⟩ := HWS.out.seg.shape; injection e9 with _ e9 _; rw [e9, HQ.out]
     have HMA : Hid (Mod (fun _ => False) w9 w10) := Lib.hid (((Mod.refl _ _).alloc _).trans HWS.out.mod)
     have HA10 : Hid (w10.heap[w9.heap.size]? = some (.cells #[.int .i64 (ze : Int), .int .i64 (za : Int), .slice a8 nz c8, .slice a7 ny c7] 34 (0, 0))) := Lib.hid (HWS.out.mod.heap (heap_alloc_new' _ _) (fun f => f))
     have HR10 : Hid (w10.heap[w.heap.size]? = some (.cells #[.int .i64 0, .int .i64 0, .slice none 0 0, .slice none 0 0] 34 (0, 0))) := Lib.hid (HMA.out.heap HB9.out (fun f => f))
     have HM10 : Hid (Mod (fun _ => False) w w10) := Lib.hid (HMD.out.trans HMA.out)
     have HG10 : Hid (GrAt w10 gb v9 l9) := Lib.hid (HG9.out.keep HMA.out)
     have HGW10 : Hid (GrAt w10 gw v8 l8) := Lib.hid (HGW9.out.keep HMA.out)
     have HVV10 := Lib.hid (HVV.out.keep HMA.out)
     have HVL10 := Lib.hid (HVL.out.keep HMA.out)
     have HZW2 : Hid (w.heap.size < w9.heap.size) := Lib.hid (lt_of_block HB9.out)
     by_cases hze : ze = 0
     rotate_left
     · have hze' : ¬ (ze : Int) = 0 := by omega
       have hze2 : ((ze : Int) == 0) = false := by simp; omega
       have HOE : Hid (planOut vs ops = []) := Lib.hid (by rw [HOU.out, HAN.out]; simp only; rw [if_neg hze])
       clear hze
       go_loopw [56, 13] (fun i u wr => ∃ k : Nat, i = .int .i64 (k : Int) ∧ k ≤ nv ∧ u = .slice none 0 0 ∧ Mod (fun _ => False) w10 wr) (fun i _ _ => nv - (intOf i).toNat)
       case atStart => exact ⟨0, rfl, Nat.zero_le _, rfl, Mod.refl _ _⟩
       case round =>
         obtain ⟨wx, hwx⟩ : ∃ wx : World, wx = wr := ⟨_, rfl⟩
         subst hwx
         obtain ⟨k, rfl, hk, rfl, hmk⟩ := hrel
         have HK := Lib.hid hmk
         clear hmk
         by_cases hkn2 : k < nv
         · obtain ⟨x, hx⟩ : ∃ x, W[k]? = some x := ⟨_, List.getElem?_eq_getElem (by rw [← HQ.out]; exact hkn2)⟩
           obtain ⟨bl2, offl2, e0, hbl2, r0, r1⟩ := HWS.out.rd.ent hx rfl
           replace r0 := HK.out.cell r0
           replace r1 := HK.out.cell r1
           have zbl2 : bl2 < wx.heap.size := Nat.lt_of_lt_of_le hbl2 HK.out.size
           subst e0
           have HFX := Lib.hid (HFT.out x (List.mem_of_getElem? hx))
           have HTK : Hid (W.take (k + 1) = W.take k ++ [x]) := Lib.hid (by
             obtain ⟨h1, h2⟩ := List.getElem?_eq_some_iff.1 hx
             rw [List.take_succ_eq_append_getElem h1, h2])
           clear hx hbl2
           obtain ⟨xv, xm⟩ := x
           simp only at r0 r1 HFX
           obtain ⟨a5, n5, c5, a6, n6, c6, hv5, hcv⟩ := dvertex_fix gb v9 l9 xv w10 HG10.out HFX.out.1
           rw [HL9.out] at hv5 hcv
           have HV5 := Lib.hid hv5
           have HCV := Lib.hid hcv
           clear hv5 hcv
           obtain ⟨tn, htn⟩ : ∃ t, t = tellV L' xv := ⟨_, rfl⟩
           have HTN := Lib.hid htn
           rw [← htn] at HV5 HCV
           clear htn
           simp only [vtxV] at HCV
           have HMB : Hid (Mod (fun _ => False) wx (wx.alloc (.cells #[.int .u32 (xv : Int), .int .u8 (xm : Int)] 43))) := Lib.hid ((Mod.refl _ _).alloc _)
           have HBB : Hid ((wx.alloc (.cells #[.int .u32 (xv : Int), .int .u8 (xm : Int)] 43)).heap[wx.heap.size]? = some (.cells #[.int .u32 (xv : Int), .int .u8 (xm : Int)] 43 (0, 0))) := Lib.hid (heap_alloc_new' _ _)
           go_upto_region 19 with (go_at_call 50; go_loud (refine (HCV.out _ (HK.out.trans HMB.out)).mono ?_; (rintro e w5 ⟨rfl, hm5⟩); have HM5 := Lib.hid hm5; clear hm5))
           obtain ⟨w6, hw6⟩ : ∃ W, W = w5.alloc (.cells #[.int .u32 (tn.id : Int), .bool tn.there, .slice a5 n5 c5, .slice a6 n6 c6] 47) := ⟨_, rfl⟩
           have HM6 : Hid (Mod (fun _ => False) w5 w6) := Lib.hid (by rw [hw6]; exact (Mod.refl _ _).alloc _)
           have HN6 : Hid (w6.heap[w5.heap.size]? = some (.cells #[.int .u32 (tn.id : Int), .bool tn.there, .slice a5 n5 c5, .slice a6 n6 c6] 47 (0, 0))) := Lib.hid (by rw [hw6]; exact heap_alloc_new' _ _)
           have HB6 : Hid (w6.heap[wx.heap.size]? = some (.cells #[.int .u32 (xv : Int), .int .u8 (xm : Int)] 43 (0, 0))) := Lib.hid ((HM5.out.trans HM6.out).heap HBB.out (fun f => f))
           rw [← hw6]
           clear hw6 r0 r1
           have b0 := cell_of_row HB6.out 0
           have b1 := cell_of_row HB6.out 1
           have zb := lt_of_block HB6.out
           have d0 := cell_of_row HN6.out 0
           have d1 := cell_of_row HN6.out 1
           have d2 := cell_of_row HN6.out 2
           have d3 := cell_of_row HN6.out 3
           have zd := lt_of_block HN6.out
           simp at b0 b1 d0 d1 d2 d3
           have HMX6 : Hid (Mod (fun _ => False) wx w6) := Lib.hid ((HMB.out.trans HM5.out).trans HM6.out)
           have y0 := cell_of_row ((HK.out.trans HMX6.out).heap HA10.out (fun f => f)) 0
           have zy := lt_of_block ((HK.out.trans HMX6.out).heap HA10.out (fun f => f))
           simp at y0
           have b0 : ∀ z : MW w6, z.w.cell? _ = some _ := fun z => z.cell b0
           have b1 : ∀ z : MW w6, z.w.cell? _ = some _ := fun z => z.cell b1
           have d0 : ∀ z : MW w6, z.w.cell? _ = some _ := fun z => z.cell d0
           have d1 : ∀ z : MW w6, z.w.cell? _ = some _ := fun z => z.cell d1
           have d2 : ∀ z : MW w6, z.w.cell? _ = some _ := fun z => z.cell d2
           have d3 : ∀ z : MW w6, z.w.cell? _ = some _ := fun z => z.cell d3
           have y0 : ∀ z : MW w6, z.w.cell? _ = some _ := fun z => z.cell y0
           go_wp2_with fail
           refine wp_region_quietM (by kernel_rfl) (by kernel_rfl) ?_
           repeat (go_big_quiet_step (fail))
           refine wpQuiet_nil ?_
           intro w7 hm7
           have HM7 : Hid (Mod (fun _ => False) w6 w7) := Lib.hid (MW.mod_of hm7)
           clear hm7 b0 b1 d0 d1 d2 d3 y0
           go_wp2
           go_roundw
           case rel => exact ⟨k + 1, by go_num, by omega, by first | rfl | trivial, HK.out.trans (HMX6.out.trans HM7.out)⟩
           case measure => simp [intOf]; omega
         · have hra := HK.out.heap HR10.out (fun f => f)
           have p0 := cell_of_row hra 0
           have p1 := cell_of_row hra 1
           have p2 := cell_of_row hra 2
           have p3 := cell_of_row hra 3
           have f0 := free_of_row hra 0
           have f1 := free_of_row hra 1
           have f2 := free_of_row hra 2
           have f3 := free_of_row hra 3
           have zr := lt_of_block hra
           have hya := HK.out.heap HA10.out (fun f => f)
           have y0 := cell_of_row hya 0
           have y1 := cell_of_row hya 1
           have y2 := cell_of_row hya 2
           have y3 := cell_of_row hya 3
           have zy := lt_of_block hya
           have hne := HZW2.out
           simp at p0 p1 p2 p3 y0 y1 y2 y3
           clear hra hya
           go_wp2
           refine bodyPost_ret (v := .tuple #[.agg #[.int .i64 (ze : Int), .int .i64 (za : Int), .slice a8 nz c8, .slice a7 ny c7], .slice none 0 0, .int .i64 0]) (by simp [results, Tryz.results19, go_sem, p0, p1, p2, p3]) rfl ?_
           obtain ⟨hme, hmr⟩ := run_end (HM10.out.trans HK.out) (Nat.le_refl _) (.int .i64 (ze : Int)) (.int .i64 (za : Int)) (.slice a8 nz c8) (.slice a7 ny c7)
           have hra := HK.out.heap HR10.out (fun f => f)
           refine ⟨hme, fun h => absurd HE0.out h, fun _ => ⟨_, _, .slice none 0 0, [], by rw [HAN.out], ?_, ?_, ⟨RdS.none _ _, by simp⟩, by rw [HOE.out]; rfl⟩⟩
           · rw [HAN.out]; simp only
             refine vals_offA ?_ hra hmr
             rw [← HNZ.out.1]
             exact HVV10.out.keep HK.out
           · rw [HAN.out]; simp only
             refine nums_offA ?_ hra hmr
             rw [← HNZ.out.2]
             exact HVL10.out.keep HK.out
     · subst hze
       rw [show ((0 : Nat) : Int) = 0 from rfl] at HA10 ⊢
       have HOE : Hid (planOut vs ops = changedG (lg.map Vs.x) L' W) := Lib.hid (by rw [HOU.out, HAN.out]; simp)
       go_loopw [56, 13] (fun i u wr => ∃ (k : Nat) (bl : List Vs), i = .int .i64 (k : Int) ∧ k ≤ nv ∧ BrAt w10 u bl wr ∧ bl.map Vs.x = changedG (lg.map Vs.x) L' (W.take k) ∧ bl.length ≤ k) (fun i _ _ => nv - (intOf i).toNat)
       case atStart => exact ⟨0, [], rfl, Nat.zero_le _, BrAt.start _, by rw [List.take_zero]; rfl, Nat.le_refl _⟩
       case round =>
         obtain ⟨wx, hwx⟩ : ∃ wx : World, wx = wr := ⟨_, rfl⟩
         subst hwx
         obtain ⟨k, bl, rfl, hk, hbf, hbx, hbk⟩ := hrel
         have HBF := Lib.hid hbf
         have HBX := Lib.hid hbx
         have HBK := Lib.hid hbk
         have HK : Hid (Mod (fun _ => False) w10 wx) := Lib.hid hbf.mod
         obtain ⟨nb, hnb⟩ : ∃ n, n = bl.length := ⟨_, rfl⟩
         have HNB := Lib.hid hnb
         obtain ⟨ab, cb, hub, -⟩ := hbf.row.shape
         rw [← hnb] at hub hbk
         subst hub
         clear hbf hbx hnb
         by_cases hkn2 : k < nv
         · obtain ⟨x, hx⟩ : ∃ x, W[k]? = some x := ⟨_, List.getElem?_eq_getElem (by rw [← HQ.out]; exact hkn2)⟩
           obtain ⟨bl2, offl2, e0, hbl2, r0, r1⟩ := HWS.out.rd.ent hx rfl
           replace r0 := HK.out.cell r0
           replace r1 := HK.out.cell r1
           have zbl2 : bl2 < wx.heap.size := Nat.lt_of_lt_of_le hbl2 HK.out.size
           subst e0
           have HFX := Lib.hid (HFT.out x (List.mem_of_getElem? hx))
           have HTK : Hid (W.take (k + 1) = W.take k ++ [x]) := Lib.hid (by
             obtain ⟨h1, h2⟩ := List.getElem?_eq_some_iff.1 hx
             rw [List.take_succ_eq_append_getElem h1, h2])
           clear hx hbl2
           obtain ⟨xv, xm⟩ := x
           simp only at r0 r1 HFX
           obtain ⟨a5, n5, c5, a6, n6, c6, hv5, hcv⟩ := dvertex_fix gb v9 l9 xv w10 HG10.out HFX.out.1
           rw [HL9.out] at hv5 hcv
           have HV5 := Lib.hid hv5
           have HCV := Lib.hid hcv
           clear hv5 hcv
           have HCS := Lib.hid (changedG_snoc (lg.map Vs.x) L' (W.take k) (xv, xm))
           rw [← HTK.out] at HCS
           simp only at HCS
           obtain ⟨tn, htn⟩ : ∃ t, t = tellV L' xv := ⟨_, rfl⟩
           have HTN := Lib.hid htn
           rw [← htn] at HV5 HCV HCS
           clear htn
           simp only [vtxV] at HCV
           have HMB : Hid (Mod (fun _ => False) wx (wx.alloc (.cells #[.int .u32 (xv : Int), .int .u8 (xm : Int)] 43))) := Lib.hid ((Mod.refl _ _).alloc _)
           have HBB : Hid ((wx.alloc (.cells #[.int .u32 (xv : Int), .int .u8 (xm : Int)] 43)).heap[wx.heap.size]? = some (.cells #[.int .u32 (xv : Int), .int .u8 (xm : Int)] 43 (0, 0))) := Lib.hid (heap_alloc_new' _ _)
           go_upto_region 19 with (go_at_call 50; go_loud (refine (HCV.out _ (HK.out.trans HMB.out)).mono ?_; (rintro e w5 ⟨rfl, hm5⟩); have HM5 := Lib.hid hm5; clear hm5))
           obtain ⟨w6, hw6⟩ : ∃ W, W = w5.alloc (.cells #[.int .u32 (tn.id : Int), .bool tn.there, .slice a5 n5 c5, .slice a6 n6 c6] 47) := ⟨_, rfl⟩
           have HM6 : Hid (Mod (fun _ => False) w5 w6) := Lib.hid (by rw [hw6]; exact (Mod.refl _ _).alloc _)
           have HN6 : Hid (w6.heap[w5.heap.size]? = some (.cells #[.int .u32 (tn.id : Int), .bool tn.there, .slice a5 n5 c5, .slice a6 n6 c6] 47 (0, 0))) := Lib.hid (by rw [hw6]; exact heap_alloc_new' _ _)
           have HB6 : Hid (w6.heap[wx.heap.size]? = some (.cells #[.int .u32 (xv : Int), .int .u8 (xm : Int)] 43 (0, 0))) := Lib.hid ((HM5.out.trans HM6.out).heap HBB.out (fun f => f))
           rw [← hw6]
           clear hw6 r0 r1
           have b0 := cell_of_row HB6.out 0
           have b1 := cell_of_row HB6.out 1
           have zb := lt_of_block HB6.out
           have d0 := cell_of_row HN6.out 0
           have d1 := cell_of_row HN6.out 1
           have d2 := cell_of_row HN6.out 2
           have d3 := cell_of_row HN6.out 3
           have zd := lt_of_block HN6.out
           simp at b0 b1 d0 d1 d2 d3
           have HMX6 : Hid (Mod (fun _ => False) wx w6) := Lib.hid ((HMB.out.trans HM5.out).trans HM6.out)
           have hya := (HK.out.trans HMX6.out).heap HA10.out (fun f => f)
           have y0 := cell_of_row hya 0
           have zy := lt_of_block hya
           simp at y0
           clear hya
           by_cases hxm : xm = 2
           rotate_left
           · have hx1 : ((xm : Int) == 2) = false := by simp; omega
             have HCE : Hid (changedG (lg.map Vs.x) L' (W.take (k + 1)) = changedG (lg.map Vs.x) L' (W.take k)) := Lib.hid (by rw [HCS.out, if_neg (fun h => hxm h.1), List.append_nil])
             clear hxm
             have b0 : ∀ z : MW w6, z.w.cell? _ = some _ := fun z => z.cell b0
             have b1 : ∀ z : MW w6, z.w.cell? _ = some _ := fun z => z.cell b1
             have d0 : ∀ z : MW w6, z.w.cell? _ = some _ := fun z => z.cell d0
             have d1 : ∀ z : MW w6, z.w.cell? _ = some _ := fun z => z.cell d1
             have d2 : ∀ z : MW w6, z.w.cell? _ = some _ := fun z => z.cell d2
             have d3 : ∀ z : MW w6, z.w.cell? _ = some _ := fun z => z.cell d3
             have y0 : ∀ z : MW w6, z.w.cell? _ = some _ := fun z => z.cell y0
             go_wp2_with fail
             refine wp_region_quietM (by kernel_rfl) (by kernel_rfl) ?_
             repeat (go_big_quiet_step (fail))
             refine wpQuiet_nil ?_
             intro w7 hm7
             have HM7 : Hid (Mod (fun _ => False) w6 w7) := Lib.hid (MW.mod_of hm7)
             clear hm7 b0 b1 d0 d1 d2 d3 y0
             go_wp2
             go_roundw
             case rel => exact ⟨k + 1, bl, by go_num, by omega, HBF.out.keep (HMX6.out.trans HM7.out), by rw [HBX.out, HCE.out], by have := HBK.out; omega⟩
             case measure => simp [intOf]; omega
           · subst hxm
             obtain ⟨au, nu, cu, aw, nw, cw, hvu, hcu⟩ := dvertex_fix gw v8 l8 xv w10 HGW10.out HFX.out.1
             rw [HLW.out] at hvu hcu
             have HVU := Lib.hid hvu
             have HSB : Hid (sameB tn (tellV (lg.map Vs.x) xv) = decide (tn = tellV (lg.map Vs.x) xv)) := Lib.hid (sameB_dec (by rw [HTN.out, tellV_id, tellV_id]))
             have HSV : Hid (∀ w', Mod (fun _ => False) w10 w' → Calls Tryz.prog 17 #[vtxV tn (.slice a5 n5 c5) (.slice a6 n6 c6), vtxV (tellV (lg.map Vs.x) xv) (.slice au nu cu) (.slice aw nw cw)] w' fun e w'' => e = .returned (.bool (decide (tn = tellV (lg.map Vs.x) xv))) ∧ Mod (fun _ => False) w' w'') := Lib.hid (fun w' m => vsame_any _ _ _ _ _ _ w' (HV5.out.keep m) (HVU.out.keep m))
             have HCU := Lib.hid hcu
             clear hvu hcu
             rw [HSB.out] at HCS
             generalize decide (tn = tellV (lg.map Vs.x) xv) = sb at HSV HCS HSB
             obtain ⟨tu, htu⟩ : ∃ t, t = tellV (lg.map Vs.x) xv := ⟨_, rfl⟩
             rw [← htu] at HSV HCU HVU
             clear htu HSB
             obtain ⟨tid, tth, tps, ths⟩ := tn
             obtain ⟨uid, uth, ups, uhs⟩ := tu
             simp only [vtxV] at HSV HCU
             simp only at b0 b1 d0 d1 d2 d3 HV5
             have b0 : ∀ z : MW w6, z.w.cell? _ = some _ := fun z => z.cell b0
             have b1 : ∀ z : MW w6, z.w.cell? _ = some _ := fun z => z.cell b1
             have d0 : ∀ z : MW w6, z.w.cell? _ = some _ := fun z => z.cell d0
             have d1 : ∀ z : MW w6, z.w.cell? _ = some _ := fun z => z.cell d1
             have d2 : ∀ z : MW w6, z.w.cell? _ = some _ := fun z => z.cell d2
             have d3 : ∀ z : MW w6, z.w.cell? _ = some _ := fun z => z.cell d3
             have y0 : ∀ z : MW w6, z.w.cell? _ = some _ := fun z => z.cell y0
             have HQV : Hid (∀ z : MW w6, Calls Tryz.prog 50 _ z.w fun e w'' => _ ∧ ∃ x'' : MW w6, w'' = x''.w) := Lib.hid (fun z => Calls.quietM (HCU.out z.w ((HK.out.trans HMX6.out).trans z.mod)))
             have HQS : Hid (∀ z : MW w6, Calls Tryz.prog 17 _ z.w fun e w'' => _ ∧ ∃ x'' : MW w6, w'' = x''.w) := Lib.hid (fun z => Calls.quietM (HSV.out z.w ((HK.out.trans HMX6.out).trans z.mod)))
             cases sb with
             | true =>
               have HCE : Hid (changedG (lg.map Vs.x) L' (W.take (k + 1)) = changedG (lg.map Vs.x) L' (W.take k)) := Lib.hid (by rw [HCS.out, if_neg (fun h => by simp at h), List.append_nil])
               go_wp2_with fail
               refine wp_region_quietM (by kernel_rfl) (by kernel_rfl) ?_
               repeat (go_big_quiet_step ((first
                 | (go_at_call 17; exact HQS.out _)
                 | (go_at_call 50; exact HQV.out _))))
               refine wpQuiet_nil ?_
               intro w7 hm7
               have HM7 : Hid (Mod (fun _ => False) w6 w7) := Lib.hid (MW.mod_of hm7)
               clear hm7 b0 b1 d0 d1 d2 d3 y0
               go_wp2
               go_roundw
               case rel => exact ⟨k + 1, bl, by go_num, by omega, HBF.out.keep (HMX6.out.trans HM7.out), by rw [HBX.out, HCE.out], by have := HBK.out; omega⟩
               case measure => simp [intOf]; omega
             | false =>
               have HCE : Hid (changedG (lg.map Vs.x) L' (W.take (k + 1)) = changedG (lg.map Vs.x) L' (W.take k) ++ [⟨tid, tth, tps, ths⟩]) := Lib.hid (by rw [HCS.out, if_pos ⟨rfl, rfl⟩])
               go_wp2_with fail
               refine wp_region_quietM (by kernel_rfl) (by kernel_rfl) ?_
               repeat (go_big_quiet_step ((first
                 | (go_at_call 17; exact HQS.out _)
                 | (go_at_call 50; exact HQV.out _))))
               refine wpQuiet_nil ?_
               intro w7 hm7
               have HM7 : Hid (Mod (fun _ => False) w6 w7) := Lib.hid (MW.mod_of hm7)
               clear hm7 b0 b1 d0 d1 d2 d3 y0
               have hn7 := HM7.out.heap HN6.out (fun f => f)
               have e0 := cell_of_row hn7 0
               have e1 := cell_of_row hn7 1
               have e2 := cell_of_row hn7 2
               have e3 := cell_of_row hn7 3
               have ze7 := lt_of_block hn7
               simp at e0 e1 e2 e3
               have HM8 : Hid (Mod (fun _ => False) w7 (w7.alloc (.cells #[.int .u32 (tid : Int), .bool tth, .slice a5 n5 c5, .slice a6 n6 c6] 47))) := Lib.hid ((Mod.refl _ _).alloc _)
               have HB8 := Lib.hid (HBF.out.keep ((HMX6.out.trans HM7.out).trans HM8.out))
               have HSG8 : Hid (Seg (w7.alloc (.cells #[.int .u32 (tid : Int), .bool tth, .slice a5 n5 c5, .slice a6 n6 c6] 47)) 47 4 (.slice ab nb cb) nb (vcells bl)) := Lib.hid (by have h := HB8.out.row; rwa [← HNB.out] at h)
               have HSR := Lib.hid (src_cells (w := w7) rfl (size := 4) 47 #[.int .u32 (tid : Int), .bool tth, .slice a5 n5 c5, .slice a6 n6 c6] rfl (by simp [Value.oneCell']))
               clear hn7
               go_wp2_with (at_builtin; go_loud (refine wpList_append_seg rfl (.tmp 81) (.tmp 83) 41 rfl i0 _ 4 56 Tryz.underlying41 HI.out.1 HI.out.2.1 HI.out.2.2.1 HI.out.2.2.2 rfl (by decide) rfl HSG8.out _ 1 _ rfl HSR.out (by have := HBK.out; have := HNB.out; unfold maxLen; omega) (by have := HBK.out; have := HNB.out; omega) ?_; intro v11 w11 hs9 hg9 ho9; have H3 := Lib.hid (HB8.out.next (s := ⟨⟨tid, tth, tps, ths⟩, .slice a5 n5 c5, .slice a6 n6 c6⟩) HV5.out (by rw [← HNB.out]; exact hs9) hg9 ho9); (obtain ⟨a3, c3, n3, rfl⟩ : ∃ a c n, v11 = .slice a n c := (by obtain ⟨a, c, e, _⟩ := hs9.shape; exact ⟨_, _, _, e⟩)); clear hs9 hg9 ho9))
               go_roundw
               case rel => exact ⟨k + 1, bl ++ [⟨⟨tid, tth, tps, ths⟩, .slice a5 n5 c5, .slice a6 n6 c6⟩], by go_num, by omega, H3.out, by rw [List.map_append, HBX.out, HCE.out]; rfl, by rw [List.length_append, List.length_singleton]; have := HBK.out; omega⟩
               case measure => simp [intOf]; omega
         · have HTB : Hid (W.take k = W) := Lib.hid (List.take_of_length_le (by have := HQ.out; omega))
           rw [HTB.out] at HBX
           have hra := HK.out.heap HR10.out (fun f => f)
           have p0 := cell_of_row hra 0
           have p1 := cell_of_row hra 1
           have p2 := cell_of_row hra 2
           have p3 := cell_of_row hra 3
           have f0 := free_of_row hra 0
           have f1 := free_of_row hra 1
           have f2 := free_of_row hra 2
           have f3 := free_of_row hra 3
           have zr := lt_of_block hra
           have hya := HK.out.heap HA10.out (fun f => f)
           have y0 := cell_of_row hya 0
           have y1 := cell_of_row hya 1
           have y2 := cell_of_row hya 2
           have y3 := cell_of_row hya 3
           have zy := lt_of_block hya
           have hne := HZW2.out
           simp at p0 p1 p2 p3 y0 y1 y2 y3
           clear hra hya
           go_wp2
           refine bodyPost_ret (v := .tuple #[.agg #[.int .i64 0, .int .i64 (za : Int), .slice a8 nz c8, .slice a7 ny c7], .slice ab nb cb, .int .i64 0]) (by simp [results, Tryz.results19, go_sem, p0, p1, p2, p3]) rfl ?_
           obtain ⟨hme, hmr⟩ := run_end (HM10.out.trans HK.out) (Nat.le_refl _) (.int .i64 0) (.int .i64 (za : Int)) (.slice a8 nz c8) (.slice a7 ny c7)
           have hra := HK.out.heap HR10.out (fun f => f)
           refine ⟨hme, fun h => absurd HE0.out h, fun _ => ⟨_, _, .slice ab nb cb, bl, by rw [HAN.out]; rfl, ?_, ?_, HBF.out.rd.offC hra (noRow_answer _ _ _ _ _ _ _ _) hmr, by rw [HOE.out, HBX.out]⟩⟩
           · rw [HAN.out]; simp only
             refine vals_offA ?_ hra hmr
             rw [← HNZ.out.1]
             exact HVV10.out.keep HK.out
           · rw [HAN.out]; simp only
             refine nums_offA ?_ hra hmr
             rw [← HNZ.out.2]
             exact HVL10.out.keep HK.out
end Go.Proofs.YtlpdifinkcjckaaGreatDoor
