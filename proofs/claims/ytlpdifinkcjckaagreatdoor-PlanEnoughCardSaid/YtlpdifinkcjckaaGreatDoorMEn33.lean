import Derived.Test.YtlpdifinkcjckaaGreatDoorMEn32
set_option linter.unusedVariables false
set_option linter.unusedSimpArgs false
namespace Go.Proofs.YtlpdifinkcjckaaGreatDoor
theorem chain_of_rise (ok : Ent → Bool) : ∀ (p : Option Nat) (l : List Ent), Rising Ent.key l → (∀ e ∈ l, ok e = true) → (∀ e ∈ l, above p e.key = true) → chain ok p l = true
 | p, [], _, _, _ => rfl
 | p, e :: r, h1, h2, h3 => by
   obtain ⟨a1, a2⟩ := List.pairwise_cons.1 h1
   rw [chain, h2 e (by simp), h3 e (by simp), chain_of_rise ok (some e.key) r a2 (fun x hx => h2 x (by simp [hx])) (fun x hx => by unfold above; simpa using a1 x hx)]
   rfl
theorem good_right {x : Vtx} (h : VGood x) : x.right = true := by
 unfold Vtx.right
 rw [chain_of_rise propOK none x.props h.prise (fun e he => by have := h.props e he; simp [propOK, this]) (fun _ _ => rfl), chain_of_rise (halfOK x.id) none x.halves h.hrise (fun e he => by have := h.halves e he; simp [halfOK, numB, this]) (fun _ _ => rfl)]
 simp [numB, h.there, h.id, h.few]
theorem tell_right {L : Gr} (hL : Fair L) {n : Nat} (h1 : 1 ≤ n) (h2 : n ≤ 40) : (tellV L n).right = true := by
 unfold tellV
 cases hf : findV L n with
 | none => simp [Vtx.right, numB, h1, h2, chain]
 | some x => exact good_right (hL.each x (findV_mem hf).1)
theorem one_still {L : Gr} (hL : Rising Vtx.id L) {o : Opr} {v : Nat} (hm : modeO o v ≤ 1) (hk : 1 ≤ o.kind) : findV (oneG L o).g v = findV L v := by
 have key : ¬ (v = o.a ∧ (o.kind = 5 ∨ o.kind = 6 ∨ o.kind ≤ 3)) ∧ ¬ (v = o.b ∧ (o.kind = 5 ∨ o.kind = 6)) := by
   unfold modeO at hm
   constructor
   · intro e; rw [if_pos e] at hm; omega
   · intro e
     split at hm
     · omega
     · first
         | omega
         | (rw [if_pos e] at hm; omega)
 obtain ⟨ka, kb⟩ := key
 have lay : ∀ {M : Gr} (hM : Rising Vtx.id M) (x : Vtx), v ≠ x.id → findV (layV x M) v = findV M v := fun hM x hx => by rw [findV_layE hM, if_neg hx]
 unfold oneG
 by_cases k1 : o.kind = 1
 · have na : v ≠ o.a := fun e => ka ⟨e, by omega⟩
   rw [if_pos k1]
   split
   · rfl
   · exact lay hL _ na
 · rw [if_neg k1]
   cases hf : findV L o.a with
   | none => rfl
   | some u =>
     have hu := (findV_mem hf).2
     simp only
     by_cases k2 : o.kind = 2
     · have na : v ≠ o.a := fun e => ka ⟨e, by omega⟩
       rw [if_pos k2]
       split
       · rfl
       · exact lay hL _ na
     · rw [if_neg k2]
       by_cases k3 : o.kind = 3
       · have na : v ≠ o.a := fun e => ka ⟨e, by omega⟩
         rw [if_pos k3]; exact lay hL _ (by show v ≠ u.id; rw [hu]; exact na)
       · rw [if_neg k3]
         by_cases k4 : o.kind = 4
         · rw [if_pos k4]
         · rw [if_neg k4]
           by_cases k5 : o.kind = 5
           · have na : v ≠ o.a := fun e => ka ⟨e, by omega⟩
             have nb : v ≠ o.b := fun e => kb ⟨e, by omega⟩
             rw [if_pos k5]
             cases hg : findV L o.b with
             | none => rfl
             | some z =>
               have hz := (findV_mem hg).2
               simp only
               split
               · rfl
               · split
                 · rfl
                 · show findV (layV _ (layV _ L)) v = _
                   rw [lay (layV_rise hL) _ (by show v ≠ z.id; rw [hz]; exact nb), lay hL _ (by show v ≠ u.id; rw [hu]; exact na)]
           · rw [if_neg k5]
             by_cases k6 : o.kind = 6 ∨ o.kind = 7
             · rw [if_pos k6]
               cases he : entX u.halves o.b with
               | none => rfl
               | some val =>
                 simp only
                 by_cases k7 : o.kind = 7
                 · rw [if_pos k7]
                 · have na : v ≠ o.a := fun e => ka ⟨e, by omega⟩
                   have nb : v ≠ o.b := fun e => kb ⟨e, by omega⟩
                   rw [if_neg k7]
                   cases hg : findV L o.b with
                   | none => exact lay hL _ (by show v ≠ u.id; rw [hu]; exact na)
                   | some z =>
                     have hz := (findV_mem hg).2
                     show findV (layV _ (layV _ L)) v = _
                     rw [lay (layV_rise hL) _ (by show v ≠ z.id; rw [hz]; exact nb), lay hL _ (by show v ≠ u.id; rw [hu]; exact na)]
             · rw [if_neg k6]
               split
               · rfl
               · split
                 · split <;> rfl
                 · rfl
theorem run_still {v : Nat} {ops : List Opr} : ∀ {L L' : Gr} {us vs : List Val}, Fair L → (∀ o ∈ ops, opOK o = true ∧ modeO o v ≤ 1) → ops.foldl okStep (some (L, us)) = some (L', vs) → findV L' v = findV L v := by
 induction ops with
 | nil => intro L L' us vs _ _ h; injection h with h; injection h with h _; rw [h]
 | cons o r ih =>
   intro L L' us vs hL hn h
   obtain ⟨h1, h2⟩ := hn o (by simp)
   rw [List.foldl_cons] at h
   by_cases e : (oneG L o).e = 0
   · have s1 : okStep (some (L, us)) o = some ((oneG L o).g, us ++ (oneG L o).vals) := by simp [okStep, e]
     rw [s1] at h
     rw [ih (hL.one h1) (fun p hp => hn p (by simp [hp])) h]
     exact one_still hL.rise h2 (opOK_parts h1).1.1
   · have s1 : okStep (some (L, us)) o = none := by simp [okStep, e]
     rw [s1, okStep_none] at h
     cases h
theorem do_still {L : Gr} {ops : List Opr} {v n : Nat} {k d : Int} (hL : Fair L) (hn : ∀ o ∈ ops, opOK o = true ∧ modeO o v ≤ 1) : findV (doG L ⟨1, ops, n, k, d⟩).1 v = findV L v := by
 unfold doG
 split
 · rfl
 · rw [if_pos rfl]
   cases h : okRun L ops with
   | none => simp only [h]
   | some p =>
     obtain ⟨L', vs⟩ := p
     simp only [h]
     exact run_still hL hn h
open Go.RowKit Go.Maps
theorem LRd.less {w : World} {aa : Option Addr} {n ca q : Nat} {l : List Vs} (h : LRd w (.slice aa n ca) l) (hn : n = l.length) (hq : q ≤ n) : LRd w (.slice aa q ca) (l.take q) := by
 have hr := h.row
 rw [← hn] at hr
 obtain ⟨a, c, e, h1, h2, h3⟩ := hr.shape
 injection e with e1 e2 e3
 subst e1 e3
 have hl : (l.take q).length = q := by rw [List.length_take]; omega
 refine ⟨⟨?_, ?_, fun a' c' e j u hu => ?_⟩, fun s hs => h.each s (List.mem_of_mem_take hs)⟩
 · rw [← vcells_take, List.length_take, hr.len, hl]; omega
 · exact ⟨_, _, by rw [hl], by omega, h2, h3⟩
 · injection e with e1 e2 e3
   subst e1 e3
   rw [← vcells_take, List.getElem?_take] at hu
   split at hu
   · exact hr.cell _ _ rfl j u hu
   · simp at hu
open Go.RowKit Go.Maps
theorem formL_iff {l : List Vtx} : formL l = true ↔ (∀ x ∈ l, x.right = true) ∧ apartL l := by
 unfold formL
 rw [Bool.and_eq_true, List.all_eq_true, decide_eq_true_iff, (seenK_len l).2]
open Go.RowKit
set_option maxRecDepth 100000 in
set_option maxHeartbeats 4000000 in
theorem vsame_any (x y : Vtx) (vp vh vp' vh' : Value) (w : World) (h1 : VRd w vp vh x) (h2 : VRd w vp' vh' y) :
   Calls Tryz.prog 17 #[vtxV x vp vh, vtxV y vp' vh'] w fun e w' => e = .returned (.bool (decide (x = y))) ∧ Mod (fun _ => False) w w' := by
 obtain ⟨id, th, ps, hs⟩ := x
 obtain ⟨id', th', ps', hs'⟩ := y
 have HP := Lib.hid h1.props
 have HH := Lib.hid h1.halves
 have HP2 := Lib.hid h2.props
 have HH2 := Lib.hid h2.halves
 simp only at HP HH HP2 HH2
 obtain ⟨ap, cp, rfl, hcp, hcp2, -⟩ := h1.props.shape
 obtain ⟨ah, ch, rfl, hch, hch2, -⟩ := h1.halves.shape
 obtain ⟨ap', cp', rfl, hcp', hcp2', -⟩ := h2.props.shape
 obtain ⟨ah', ch', rfl, hch', hch2', -⟩ := h2.halves.shape
 clear h1 h2
 simp only [vtxV] at *
 obtain ⟨np, hnp⟩ : ∃ n, n = ps.length := ⟨_, rfl⟩
 have HNP := Lib.hid hnp
 obtain ⟨np', hnp'⟩ : ∃ n, n = ps'.length := ⟨_, rfl⟩
 have HNP2 := Lib.hid hnp'
 rw [← hnp] at HP hcp ⊢
 rw [← hnp'] at HP2 hcp' ⊢
 obtain ⟨nh, hnh⟩ : ∃ n, n = hs.length := ⟨_, rfl⟩
 have HNH := Lib.hid hnh
 obtain ⟨nh', hnh'⟩ : ∃ n, n = hs'.length := ⟨_, rfl⟩
 have HNH2 := Lib.hid hnh'
 rw [← hnh] at HH hch ⊢
 rw [← hnh'] at HH2 hch' ⊢
 obtain ⟨bs, hbs⟩ : ∃ b, b = decide ((⟨id, th, ps, hs⟩ : Vtx) = ⟨id', th', ps', hs'⟩) := ⟨_, rfl⟩
 have HBS : Hid ((⟨id, th, ps, hs⟩ : Vtx) ≠ ⟨id', th', ps', hs'⟩ → bs = false) := Lib.hid (fun h => by rw [hbs]; exact decide_eq_false h)
 have HBT : Hid ((⟨id, th, ps, hs⟩ : Vtx) = ⟨id', th', ps', hs'⟩ → bs = true) := Lib.hid (fun h => by rw [hbs]; exact decide_eq_true h)
 rw [← hbs]
 clear hnp hnh hnp' hnh' hbs
 by_cases hid : id = id'
 rotate_left
 · have f1 : ((id : Int) == (id' : Int)) = false := by simp; omega
   have f2 : ¬ (id : Int) = (id' : Int) := by omega
   go_enter Tryz.func17, Tryz.ntmps17
   have HF : Hid (bs = false) := Lib.hid (HBS.out (by intro e; injection e; omega))
   rw [HF.out]
   go_wp2
   go_ret
   exact ⟨rfl, ((Mod.refl _ _).alloc _).alloc _⟩
 subst hid
 by_cases hth : th = th'
 rotate_left
 · have HTT := Lib.hid hth
   go_enter Tryz.func17, Tryz.ntmps17
   have HF : Hid (bs = false) := Lib.hid (HBS.out (by intro e; injection e; exact HTT.out ‹_›))
   rw [HF.out]
   cases th <;> cases th' <;> first | (exact absurd rfl hth) | skip
   all_goals
     clear hth
     go_wp2
     go_ret
     exact ⟨rfl, ((Mod.refl _ _).alloc _).alloc _⟩
 subst hth
 by_cases hnp : np = np'
 rotate_left
 · have f1 : ((np : Int) == (np' : Int)) = false := by simp; omega
   have f2 : ¬ (np : Int) = (np' : Int) := by omega
   go_enter Tryz.func17, Tryz.ntmps17
   have HF : Hid (bs = false) := Lib.hid (HBS.out (by intro e; injection e; rename_i e3 _; rw [HNP.out, HNP2.out, e3] at f2; exact f2 rfl))
   rw [HF.out]
   go_wp2
   go_ret
   exact ⟨rfl, ((Mod.refl _ _).alloc _).alloc _⟩
 subst hnp
 by_cases hnh : nh = nh'
 rotate_left
 · have f1 : ((nh : Int) == (nh' : Int)) = false := by simp; omega
   have f2 : ¬ (nh : Int) = (nh' : Int) := by omega
   go_enter Tryz.func17, Tryz.ntmps17
   have HF : Hid (bs = false) := Lib.hid (HBS.out (by intro e; injection e; rename_i _ e4; rw [HNH.out, HNH2.out, e4] at f2; exact f2 rfl))
   rw [HF.out]
   go_wp2
   go_ret
   exact ⟨rfl, ((Mod.refl _ _).alloc _).alloc _⟩
 subst hnh
 have HB := Lib.hid (BoAt.begin w #[.int .u32 (id : Int), .bool th, .slice ap np cp, .slice ah nh ch] #[.int .u32 (id : Int), .bool th, .slice ap' np cp', .slice ah' nh ch'])
 go_enter Tryz.func17, Tryz.ntmps17
 go_wp2
 go_loopw [40] (fun i wr => ∃ k : Nat, i = .int .i64 (k : Int) ∧ k ≤ np ∧ BoAt w #[.int .u32 (id : Int), .bool th, .slice ap np cp, .slice ah nh ch] #[.int .u32 (id : Int), .bool th, .slice ap' np cp', .slice ah' nh ch'] wr ∧ ps.take k = ps'.take k) (fun i _ => np - (intOf i).toNat)
 case atStart => exact ⟨0, rfl, Nat.zero_le _, HB.out, rfl⟩
 case round =>
   obtain ⟨k, rfl, hk, hm, htk⟩ := hrel
   have HM := Lib.hid hm
   have HTK := Lib.hid htk
   clear hm htk HB
   by_cases hkn : k < np
   · obtain ⟨x, hx⟩ : ∃ x, ps[k]? = some x := ⟨_, List.getElem?_eq_getElem (by rw [← HNP.out]; exact hkn)⟩
     obtain ⟨y, hy⟩ : ∃ y, ps'[k]? = some y := ⟨_, List.getElem?_eq_getElem (by rw [← HNP2.out]; exact hkn)⟩
     obtain ⟨b, off, e1, hb, p0, p1, p2, p3⟩ := HP.out.ent hx rfl
     obtain ⟨b', off', e2, hb', q0, q1, q2, q3⟩ := HP2.out.ent hy rfl
     have d0 := cell_of_row HM.out.one 2
     have d1 := cell_of_row HM.out.two 2
     simp at d0 d1
     subst e1 e2
     have p0 : ∀ x : MW wr, x.w.cell? _ = some _ := fun x => x.cell (HM.out.mod.cell p0)
     have p1 : ∀ x : MW wr, x.w.cell? _ = some _ := fun x => x.cell (HM.out.mod.cell p1)
     have p2 : ∀ x : MW wr, x.w.cell? _ = some _ := fun x => x.cell (HM.out.mod.cell p2)
     have p3 : ∀ x : MW wr, x.w.cell? _ = some _ := fun x => x.cell (HM.out.mod.cell p3)
     have q0 : ∀ x : MW wr, x.w.cell? _ = some _ := fun x => x.cell (HM.out.mod.cell q0)
     have q1 : ∀ x : MW wr, x.w.cell? _ = some _ := fun x => x.cell (HM.out.mod.cell q1)
     have q2 : ∀ x : MW wr, x.w.cell? _ = some _ := fun x => x.cell (HM.out.mod.cell q2)
     have q3 : ∀ x : MW wr, x.w.cell? _ = some _ := fun x => x.cell (HM.out.mod.cell q3)
     have d0 : ∀ x : MW wr, x.w.cell? _ = some _ := fun x => x.cell d0
     have d1 : ∀ x : MW wr, x.w.cell? _ = some _ := fun x => x.cell d1
     rcases ent_cases x y with hxy | ⟨hxy, hcs⟩
     · subst hxy
       have HTS := Lib.hid (takes_eq HTK.out hx hy)
       clear hx hy hb hb'
       obtain ⟨xe, ⟨xk, xn, xs⟩⟩ := x
       simp only at p0 p1 p2 p3 q0 q1 q2 q3
       go_wp2_with fail
       refine wp_region_quietM (by kernel_rfl) (by kernel_rfl) ?_
       repeat (go_big_quiet_step (fail))
       refine wpQuiet_nil ?_
       intro w3 hm3
       have M3 := Lib.hid (HM.out.more (MW.mod_of hm3))
       clear hm3 p0 p1 p2 p3 q0 q1 q2 q3 d0 d1
       go_wp2
       go_roundw
       case rel => exact ⟨k + 1, by go_num, by omega, M3.out, HTS.out⟩
       case measure => simp [intOf]; omega
     · have HNE := Lib.hid (at_ne hx hy hxy)
       clear hx hy hxy hb hb'
       obtain ⟨xe, ⟨xk, xn, xs⟩⟩ := x
       obtain ⟨ye, ⟨yk, yn, ys⟩⟩ := y
       simp only at p0 p1 p2 p3 q0 q1 q2 q3 hcs
       have HF : Hid (bs = false) := Lib.hid (HBS.out (by intro e; injection e with _ _ e _; exact HNE.out e))
       rcases hcs with ⟨f1, f2⟩ | ⟨rfl, f1, f2⟩ | ⟨rfl, rfl, f1, f2⟩ | ⟨rfl, rfl, rfl, f1⟩
       all_goals
         go_wp2_with fail
         refine wp_region_quietM (by kernel_rfl) (by kernel_rfl) ?_
         repeat (go_big_quiet_step (fail))
         refine wpQuiet_nil ?_
         intro w3 hm3
         have M3 := Lib.hid (HM.out.more (MW.mod_of hm3))
         clear hm3 p0 p1 p2 p3 q0 q1 q2 q3 d0 d1
         go_wp2
         go_ret
         exact ⟨by rw [HF.out]; rfl, M3.out.mod⟩
   · have HEQnp : Hid (ps = ps') := Lib.hid (by
       have h := HTK.out
       rwa [List.take_of_length_le (by have := HNP.out; omega), List.take_of_length_le (by have := HNP2.out; omega)] at h)
     have HB := Lib.hid HM.out
     have g3 := cell_of_row HM.out.one 3
     have g4 := cell_of_row HM.out.two 3
     simp at g3 g4
     go_wp2
     go_loopw [58] (fun i wr => ∃ k : Nat, i = .int .i64 (k : Int) ∧ k ≤ nh ∧ BoAt w #[.int .u32 (id : Int), .bool th, .slice ap np cp, .slice ah nh ch] #[.int .u32 (id : Int), .bool th, .slice ap' np cp', .slice ah' nh ch'] wr ∧ hs.take k = hs'.take k) (fun i _ => nh - (intOf i).toNat)
     case atStart => exact ⟨0, rfl, Nat.zero_le _, HB.out, rfl⟩
     case round =>
       obtain ⟨k, rfl, hk, hm, htk⟩ := hrel
       have HM := Lib.hid hm
       have HTK := Lib.hid htk
       clear hm htk HB
       by_cases hkn : k < nh
       · obtain ⟨x, hx⟩ : ∃ x, hs[k]? = some x := ⟨_, List.getElem?_eq_getElem (by rw [← HNH.out]; exact hkn)⟩
         obtain ⟨y, hy⟩ : ∃ y, hs'[k]? = some y := ⟨_, List.getElem?_eq_getElem (by rw [← HNH2.out]; exact hkn)⟩
         obtain ⟨b, off, e1, hb, p0, p1, p2, p3⟩ := HH.out.ent hx rfl
         obtain ⟨b', off', e2, hb', q0, q1, q2, q3⟩ := HH2.out.ent hy rfl
         have d0 := cell_of_row HM.out.one 3
         have d1 := cell_of_row HM.out.two 3
         simp at d0 d1
         subst e1 e2
         have p0 : ∀ x : MW wr, x.w.cell? _ = some _ := fun x => x.cell (HM.out.mod.cell p0)
         have p1 : ∀ x : MW wr, x.w.cell? _ = some _ := fun x => x.cell (HM.out.mod.cell p1)
         have p2 : ∀ x : MW wr, x.w.cell? _ = some _ := fun x => x.cell (HM.out.mod.cell p2)
         have p3 : ∀ x : MW wr, x.w.cell? _ = some _ := fun x => x.cell (HM.out.mod.cell p3)
         have q0 : ∀ x : MW wr, x.w.cell? _ = some _ := fun x => x.cell (HM.out.mod.cell q0)
         have q1 : ∀ x : MW wr, x.w.cell? _ = some _ := fun x => x.cell (HM.out.mod.cell q1)
         have q2 : ∀ x : MW wr, x.w.cell? _ = some _ := fun x => x.cell (HM.out.mod.cell q2)
         have q3 : ∀ x : MW wr, x.w.cell? _ = some _ := fun x => x.cell (HM.out.mod.cell q3)
         have d0 : ∀ x : MW wr, x.w.cell? _ = some _ := fun x => x.cell d0
         have d1 : ∀ x : MW wr, x.w.cell? _ = some _ := fun x => x.cell d1
         rcases ent_cases x y with hxy | ⟨hxy, hcs⟩
         · subst hxy
           have HTS := Lib.hid (takes_eq HTK.out hx hy)
           clear hx hy hb hb'
           obtain ⟨xe, ⟨xk, xn, xs⟩⟩ := x
           simp only at p0 p1 p2 p3 q0 q1 q2 q3
           go_wp2_with fail
           refine wp_region_quietM (by kernel_rfl) (by kernel_rfl) ?_
           repeat (go_big_quiet_step (fail))
           refine wpQuiet_nil ?_
           intro w3 hm3
           have M3 := Lib.hid (HM.out.more (MW.mod_of hm3))
           clear hm3 p0 p1 p2 p3 q0 q1 q2 q3 d0 d1
           go_wp2
           go_roundw
           case rel => exact ⟨k + 1, by go_num, by omega, M3.out, HTS.out⟩
           case measure => simp [intOf]; omega
         · have HNE := Lib.hid (at_ne hx hy hxy)
           clear hx hy hxy hb hb'
           obtain ⟨xe, ⟨xk, xn, xs⟩⟩ := x
           obtain ⟨ye, ⟨yk, yn, ys⟩⟩ := y
           simp only at p0 p1 p2 p3 q0 q1 q2 q3 hcs
           have HF : Hid (bs = false) := Lib.hid (HBS.out (by intro e; injection e with _ _ _ e; exact HNE.out e))
           rcases hcs with ⟨f1, f2⟩ | ⟨rfl, f1, f2⟩ | ⟨rfl, rfl, f1, f2⟩ | ⟨rfl, rfl, rfl, f1⟩
           all_goals
             go_wp2_with fail
             refine wp_region_quietM (by kernel_rfl) (by kernel_rfl) ?_
             repeat (go_big_quiet_step (fail))
             refine wpQuiet_nil ?_
             intro w3 hm3
             have M3 := Lib.hid (HM.out.more (MW.mod_of hm3))
             clear hm3 p0 p1 p2 p3 q0 q1 q2 q3 d0 d1
             go_wp2
             go_ret
             exact ⟨by rw [HF.out]; rfl, M3.out.mod⟩
       · have HEQnh : Hid (hs = hs') := Lib.hid (by
           have h := HTK.out
           rwa [List.take_of_length_le (by have := HNH.out; omega), List.take_of_length_le (by have := HNH2.out; omega)] at h)
         have HB := Lib.hid HM.out
         have HT : Hid (bs = true) := Lib.hid (HBT.out (by rw [HEQnp.out, HEQnh.out]))
         go_wp2
         go_ret
         exact ⟨by rw [HT.out]; rfl, HM.out.mod⟩
open Go.RowKit Go.Maps
theorem tellV_id (L : Gr) (v : Nat) : (tellV L v).id = v := by
 unfold tellV
 cases h : findV L v with
 | none => rfl
 | some x => exact (findV_mem h).2
theorem sameB_dec {x y : Vtx} (h : x.id = y.id) : sameB x y = decide (x = y) := by
 by_cases e : x = y
 · rw [decide_eq_true e]; exact (sameB_iff h).2 e
 · rw [decide_eq_false e]
   cases hs : sameB x y with
   | false => rfl
   | true => exact absurd ((sameB_iff h).1 hs) e
theorem in_wants {ops : List Opr} (h : ∀ o ∈ ops, opOK o = true) {v : Nat} : v ∈ (wantsP ops).map Prod.fst ↔ modeL ops v ≠ 0 := by
 constructor
 · intro hv
   obtain ⟨x, hx, rfl⟩ := List.mem_map.1 hv
   have h1 := ((wantsP_ok h).mem x).1 hx
   rw [← h1.1]; exact h1.2
 · intro hv
   exact List.mem_map.2 ⟨(v, modeL ops v), ((wantsP_ok h).mem (v, modeL ops v)).2 ⟨rfl, hv⟩, rfl⟩
theorem wants_named {ops : List Opr} (h : ∀ o ∈ ops, opOK o = true) : Named (fun v => v ∈ (wantsP ops).map Prod.fst) ops := fun o ho => by
 refine ⟨h o ho, (in_wants h).2 (fun e => ?_), fun hk => (in_wants h).2 (fun e => ?_)⟩
 · have h1 := modeL_zero.1 e o ho
   unfold modeO at h1
   split at h1
   · cases h1
   · split at h1
     · cases h1
     · rw [if_pos rfl] at h1; cases h1
 · have h1 := modeL_zero.1 e o ho
   unfold modeO at h1
   split at h1
   · cases h1
   · rw [if_pos ⟨rfl, hk⟩] at h1; cases h1
theorem modeL_ge {ops : List Opr} {o : Opr} (h : o ∈ ops) (v : Nat) : modeO o v ≤ modeL ops v := by
 induction ops using esnoc_ind with
 | h0 => cases h
 | hs l p ih =>
   rw [modeL_snoc]
   rcases List.mem_append.1 h with h1 | h1
   · have := ih h1; omega
   · rw [List.mem_singleton] at h1; subst h1; omega
def wantV (L : Gr) (ops : List Opr) : List Vtx := ((wantsP ops).map Prod.fst).map (tellV L)
theorem wantV_right {L : Gr} (hL : Fair L) {ops : List Opr} (h : ∀ o ∈ ops, opOK o = true) : ∀ x ∈ wantV L ops, x.right = true := fun x hx => by
 unfold wantV at hx
 obtain ⟨n, hn, rfl⟩ := List.mem_map.1 hx
 obtain ⟨w, hw, rfl⟩ := List.mem_map.1 hn
 have := wants_mem h hw
 exact tell_right hL this.1 this.2.1
theorem wantV_form {L : Gr} (hL : Fair L) {ops : List Opr} (h : ∀ o ∈ ops, opOK o = true) : formL (wantV L ops) = true := by
 refine formL_iff.2 ⟨wantV_right hL h, ?_⟩
 unfold apartL wantV
 have e : (((wantsP ops).map Prod.fst).map (tellV L)).map Vtx.id = (wantsP ops).map Prod.fst := by
   rw [List.map_map]
   exact (List.map_congr_left (fun v _ => tellV_id L v)).trans (List.map_id _)
 rw [e]
 have hr := (wantsP_ok h).rise
 unfold Rising at hr
 unfold List.Nodup
 rw [List.pairwise_map]
 exact hr.imp (fun h => Nat.ne_of_lt h)
theorem wantV_agree {L : Gr} (hL : Fair L) {ops : List Opr} (h : ∀ o ∈ ops, opOK o = true) : Agree (fun v => v ∈ (wantsP ops).map Prod.fst) L (layAll (wantV L ops)) := fun v hv => by
 have h1 := findV_wanted hL ((wantsP ops).map Prod.fst) v (wantV_right hL h)
 unfold wantV
 rw [h1, if_pos hv]
theorem enough_E {L : Gr} (hL : Fair L) {ops : List Opr} (hc : checkR (txq ops) = 0) : planE (wantV L ops) ops = 0 := by
 unfold planE
 rw [wantV_form hL (ops := ops) (checkR_tx hc rfl).1, if_neg (by simp), hc]
theorem enough_do {L : Gr} (hL : Fair L) {ops : List Opr} (hc : checkR (txq ops) = 0) :
   planAns (wantV L ops) ops = (doG L (txq ops)).2 ∧ Agree (fun v => v ∈ (wantsP ops).map Prod.fst) (doG L (txq ops)).1 (doG (layAll (wantV L ops)) (txq ops)).1 := by
 have hok : ∀ o ∈ ops, opOK o = true := (checkR_tx hc rfl).1
 have h := (wantV_agree hL hok).do (v := 0) (k := 0) (d := 0) hL (layAll_fair _ (wantV_right hL hok)) (wants_named hok)
 exact ⟨h.1.symm, h.2⟩
theorem enough_out {L : Gr} (hL : Fair L) {ops : List Opr} (hc : checkR (txq ops) = 0) {x : Wt} (hx : x ∈ wantsP ops) :
   (∀ v ∈ planOut (wantV L ops) ops, v.id = x.1 → v = tellV (doG L (txq ops)).1 x.1 ∧ x.2 = 2) ∧
   ((∃ v ∈ planOut (wantV L ops) ops, v.id = x.1) ↔ tellV L x.1 ≠ tellV (doG L (txq ops)).1 x.1) := by
 have hok : ∀ o ∈ ops, opOK o = true := (checkR_tx hc rfl).1
 obtain ⟨ha, hg⟩ := enough_do hL hc
 have hg0 := wantV_agree hL hok
 have hn : x.1 ∈ (wantsP ops).map Prod.fst := List.mem_map_of_mem hx
 have hwm := wants_mem hok hx
 by_cases he : (planAns (wantV L ops) ops).e = 0
 · have ho : planOut (wantV L ops) ops = changedG (layAll (wantV L ops)) (doG (layAll (wantV L ops)) (txq ops)).1 (wantsP ops) := by unfold planOut; rw [if_pos he]
   rw [ho]
   have mem : ∀ v, v ∈ changedG (layAll (wantV L ops)) (doG (layAll (wantV L ops)) (txq ops)).1 (wantsP ops) ↔ ∃ y ∈ wantsP ops, y.2 = 2 ∧ tellV (doG L (txq ops)).1 y.1 ≠ tellV L y.1 ∧ v = tellV (doG L (txq ops)).1 y.1 := by
     intro v
     unfold changedG
     rw [List.mem_map]
     constructor
     · rintro ⟨y, hy, rfl⟩
       obtain ⟨h1, h2⟩ := List.mem_filter.1 hy
       have hyn : y.1 ∈ (wantsP ops).map Prod.fst := List.mem_map_of_mem h1
       rw [Bool.and_eq_true, decide_eq_true_eq, ← hg.tell hyn, ← hg0.tell hyn, sameB_dec (by rw [tellV_id, tellV_id])] at h2
       exact ⟨y, h1, h2.1, by simpa using h2.2, (hg.tell hyn).symm⟩
     · rintro ⟨y, h1, h2, h3, rfl⟩
       have hyn : y.1 ∈ (wantsP ops).map Prod.fst := List.mem_map_of_mem h1
       refine ⟨y, List.mem_filter.2 ⟨h1, ?_⟩, (hg.tell hyn).symm⟩
       rw [Bool.and_eq_true, decide_eq_true_eq, ← hg.tell hyn, ← hg0.tell hyn, sameB_dec (by rw [tellV_id, tellV_id])]
       exact ⟨h2, by simpa using h3⟩
   have same : ∀ y ∈ wantsP ops, y.1 = x.1 → y = x := fun y hy e => by
     have h1 := wants_mem hok hy
     have h2 : y.2 = x.2 := by rw [h1.2.2.1, hwm.2.2.1, e]
     exact Prod.ext e h2
   refine ⟨fun v hv hid => ?_, ⟨fun h => ?_, fun h => ?_⟩⟩
   · obtain ⟨y, h1, h2, h3, rfl⟩ := (mem v).1 hv
     rw [tellV_id] at hid
     have := same y h1 hid
     subst this
     exact ⟨rfl, h2⟩
   · obtain ⟨v, hv, hid⟩ := h
     obtain ⟨y, h1, h2, h3, rfl⟩ := (mem v).1 hv
     rw [tellV_id] at hid
     have := same y h1 hid
     subst this
     exact fun e => h3 e.symm
   · have h2 : x.2 = 2 := by
       rcases hwm.2.2.2 with e | e
       · exfalso
         apply h
         have hs : ∀ o ∈ ops, opOK o = true ∧ modeO o x.1 ≤ 1 := fun o ho => ⟨hok o ho, by
           have h3 : modeL ops x.1 = 1 := by rw [← hwm.2.2.1, e]
           exact Nat.le_trans (modeL_ge ho x.1) (by omega)⟩
         unfold tellV
         rw [show findV (doG L (txq ops)).1 x.1 = findV L x.1 from do_still hL hs]
       · exact e
     exact ⟨tellV (doG L (txq ops)).1 x.1, (mem _).2 ⟨x, hx, h2, fun e => h e.symm, rfl⟩, tellV_id _ _⟩
 · have ho : planOut (wantV L ops) ops = [] := by unfold planOut; rw [if_neg he]
   rw [ho]
   refine ⟨fun v hv => (by cases hv), ⟨fun h => ?_, fun h => ?_⟩⟩
   · obtain ⟨v, hv, _⟩ := h
     cases hv
   exfalso
   apply h
   rw [ha] at he
   have hd : (doG L (txq ops)).1 = L := by
     unfold doG at he ⊢
     split
     · rfl
     · rename_i hne
       have hk1 : (txq ops).kind = 1 := rfl
       rw [if_neg hne, if_pos hk1] at he
       rw [if_pos hk1]
       cases hr : okRun L (txq ops).ops with
       | none => simp only [hr]
       | some p => simp only [hr] at he; exact absurd trivial he
   rw [hd]
open Go.RowKit
theorem wt_cases (x y : Wt) : x = y ∨ (x ≠ y ∧ ((((x.1 : Int) == (y.1 : Int)) = false ∧ ¬ (x.1 : Int) = (y.1 : Int)) ∨ (x.1 = y.1 ∧ ((x.2 : Int) == (y.2 : Int)) = false ∧ ¬ (x.2 : Int) = (y.2 : Int)))) := by
 have d : ∀ {p q : Nat}, p ≠ q → ((p : Int) == (q : Int)) = false ∧ ¬ (p : Int) = (q : Int) := fun {p q} h => ⟨by simp; omega, by omega⟩
 obtain ⟨a, b⟩ := x
 obtain ⟨a', b'⟩ := y
 simp only
 by_cases h1 : a = a'
 · by_cases h2 : b = b'
   · exact .inl (by rw [h1, h2])
   · exact .inr ⟨fun e => h2 (congrArg Prod.snd e), .inr ⟨h1, d h2⟩⟩
 · exact .inr ⟨fun e => h1 (congrArg Prod.fst e), .inl (d h1)⟩
set_option maxRecDepth 100000 in
set_option maxHeartbeats 2000000 in
theorem wsame_any (v u : Value) (l m : List Wt) (w : World) (hv : WRd w v l) (hu : WRd w u m) :
   Calls Tryz.prog 52 #[v, u] w fun e w' => e = .returned (.bool (decide (l = m))) ∧ Mod (fun _ => False) w w' := by
 obtain ⟨a, c, rfl, hc1, hc2, -⟩ := hv.row.shape
 obtain ⟨a', c', rfl, hc1', hc2', -⟩ := hu.row.shape
 have HV := Lib.hid hv
 have HU := Lib.hid hu
 clear hv hu
 obtain ⟨n, hl⟩ : ∃ n, n = l.length := ⟨_, rfl⟩
 obtain ⟨n', hl'⟩ : ∃ n, n = m.length := ⟨_, rfl⟩
 have HN := Lib.hid hl
 have HN' := Lib.hid hl'
 rw [← hl] at HV hc1 ⊢
 rw [← hl'] at HU hc1' ⊢
 clear hl hl'
 by_cases hnn : n = n'
 · subst hnn
   go_enter Tryz.func52, Tryz.ntmps52
   go_wp2
   go_loopw [13] (fun i wr => ∃ k : Nat, i = .int .i64 k ∧ k ≤ n ∧ Mod (fun _ => False) w wr ∧ l.take k = m.take k) (fun i _ => n - (intOf i).toNat)
   case atStart => exact ⟨0, rfl, Nat.zero_le _, Mod.refl _ _, rfl⟩
   case round =>
     obtain ⟨k, rfl, hk, hm, htk⟩ := hrel
     have HM := Lib.hid hm
     have HTK := Lib.hid htk
     clear hm htk
     by_cases hkn : k < n
     · obtain ⟨x, hx⟩ : ∃ x, l[k]? = some x := ⟨_, List.getElem?_eq_getElem (by rw [← HN.out]; exact hkn)⟩
       obtain ⟨y, hy⟩ : ∃ y, m[k]? = some y := ⟨_, List.getElem?_eq_getElem (by rw [← HN'.out]; exact hkn)⟩
       obtain ⟨b, off, rfl, hb, p0, p1⟩ := HV.out.ent hx rfl
       obtain ⟨b', off', rfl, hb', q0, q1⟩ := HU.out.ent hy rfl
       have p0 : ∀ x : MW wr, x.w.cell? _ = some _ := fun x => x.cell (HM.out.cell p0)
       have p1 : ∀ x : MW wr, x.w.cell? _ = some _ := fun x => x.cell (HM.out.cell p1)
       have q0 : ∀ x : MW wr, x.w.cell? _ = some _ := fun x => x.cell (HM.out.cell q0)
       have q1 : ∀ x : MW wr, x.w.cell? _ = some _ := fun x => x.cell (HM.out.cell q1)
       rcases wt_cases x y with hxy | ⟨hxy, hcs⟩
       · subst hxy
         have HTS := Lib.hid (takes_eq HTK.out hx hy)
         clear hx hy
         obtain ⟨xk, xn⟩ := x
         simp only at p0 p1 q0 q1
         go_wp2_with fail
         refine wp_region_quietM (by kernel_rfl) (by kernel_rfl) ?_
         repeat (go_big_quiet_step (fail))
         refine wpQuiet_nil ?_
         intro w3 hm3
         have M3 : Hid (Mod (fun _ => False) w w3) := Lib.hid (HM.out.trans (MW.mod_of hm3))
         clear hm3 p0 q0 p1 q1
         go_wp2
         go_roundw
         case rel => exact ⟨k + 1, by go_num, by omega, M3.out, HTS.out⟩
         case measure => simp [intOf]; omega
       · have HNE := Lib.hid (at_ne hx hy hxy)
         clear hx hy hxy
         obtain ⟨xk, xn⟩ := x
         obtain ⟨yk, yn⟩ := y
         simp only at p0 p1 q0 q1 hcs
         rcases hcs with ⟨f1, f2⟩ | ⟨rfl, f1, f2⟩
         all_goals
           go_wp2_with fail
           refine wp_region_quietM (by kernel_rfl) (by kernel_rfl) ?_
           repeat (go_big_quiet_step (fail))
           refine wpQuiet_nil ?_
           intro w3 hm3
           have M3 : Hid (Mod (fun _ => False) w w3) := Lib.hid (HM.out.trans (MW.mod_of hm3))
           clear hm3 p0 q0 p1 q1
           go_wp2
           go_ret
           exact ⟨by rw [decide_eq_false HNE.out]; rfl, M3.out⟩
     · have HEQ : Hid (l = m) := Lib.hid (by
         have h := HTK.out
         rwa [List.take_of_length_le (by have := HN.out; omega), List.take_of_length_le (by have := HN'.out; omega)] at h)
       go_wp2
       go_ret
       exact ⟨by rw [decide_eq_true HEQ.out]; rfl, HM.out⟩
 · have HNE : Hid (l ≠ m) := Lib.hid (by rintro rfl; exact hnn (HN.out.trans HN'.out.symm))
   go_enter Tryz.func52, Tryz.ntmps52
   go_wp2
   go_ret
   exact ⟨by rw [decide_eq_false HNE.out]; rfl, Mod.refl _ _⟩
theorem wsame18_any (v u : Value) (l m : List Wt) (w : World) (hv : WRd w v l) (hu : WRd w u m) :
   Calls Tryz.prog 29 #[v, u] w fun e w' => e = .returned (.bool (decide (l = m))) ∧ Mod (fun _ => False) w w' := by
 have HW := Lib.hid (wsame_any v u l m w hv hu)
 obtain ⟨a, c, rfl, -⟩ := hv.row.shape
 obtain ⟨a', c', rfl, -⟩ := hu.row.shape
 generalize decide (l = m) = b at HW ⊢
 clear hv hu
 go_enter Tryz.func29, Tryz.ntmps29
 go_wp2_with (go_at_call 52; refine HW.out.mono ?_; (rintro e w1 ⟨rfl, hm1⟩); have HM1 := Lib.hid hm1; clear hm1)
 go_ret
 exact ⟨rfl, HM1.out⟩
end Go.Proofs.YtlpdifinkcjckaaGreatDoor
