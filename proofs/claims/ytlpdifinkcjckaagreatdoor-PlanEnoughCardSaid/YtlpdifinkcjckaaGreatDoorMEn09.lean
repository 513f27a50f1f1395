import Derived.Test.YtlpdifinkcjckaaGreatDoorMEn08
set_option linter.unusedVariables false
set_option linter.unusedSimpArgs false
namespace Go.Proofs.YtlpdifinkcjckaaGreatDoor
structure VGood (x : Vtx) : Prop where
 there : x.there = true
 id : 1 ≤ x.id ∧ x.id ≤ 40
 prise : Rising Ent.key x.props
 hrise : Rising Ent.key x.halves
 props : ∀ p ∈ x.props, p.key ≤ 3 ∧ p.val.ok = true ∧ p.val.k ≠ 0
 halves : ∀ h ∈ x.halves, 1 ≤ h.key ∧ h.key ≤ 40 ∧ h.key ≠ x.id ∧ h.val.ok = true
 few : x.halves.length ≤ 16
structure Good (L : Gr) : Prop where
 rise : Rising Vtx.id L
 each : ∀ x ∈ L, VGood x
 pair : ∀ x ∈ L, ∀ h ∈ x.halves, ∃ y ∈ L, y.id = h.key ∧ (⟨x.id, h.val⟩ : Ent) ∈ y.halves
theorem Good.nil : Good [] := ⟨List.Pairwise.nil, by simp, by simp⟩
theorem Rising.short {α : Type} {key : α → Nat} {l : List α} (h : Rising key l) {b m : Nat} (hb : ∀ x ∈ l, b ≤ key x ∧ key x < m) : l.length ≤ m - b := by
 rcases rising_bound h hb with c | c
 · omega
 · subst c; simp
theorem Good.short {L : Gr} (h : Good L) : L.length ≤ 40 := h.rise.short (b := 1) (m := 41) (fun x hx => by have := (h.each x hx).id; omega)
theorem VGood.props_short {x : Vtx} (h : VGood x) : x.props.length ≤ 4 := h.prise.short (b := 0) (m := 4) (fun p hp => by have := (h.props p hp).1; omega)
theorem findV_none {L : Gr} {v : Nat} : findV L v = none ↔ ∀ x ∈ L, x.id ≠ v := by
 unfold findV
 rw [List.find?_eq_none]
 simp
theorem findV_mem {L : Gr} {v : Nat} {x : Vtx} (h : findV L v = some x) : x ∈ L ∧ x.id = v := by
 unfold findV at h
 exact ⟨List.mem_of_find?_eq_some h, by simpa using List.find?_some h⟩
theorem entX_mem {l : List Ent} {f : Nat} {v : Val} (h : entX l f = some v) : (⟨f, v⟩ : Ent) ∈ l := by
 unfold entX at h
 rw [Option.map_eq_some_iff] at h
 obtain ⟨e, he, rfl⟩ := h
 have h1 := List.mem_of_find?_eq_some he
 have h2 : e.key = f := by simpa using List.find?_some he
 subst h2
 exact h1
theorem entX_isNone {l : List Ent} {f : Nat} : entX l f = none ↔ ∀ e ∈ l, e.key ≠ f := by
 unfold entX
 rw [Option.map_eq_none_iff, List.find?_eq_none]
 simp
theorem entX_isSome {l : List Ent} {f : Nat} {v : Val} (h : Rising Ent.key l) : entX l f = some v ↔ (⟨f, v⟩ : Ent) ∈ l := by
 refine ⟨entX_mem, fun hm => ?_⟩
 cases hx : entX l f with
 | none => exact absurd rfl (entX_isNone.1 hx _ hm)
 | some u =>
   have := h.uniq (entX_mem hx) hm rfl
   injection this with _ e
   rw [e]
theorem setH_mem {x : Vtx} {f : Nat} {v : Val} {b : Bool} (h : Rising Ent.key x.halves) {e : Ent} : e ∈ (setH x f v b).halves ↔ (e ∈ x.halves ∧ e.key ≠ f) ∨ (b = true ∧ e = ⟨f, v⟩) := by
 unfold setH
 simp only
 rw [layG_mem h]
 cases b <;> simp
theorem layV_mem {x y : Vtx} {L : Gr} (h : Rising Vtx.id L) : y ∈ layV x L ↔ (y ∈ L ∧ y.id ≠ x.id) ∨ (x.there = true ∧ y = x) := by
 unfold layV
 rw [layG_mem h]
 cases x.there <;> simp
theorem layV_rise {x : Vtx} {L : Gr} (h : Rising Vtx.id L) : Rising Vtx.id (layV x L) := Rising.lay h
theorem setH_less {x : Vtx} {f : Nat} {v : Val} (hr : Rising Ent.key x.halves) : (setH x f v false).halves.length ≤ x.halves.length := by
 unfold setH
 simp only [Bool.not_false]
 rw [layG_done]
 exact List.length_filter_le _ _
theorem VGood.set {x : Vtx} (h : VGood x) {f : Nat} {v : Val} (hf : 1 ≤ f ∧ f ≤ 40) (hne : f ≠ x.id) (hv : v.ok = true) (hl : x.halves.length < 16) : VGood (setH x f v true) := by
 refine ⟨h.there, h.id, h.prise, Rising.lay h.hrise, h.props, fun e he => ?_, ?_⟩
 · rcases (setH_mem h.hrise).1 he with ⟨h1, _⟩ | ⟨_, rfl⟩
   · exact h.halves e h1
   · exact ⟨hf.1, hf.2, hne, hv⟩
 · have := layG_length (key := Ent.key) (x := (⟨f, v⟩ : Ent)) (t := x.halves) (d := !true)
   show (layG Ent.key ⟨f, v⟩ (!true) x.halves).length ≤ 16
   omega
theorem VGood.cut {x : Vtx} (h : VGood x) (f : Nat) (v : Val) : VGood (setH x f v false) := by
 refine ⟨h.there, h.id, h.prise, Rising.lay h.hrise, h.props, fun e he => ?_, Nat.le_trans (setH_less h.hrise) h.few⟩
 rcases (setH_mem h.hrise).1 he with ⟨h1, _⟩ | ⟨h1, _⟩
 · exact h.halves e h1
 · cases h1
theorem VGood.setp {x : Vtx} (h : VGood x) {k : Nat} {v : Val} (hk : k ≤ 3) (hv : v.ok = true) : VGood (setP x k v) := by
 refine ⟨h.there, h.id, Rising.lay h.prise, h.hrise, fun e he => ?_, h.halves, h.few⟩
 unfold setP at he
 simp only at he
 rw [layG_mem h.prise] at he
 rcases he with ⟨h1, _⟩ | ⟨h1, rfl⟩
 · exact h.props e h1
 · exact ⟨hk, hv, by simpa using h1⟩
theorem Good.same {L : Gr} (h : Good L) {v v' : Vtx} (hv : v ∈ L) (hg : VGood v') (hid : v'.id = v.id) (hh : v'.halves = v.halves) : Good (layV v' L) := by
 refine ⟨layV_rise h.rise, fun x hx => ?_, fun x hx e he => ?_⟩
 · rcases (layV_mem h.rise).1 hx with ⟨h1, _⟩ | ⟨_, rfl⟩
   · exact h.each x h1
   · exact hg
 · have key : ∃ x0 ∈ L, x0.id = x.id ∧ x0.halves = x.halves := by
     rcases (layV_mem h.rise).1 hx with ⟨h1, _⟩ | ⟨_, rfl⟩
     · exact ⟨x, h1, rfl, rfl⟩
     · exact ⟨v, hv, hid.symm, hh.symm⟩
   obtain ⟨x0, hx0, e1, e2⟩ := key
   rw [← e2] at he
   obtain ⟨y, hy, hyi, hym⟩ := h.pair x0 hx0 e he
   rw [e1] at hym
   by_cases c : y.id = v.id
   · have := h.rise.uniq hy hv c
     subst this
     exact ⟨v', (layV_mem h.rise).2 (.inr ⟨hg.there, rfl⟩), by rw [hid]; exact hyi, by rw [hh]; exact hym⟩
   · exact ⟨y, (layV_mem h.rise).2 (.inl ⟨hy, by rw [hid]; exact c⟩), hyi, hym⟩
theorem Good.two {L : Gr} (h : Good L) {v u : Vtx} (hv : v ∈ L) (hu : u ∈ L) (hne : v.id ≠ u.id) {val : Val} {b : Bool} (gv : VGood (setH v u.id val b)) (gu : VGood (setH u v.id val b)) :
   Good (layV (setH u v.id val b) (layV (setH v u.id val b) L)) := by
 have r1 : Rising Vtx.id (layV (setH v u.id val b) L) := layV_rise h.rise
 have mem : ∀ x, x ∈ layV (setH u v.id val b) (layV (setH v u.id val b) L) ↔ (x ∈ L ∧ x.id ≠ v.id ∧ x.id ≠ u.id) ∨ x = setH v u.id val b ∨ x = setH u v.id val b := by
   intro x
   rw [layV_mem r1, layV_mem h.rise]
   constructor
   · rintro (⟨⟨h1, h2⟩ | ⟨_, rfl⟩, h3⟩ | ⟨_, rfl⟩)
     · exact .inl ⟨h1, h2, h3⟩
     · exact .inr (.inl rfl)
     · exact .inr (.inr rfl)
   · rintro (⟨h1, h2, h3⟩ | rfl | rfl)
     · exact .inl ⟨.inl ⟨h1, h2⟩, h3⟩
     · exact .inl ⟨.inr ⟨gv.there, rfl⟩, hne⟩
     · exact .inr ⟨gu.there, rfl⟩
 have rv := (h.each v hv).hrise
 have ru := (h.each u hu).hrise
 refine ⟨layV_rise r1, fun x hx => ?_, fun x hx e he => ?_⟩
 · rcases (mem x).1 hx with ⟨h1, _⟩ | rfl | rfl
   · exact h.each x h1
   · exact gv
   · exact gu
 ·
   have stand : ∀ y ∈ L, ∀ k : Ent, k ∈ y.halves → (y = v → k.key ≠ u.id) → (y = u → k.key ≠ v.id) → ∃ z ∈ layV (setH u v.id val b) (layV (setH v u.id val b) L), z.id = y.id ∧ k ∈ z.halves := by
     intro y hy k hk n1 n2
     by_cases c1 : y.id = v.id
     · have := h.rise.uniq hy hv c1
       subst this
       exact ⟨_, (mem _).2 (.inr (.inl rfl)), rfl, (setH_mem rv).2 (.inl ⟨hk, n1 rfl⟩)⟩
     · by_cases c2 : y.id = u.id
       · have := h.rise.uniq hy hu c2
         subst this
         exact ⟨_, (mem _).2 (.inr (.inr rfl)), rfl, (setH_mem ru).2 (.inl ⟨hk, n2 rfl⟩)⟩
       · exact ⟨y, (mem y).2 (.inl ⟨hy, c1, c2⟩), rfl, hk⟩
   rcases (mem x).1 hx with ⟨h1, h2, h3⟩ | rfl | rfl
   · obtain ⟨y, hy, hyi, hym⟩ := h.pair x h1 e he
     obtain ⟨z, hz, z1, z2⟩ := stand y hy _ hym (fun _ => h3) (fun _ => h2)
     exact ⟨z, hz, z1.trans hyi, z2⟩
   · rcases (setH_mem rv).1 he with ⟨h1, h2⟩ | ⟨hb, rfl⟩
     · obtain ⟨y, hy, hyi, hym⟩ := h.pair v hv e h1
       obtain ⟨z, hz, z1, z2⟩ := stand y hy _ hym (fun ey => by subst ey; exact absurd hyi.symm (by have := ((h.each _ hv).halves e h1).2.2.1; exact this)) (fun ey => by subst ey; exact absurd hyi.symm h2)
       exact ⟨z, hz, z1.trans hyi, z2⟩
     · exact ⟨_, (mem _).2 (.inr (.inr rfl)), rfl, (setH_mem ru).2 (.inr ⟨hb, rfl⟩)⟩
   · rcases (setH_mem ru).1 he with ⟨h1, h2⟩ | ⟨hb, rfl⟩
     · obtain ⟨y, hy, hyi, hym⟩ := h.pair u hu e h1
       obtain ⟨z, hz, z1, z2⟩ := stand y hy _ hym (fun ey => by subst ey; exact absurd hyi.symm h2) (fun ey => by subst ey; exact absurd hyi.symm (by have := ((h.each _ hu).halves e h1).2.2.1; exact this))
       exact ⟨z, hz, z1.trans hyi, z2⟩
     · exact ⟨_, (mem _).2 (.inr (.inl rfl)), rfl, (setH_mem rv).2 (.inr ⟨hb, rfl⟩)⟩
theorem opOK_parts {o : Opr} (h : opOK o = true) : (1 ≤ o.kind ∧ o.kind ≤ 9) ∧ (1 ≤ o.a ∧ o.a ≤ 40) ∧ (o.two = true → (1 ≤ o.b ∧ o.b ≤ 40) ∧ o.b ≠ o.a) ∧ o.key ≤ 3 ∧ o.val.ok = true := by
 unfold opOK at h
 simp only [Bool.and_eq_true, decide_eq_true_eq, numB] at h
 obtain ⟨⟨⟨⟨⟨h1, h2⟩, h3⟩, h4⟩, h5⟩, h6⟩ := h
 refine ⟨⟨h1, h2⟩, h3, fun ht => ?_, ?_, ?_⟩
 · rw [if_pos ht] at h4
   simpa using h4
 · split at h5
   · simpa using h5
   · simp at h5; omega
 · split at h6
   · exact h6
   · simp at h6
     have e := ((noVal_iff 0 0 ⟨#[]⟩).1 rfl).2.2
     rw [h6]
     simp [noVal, Val.ok, e]
theorem Good.one {L : Gr} (h : Good L) {o : Opr} (ho : opOK o = true) : Good (oneG L o).g := by
 obtain ⟨hk, ha, hb, hkey, hval⟩ := opOK_parts ho
 unfold oneG
 by_cases k1 : o.kind = 1
 · rw [if_pos k1]
   cases hf : findV L o.a with
   | some x => simp; exact h
   | none =>
     simp only [Option.isSome_none, Bool.false_eq_true, if_false]
     have hn := findV_none.1 hf
     refine ⟨layV_rise h.rise, fun x hx => ?_, fun x hx e he => ?_⟩
     · rcases (layV_mem h.rise).1 hx with ⟨h1, _⟩ | ⟨_, rfl⟩
       · exact h.each x h1
       · exact ⟨rfl, ha, List.Pairwise.nil, List.Pairwise.nil, by simp, by simp, by simp⟩
     · rcases (layV_mem h.rise).1 hx with ⟨h1, _⟩ | ⟨_, rfl⟩
       · obtain ⟨y, hy, hyi, hym⟩ := h.pair x h1 e he
         exact ⟨y, (layV_mem h.rise).2 (.inl ⟨hy, hn y hy⟩), hyi, hym⟩
       · simp at he
 · rw [if_neg k1]
   cases hf : findV L o.a with
   | none => exact h
   | some v =>
     obtain ⟨hv, hvi⟩ := findV_mem hf
     simp only
     by_cases k2 : o.kind = 2
     · rw [if_pos k2]
       by_cases hl : 0 < v.halves.length
       · rw [if_pos hl]; exact h
       · rw [if_neg hl]
         have hv0 : v.halves = [] := List.length_eq_zero_iff.1 (by omega)
         refine ⟨layV_rise h.rise, fun x hx => ?_, fun x hx e he => ?_⟩
         · rcases (layV_mem h.rise).1 hx with ⟨h1, _⟩ | ⟨h1, _⟩
           · exact h.each x h1
           · cases h1
         · rcases (layV_mem h.rise).1 hx with ⟨h1, _⟩ | ⟨h1, _⟩
           · obtain ⟨y, hy, hyi, hym⟩ := h.pair x h1 e he
             refine ⟨y, (layV_mem h.rise).2 (.inl ⟨hy, fun c => ?_⟩), hyi, hym⟩
             have := h.rise.uniq hy hv (c.trans hvi.symm)
             subst this
             rw [hv0] at hym
             simp at hym
           · cases h1
     · rw [if_neg k2]
       by_cases k3 : o.kind = 3
       · rw [if_pos k3]
         exact h.same hv ((h.each v hv).setp hkey hval) rfl rfl
       · rw [if_neg k3]
         by_cases k4 : o.kind = 4
         · rw [if_pos k4]; exact h
         · rw [if_neg k4]
           by_cases k5 : o.kind = 5
           · rw [if_pos k5]
             have hb := hb (by unfold Opr.two; simp [k5])
             cases hu : findV L o.b with
             | none => exact h
             | some u =>
               obtain ⟨hum, hui⟩ := findV_mem hu
               simp only
               split
               · exact h
               · split
                 · exact h
                 · rename_i n1 n2
                   rw [← hui] at hb ⊢
                   rw [← hvi] at hb ⊢
                   exact h.two hv hum (Ne.symm hb.2) ((h.each v hv).set hb.1 hb.2 hval (by omega)) ((h.each u hum).set (by rw [hvi]; exact ha) (Ne.symm hb.2) hval (by omega))
           · rw [if_neg k5]
             by_cases k6 : o.kind = 6 ∨ o.kind = 7
             · rw [if_pos k6]
               have hb := hb (by unfold Opr.two; rcases k6 with k | k <;> simp [k])
               cases he : entX v.halves o.b with
               | none => exact h
               | some val =>
                 simp only
                 by_cases k7 : o.kind = 7
                 · rw [if_pos k7]; exact h
                 · rw [if_neg k7]
                   cases hu : findV L o.b with
                   | none =>
                     exfalso
                     obtain ⟨y, hy, hyi, _⟩ := h.pair v hv _ (entX_mem he)
                     exact findV_none.1 hu y hy hyi
                   | some u =>
                     obtain ⟨hum, hui⟩ := findV_mem hu
                     simp only
                     rw [← hui] at hb ⊢
                     rw [← hvi] at hb ⊢
                     exact h.two hv hum (Ne.symm hb.2) ((h.each v hv).cut _ _) ((h.each u hum).cut _ _)
             · rw [if_neg k6]
               split
               · exact h
               · split
                 · split
                   · exact h
                   · exact h
                 · exact h
theorem Good.run {ops : List Opr} : ∀ {L L' : Gr} {us vs : List Val}, Good L → (∀ o ∈ ops, opOK o = true) → ops.foldl okStep (some (L, us)) = some (L', vs) → Good L' := by
 induction ops with
 | nil => intro L L' us vs h _ e; simp at e; rw [← e.1]; exact h
 | cons o r ih =>
   intro L L' us vs h ho e
   rw [List.foldl_cons] at e
   by_cases hz : (oneG L o).e = 0
   · have : okStep (some (L, us)) o = some ((oneG L o).g, us ++ (oneG L o).vals) := by simp [okStep, hz]
     rw [this] at e
     exact ih (h.one (ho o (by simp))) (fun p hp => ho p (by simp [hp])) e
   · have : okStep (some (L, us)) o = none := by simp [okStep, hz]
     rw [this, okStep_none] at e
     cases e
theorem checkR_tx {r : Rqt} (h : checkR r = 0) (hk : r.kind = 1) : (∀ o ∈ r.ops, opOK o = true) ∧ 1 ≤ r.ops.length ∧ r.ops.length ≤ 6 := by
 unfold checkR at h
 split at h
 · cases h
 · split at h
   · cases h
   · split at h
     · cases h
     · rename_i h1 h2 h3
       refine ⟨fun o ho => ?_, by omega, by omega⟩
       rw [Bool.not_eq_false] at h3
       exact List.all_eq_true.1 h3 o ho
theorem Good.do {L : Gr} (h : Good L) (r : Rqt) : Good (doG L r).1 := by
 unfold doG
 split
 · exact h
 · rename_i hc
   split
   · rename_i hk
     cases hr : okRun L r.ops with
     | none => exact h
     | some p => exact Good.run (us := []) (vs := p.2) h (checkR_tx (by simpa using hc) hk).1 hr
   · split
     · exact h
     · split
       · exact h
       · exact h
structure Fair (L : Gr) : Prop where
 rise : Rising Vtx.id L
 each : ∀ x ∈ L, VGood x
theorem Good.fair {L : Gr} (h : Good L) : Fair L := ⟨h.rise, h.each⟩
theorem Fair.nil : Fair [] := ⟨List.Pairwise.nil, by simp⟩
theorem Fair.short {L : Gr} (h : Fair L) : L.length ≤ 40 := h.rise.short (b := 1) (m := 41) (fun x hx => by have := (h.each x hx).id; omega)
theorem Fair.lay {L : Gr} (h : Fair L) {x : Vtx} (hx : x.there = true → VGood x) : Fair (layV x L) := by
 refine ⟨layV_rise h.rise, fun y hy => ?_⟩
 rcases (layV_mem h.rise).1 hy with ⟨h1, _⟩ | ⟨h1, rfl⟩
 · exact h.each y h1
 · exact hx h1
theorem Fair.one {L : Gr} (h : Fair L) {o : Opr} (ho : opOK o = true) : Fair (oneG L o).g := by
 obtain ⟨hk, ha, hb, hkey, hval⟩ := opOK_parts ho
 unfold oneG
 by_cases k1 : o.kind = 1
 · rw [if_pos k1]
   split
   · exact h
   · exact h.lay (fun _ => ⟨rfl, ha, List.Pairwise.nil, List.Pairwise.nil, by simp, by simp, by simp⟩)
 · rw [if_neg k1]
   cases hf : findV L o.a with
   | none => exact h
   | some v =>
     obtain ⟨hv, hvi⟩ := findV_mem hf
     have gv := h.each v hv
     simp only
     by_cases k2 : o.kind = 2
     · rw [if_pos k2]
       split
       · exact h
       · exact h.lay (fun e => by cases e)
     · rw [if_neg k2]
       by_cases k3 : o.kind = 3
       · rw [if_pos k3]
         exact h.lay (fun _ => gv.setp hkey hval)
       · rw [if_neg k3]
         by_cases k4 : o.kind = 4
         · rw [if_pos k4]; exact h
         · rw [if_neg k4]
           by_cases k5 : o.kind = 5
           · rw [if_pos k5]
             have hb := hb (by unfold Opr.two; simp [k5])
             cases hu : findV L o.b with
             | none => exact h
             | some u =>
               obtain ⟨hum, hui⟩ := findV_mem hu
               have gu := h.each u hum
               simp only
               split
               · exact h
               · split
                 · exact h
                 · rename_i n1 n2
                   exact (h.lay (fun _ => gv.set hb.1 (by rw [hvi]; exact hb.2) hval (by omega))).lay (fun _ => gu.set ha (by rw [hui]; exact Ne.symm hb.2) hval (by omega))
           · rw [if_neg k5]
             by_cases k6 : o.kind = 6 ∨ o.kind = 7
             · rw [if_pos k6]
               cases he : entX v.halves o.b with
               | none => exact h
               | some val =>
                 simp only
                 by_cases k7 : o.kind = 7
                 · rw [if_pos k7]; exact h
                 · rw [if_neg k7]
                   cases hu : findV L o.b with
                   | none => exact h.lay (fun _ => gv.cut _ _)
                   | some u =>
                     exact (h.lay (fun _ => gv.cut _ _)).lay (fun _ => (h.each u (findV_mem hu).1).cut _ _)
             · rw [if_neg k6]
               split
               · exact h
               · split
                 · split
                   · exact h
                   · exact h
                 · exact h
theorem Fair.run {ops : List Opr} : ∀ {L L' : Gr} {us vs : List Val}, Fair L → (∀ o ∈ ops, opOK o = true) → ops.foldl okStep (some (L, us)) = some (L', vs) → Fair L' := by
 induction ops with
 | nil => intro L L' us vs h _ e; simp at e; rw [← e.1]; exact h
 | cons o r ih =>
   intro L L' us vs h ho e
   rw [List.foldl_cons] at e
   by_cases hz : (oneG L o).e = 0
   · have : okStep (some (L, us)) o = some ((oneG L o).g, us ++ (oneG L o).vals) := by simp [okStep, hz]
     rw [this] at e
     exact ih (h.one (ho o (by simp))) (fun p hp => ho p (by simp [hp])) e
   · have : okStep (some (L, us)) o = none := by simp [okStep, hz]
     rw [this, okStep_none] at e
     cases e
theorem Fair.do {L : Gr} (h : Fair L) (r : Rqt) : Fair (doG L r).1 := by
 unfold doG
 split
 · exact h
 · rename_i hc
   split
   · rename_i hk
     cases hr : okRun L r.ops with
     | none => exact h
     | some p => exact Fair.run (us := []) (vs := p.2) h (checkR_tx (by simpa using hc) hk).1 hr
   · split
     · exact h
     · split
       · exact h
       · exact h
end Go.Proofs.YtlpdifinkcjckaaGreatDoor
