import Derived.Test.YtlpdifinkcjckaaGreatDoorMEn31
set_option linter.unusedVariables false
set_option linter.unusedSimpArgs false
namespace Go.Proofs.YtlpdifinkcjckaaGreatDoor
open Go.RowKit Go.Maps
def planE (l : List Vtx) (ops : List Opr) : Nat := if formL l = false ∧ (checkR (txq ops) = 0 ∨ 3 < checkR (txq ops)) then 3 else checkR (txq ops)
def changedG (L L' : Gr) (ws : List Wt) : List Vtx := (ws.filter fun x => decide (x.2 = 2) && !sameB (tellV L' x.1) (tellV L x.1)).map fun x => tellV L' x.1
def planAns (l : List Vtx) (ops : List Opr) : Ans := (doG (layAll l) (txq ops)).2
def planOut (l : List Vtx) (ops : List Opr) : List Vtx := if (planAns l ops).e = 0 then changedG (layAll l) (doG (layAll l) (txq ops)).1 (wantsP ops) else []
theorem planE_zero {l : List Vtx} {ops : List Opr} (h : planE l ops = 0) : formL l = true ∧ checkR (txq ops) = 0 := by
 unfold planE at h
 split at h
 · cases h
 · rename_i hn
   refine ⟨?_, h⟩
   cases hf : formL l with
   | true => rfl
   | false => exact absurd ⟨hf, .inl h⟩ hn
def WasAt (bw : Nat) (tl : Nat → Vtx) (ws : List Wt) (wr : World) : Prop :=
 ∃ es, UMap Tryz.prog 27 .u32 wr bw es ∧ es.length ≤ ws.length ∧ ∀ x ∈ ws, ∃ vp vh, getL x.1 es = some (vtxV (tl x.1) vp vh) ∧ VRd wr vp vh (tl x.1)
theorem umap_rds {P : Program} {kt : TypeId} {q : IntKind} {w w' : World} {b : Nat} {es : Ents} (h : UMap P kt q w b es) (m : Mod (fun k => k = b) w w') {size n : Nat} {v : Value} {us : List Value} (hr : RdS w size v n us) : RdS w' size v n us :=
 ⟨hr.len, hr.shape, fun a c e j u hu => by
   obtain ⟨b2, off, e1, hb, hc⟩ := hr.cell a c e j u hu
   refine ⟨b2, off, e1, Nat.lt_of_lt_of_le hb m.size, (World.cell?_of_block (w := w) (m.block b2 hb (fun f => ?_))).trans hc⟩
   obtain ⟨xs, clock, hm⟩ := h.isMap
   subst f
   unfold World.cell? at hc
   rw [hm] at hc
   simp at hc⟩
theorem WasAt.keep {bw : Nat} {tl : Nat → Vtx} {ws : List Wt} {wr wx : World} (h : WasAt bw tl ws wr) (m : Mod (fun _ => False) wr wx) : WasAt bw tl ws wx := by
 obtain ⟨es, h1, h2, h3⟩ := h
 refine ⟨es, h1.keep m, h2, fun x hx => ?_⟩
 obtain ⟨vp, vh, e, hv⟩ := h3 x hx
 exact ⟨vp, vh, e, hv.keep m⟩
theorem WasAt.next {bw : Nat} {tl : Nat → Vtx} {ws : List Wt} {wr w5 : World} (h : WasAt bw tl ws wr) (m : Mod (fun _ => False) wr w5) {x : Wt} (hx : x.1 < 4294967296) (hl : ws.length < 1000000) {vp vh : Value} (hv : VRd w5 vp vh (tl x.1)) :
   ∃ w6, (Instr.mapUpdate 112 (.map (some bw)) (.int .u32 (x.1 : Int)) (vtxV (tl x.1) vp vh)).run Tryz.prog w5 = .ok () w6 ∧ WasAt bw tl (ws ++ [x]) w6 ∧ Mod (fun k => k = bw) w5 w6 := by
 obtain ⟨es, h1, h2, h3⟩ := h.keep m
 obtain ⟨w6, e6, U, M⟩ := h1.store Tryz.underlying27 Tryz.underlying112 (by unfold maxLen; omega) (u32key hx) (vtxV (tl x.1) vp vh)
 have vk : ∀ {vp vh : Value} {y : Vtx}, VRd w5 vp vh y → VRd w6 vp vh y := fun hy => ⟨hy.fits, umap_rds h1 M hy.props, umap_rds h1 M hy.halves⟩
 refine ⟨w6, e6, ⟨_, U, by have := putL_length x.1 (vtxV (tl x.1) vp vh) es; rw [List.length_append, List.length_singleton]; omega, fun y hy => ?_⟩, M⟩
 rw [getL_putL]
 by_cases e : x.1 = y.1
 · rw [if_pos e]
   rw [← e]
   exact ⟨vp, vh, rfl, vk hv⟩
 · rw [if_neg e]
   rcases List.mem_append.1 hy with hy | hy
   · obtain ⟨vp, vh, e, hv⟩ := h3 y hy
     exact ⟨vp, vh, e, vk hv⟩
   · rw [List.mem_singleton] at hy; exact absurd (by rw [hy]) e
theorem zero_vtx (w : World) : (zeroValue 47).run Tryz.prog w = .ok (.agg #[.int .u32 0, .bool false, .slice none 0 0, .slice none 0 0]) w := Tryz.zeroValue47 w
theorem WasAt.look {bw : Nat} {tl : Nat → Vtx} {ws : List Wt} {wr : World} (h : WasAt bw tl ws wr) {x : Wt} (hx : x ∈ ws) (h1 : x.1 < 4294967296) : ∃ vp vh, VRd wr vp vh (tl x.1) ∧ ∀ w', Mod (fun _ => False) wr w' → (Instr.lookup 112 (.map (some bw)) (.int .u32 (x.1 : Int)) false).run Tryz.prog w' = .ok (vtxV (tl x.1) vp vh) w' := by
 obtain ⟨es, hU, -, h3⟩ := h
 obtain ⟨vp, vh, e, hv⟩ := h3 x hx
 refine ⟨vp, vh, hv, fun w' m => ?_⟩
 have := (hU.keep m).get Tryz.underlying27 Tryz.underlying112 (zero_vtx w') (u32key h1)
 rw [e] at this
 exact this
theorem WasAt.turned {bw bm : Nat} {tl : Nat → Vtx} {ws : List Wt} {wr wx : World} {ns : List Node} (h : WasAt bw tl ws wr) (hp : NM wr bm ns) (m : Mod (FootM bm ns) wr wx) (hb : ¬ FootN bm ns bw) : WasAt bw tl ws wx := by
 obtain ⟨es, h1, h2, h3⟩ := h
 refine ⟨es, h1.mod m (fun f => hb f.foot), h2, fun x hx => ?_⟩
 obtain ⟨vp, vh, e, hv⟩ := h3 x hx
 exact ⟨vp, vh, e, hv.fits, hp.rds m hv.props, hp.rds m hv.halves⟩
theorem run_end {w W : World} {rb : Nat} (m : Mod (fun _ => False) w W) (hlo : w.heap.size ≤ rb) (u0 u1 u2 u3 : Value) : Mod (fun _ => False) w (doEnd W rb u0 u1 u2 u3) ∧ Mod (fun k => k = rb) W (doEnd W rb u0 u1 u2 u3) := by
 have h : Mod (fun k => k = rb) W (doEnd W rb u0 u1 u2 u3) := ((((Mod.refl (fun k => k = rb) W).setCell (p := ⟨rb, 0, none⟩) (fun _ => rfl) u0).setCell (p := ⟨rb, 1, none⟩) (fun _ => rfl) u1).setCell (p := ⟨rb, 2, none⟩) (fun _ => rfl) u2).setCell (p := ⟨rb, 3, none⟩) (fun _ => rfl) u3
 exact ⟨m.trans' h (fun i hi e => by omega), h⟩
theorem LOwn.offA {W : World} {v : Value} {l : List Vs} {rb : Nat} {A : Array Value} (h : LOwn W v l) (hb : W.heap[rb]? = some (.cells A 34 (0, 0))) : LOff (fun k => k = rb) v l :=
 ⟨h.row.off_box hb (by decide), fun s hs => ⟨(h.each s hs).props.off_box hb (by decide), (h.each s hs).halves.off_box hb (by decide)⟩⟩
theorem changedG_snoc (L L' : Gr) (ws : List Wt) (x : Wt) : changedG L L' (ws ++ [x]) = changedG L L' ws ++ (if x.2 = 2 ∧ sameB (tellV L' x.1) (tellV L x.1) = false then [tellV L' x.1] else []) := by
 unfold changedG
 rw [List.filter_append, List.map_append]
 congr 1
 by_cases h1 : x.2 = 2
 · cases h2 : sameB (tellV L' x.1) (tellV L x.1) <;> simp [h1, h2]
 · simp [h1]
def PRun (l : List Vtx) (ops : List Opr) (w : World) (e : Ending) (w' : World) : Prop :=
 Mod (fun _ => False) w w' ∧ (planE l ops ≠ 0 → e = .returned (.tuple #[.agg #[.int .i64 0, .int .i64 0, .slice none 0 0, .slice none 0 0], .slice none 0 0, .int .i64 (planE l ops : Nat)])) ∧
 (planE l ops = 0 → ∃ vv vl vc cs, e = .returned (.tuple #[.agg #[.int .i64 ((planAns l ops).e : Nat), .int .i64 ((planAns l ops).at_ : Nat), vv, vl], vc, .int .i64 0]) ∧ RdS w' 3 vv (planAns l ops).vals.length (vvcells (planAns l ops).vals) ∧ RdS w' 1 vl (planAns l ops).list.length ((planAns l ops).list.map (keyV .u32)) ∧ LRd w' vc cs ∧ cs.map Vs.x = planOut l ops)
set_option maxRecDepth 100000 in
set_option maxHeartbeats 8000000 in
theorem prun_any (l : List Vs) (vl : Value) (ops : List Opr) (vo : Value) (w : World) (hl : LRd w vl l) (hn : l.length ≤ 4096) (ho : ORd w vo ops) (hg : ErrT w) :
   Calls Tryz.prog 15 #[vl, vo] w (PRun (l.map Vs.x) ops w) := by
 have HL := Lib.hid hl
 have HO := Lib.hid ho
 have HG := Lib.hid hg
 obtain ⟨a, c, rfl, -⟩ := hl.row.shape
 obtain ⟨a', c', rfl, -⟩ := ho.row.shape
 obtain ⟨n, hnn⟩ : ∃ n, n = l.length := ⟨_, rfl⟩
 obtain ⟨no, hno⟩ : ∃ n, n = ops.length := ⟨_, rfl⟩
 rw [← hnn] at HL ⊢
 rw [← hno] at HO ⊢
 have HM0 : Hid (Mod (fun _ => False) w (w.alloc (.cells #[.int .i64 0, .int .i64 0, .slice none 0 0, .slice none 0 0] 34))) := Lib.hid ((Mod.refl _ _).alloc _)
 have HB0 : Hid ((w.alloc (.cells #[.int .i64 0, .int .i64 0, .slice none 0 0, .slice none 0 0] 34)).heap[w.heap.size]? = some (.cells #[.int .i64 0, .int .i64 0, .slice none 0 0, .slice none 0 0] 34 (0, 0))) := Lib.hid (heap_alloc_new' _ _)
 have HWA : Hid (∀ w', Mod (fun _ => False) w w' → Calls Tryz.prog 12 #[.slice a' no c'] w' fun e w'' => ∃ av nv cv, e = .returned (.tuple #[.slice av nv cv, .int .i64 (checkR (txq ops) : Nat)]) ∧ WSeg w' w'' (.slice av nv cv) (wantsR ops)) := Lib.hid (fun w' m => (wants_any ops _ w' (HO.out.keep m)).mono (by
   rintro e w'' ⟨v, rfl, h⟩
   obtain ⟨av, cv, rfl, -⟩ := h.seg.shape
   exact ⟨av, _, cv, rfl, h⟩))
 have HLA : Hid (∀ w', Mod (fun _ => False) w w' → Calls Tryz.prog 41 #[.slice a n c] w' (LaidP l w')) := Lib.hid (fun w' m => laid_any l _ w' (HL.out.keep m) hn)
 obtain ⟨vs, hvs⟩ : ∃ vs, vs = l.map Vs.x := ⟨_, rfl⟩
 unfold LaidP at HLA
 rw [← hvs] at HLA ⊢
 have HPE : Hid (planE vs ops = if formL vs = false ∧ (checkR (txq ops) = 0 ∨ 3 < checkR (txq ops)) then 3 else checkR (txq ops)) := Lib.hid rfl
 have HPZ : Hid (checkR (txq ops) = 0 → wantsR ops = wantsP ops ∧ (∀ o ∈ ops, opOK o = true)) := Lib.hid (fun h => ⟨by unfold wantsR; rw [if_pos h], (checkR_tx h rfl).1⟩)
 have HFR : Hid (formL vs = true → Fair (layAll vs)) := Lib.hid (fun h => layAll_fair vs (formL_right h))
 have HD1 : Hid (checkR (txq ops) = 0 → ∀ (g bm : Nat) (ns : List Node) w', PG w' g bm ns → Fair (ns.map Node.x) → Mod (fun _ => False) w w' → Calls Tryz.prog 10 #[.pointer (some ⟨g, 0, none⟩), .agg #[.int .u8 1, .slice a' no c', .int .u32 0, .int .i64 0, .int .i64 0]] w' (DoA g bm ns (txq ops) w')) := Lib.hid (fun hc g bm ns w' hp hf m => gdo_1 g bm ns (txq ops) (.slice a' no c') w' hp hf (HO.out.keep m) hc rfl (HG.out.keep m (fun f => f)))
 obtain ⟨fb, hfb⟩ : ∃ b, b = formL vs := ⟨_, rfl⟩
 obtain ⟨ck, hck⟩ : ∃ k, k = checkR (txq ops) := ⟨_, rfl⟩
 rw [← hfb] at HLA HPE HFR
 rw [← hck] at HWA HPE HPZ HD1
 have HCK := Lib.hid hck
 have HFB := Lib.hid hfb
 clear hl ho hg hnn hno hvs hfb hck
 go_enter Tryz.func15, Tryz.ntmps15
 have hmm := @run_makeMap Tryz.prog
 by_cases hA : fb = true ∧ ck = 0
 rotate_left
 · have HPZ2 : Hid (planE vs ops ≠ 0) := Lib.hid (fun h => hA (by
     have h2 := planE_zero h
     rw [← HFB.out, ← HCK.out] at h2
     exact h2))
   obtain ⟨pe, hpe⟩ : ∃ p, p = planE vs ops := ⟨_, rfl⟩
   have HPE2 := Lib.hid hpe
   have hpe2 := HPE.out
   rw [← hpe] at hpe2
   clear hpe HPE HPZ HFR HD1 hmm
   cases fb with
   | true =>
     have hk0 : ¬ ck = 0 := fun e => hA ⟨rfl, e⟩
     have hk1 : ¬ (ck : Int) = 0 := by omega
     have HPV : Hid (pe = ck) := Lib.hid (by rw [hpe2, if_neg (by simp)])
     clear hA hpe2 hk0
     go_upto_region 5 with (first
         | (go_at_call 41; go_loud (refine (HLA.out _ (HM0.out.trans HWS.out.mod)).mono ?_; (rintro e w2 ⟨p2, rfl, hm2, hld⟩); have HLD := Lib.hid hld; have HM21 := Lib.hid hm2; clear hm2 hld))
         | (go_at_call 12; go_loud (refine (HWA.out _ HM0.out).mono ?_; (rintro e w1 ⟨av, nv, cv, rfl, hws⟩); have HWS := Lib.hid hws; clear hws)))
     have hbx := (HWS.out.mod.trans HM21.out).heap HB0.out (fun f => f)
     have p0 := cell_of_row hbx 0
     have p1 := cell_of_row hbx 1
     have p2 := cell_of_row hbx 2
     have p3 := cell_of_row hbx 3
     have f0 := free_of_row hbx 0
     have f1 := free_of_row hbx 1
     have f2 := free_of_row hbx 2
     have f3 := free_of_row hbx 3
     have zr := lt_of_block hbx
     simp at p0 p1 p2 p3
     have HME : Hid (Mod (fun _ => False) w w2) := Lib.hid ((HM0.out.trans HWS.out.mod).trans HM21.out)
     clear hbx
     go_wp2
     refine bodyPost_ret (v := .tuple #[.agg #[.int .i64 0, .int .i64 0, .slice none 0 0, .slice none 0 0], .slice none 0 0, .int .i64 (ck : Int)]) (by simp [results, Tryz.results15, go_sem, p0, p1, p2, p3]) rfl ?_
     exact ⟨(run_end HME.out (Nat.le_refl _) (.int .i64 0) (.int .i64 0) (.slice none 0 0) (.slice none 0 0)).1, fun _ => by rw [← HPE2.out, HPV.out], fun h => absurd h HPZ2.out⟩
   | false =>
     by_cases hc0 : ck = 0
     · subst hc0
       have HPV : Hid (pe = 3) := Lib.hid (by rw [hpe2, if_pos ⟨rfl, .inl rfl⟩])
       clear hA hpe2
       go_upto_region 5 with (first
         | (go_at_call 41; go_loud (refine (HLA.out _ (HM0.out.trans HWS.out.mod)).mono ?_; (rintro e w2 ⟨p2, rfl, hm2, hld⟩); have HLD := Lib.hid hld; have HM21 := Lib.hid hm2; clear hm2 hld))
         | (go_at_call 12; go_loud (refine (HWA.out _ HM0.out).mono ?_; (rintro e w1 ⟨av, nv, cv, rfl, hws⟩); have HWS := Lib.hid hws; clear hws)))
       have hbx := (HWS.out.mod.trans HM21.out).heap HB0.out (fun f => f)
       have p0 := cell_of_row hbx 0
       have p1 := cell_of_row hbx 1
       have p2 := cell_of_row hbx 2
       have p3 := cell_of_row hbx 3
       have f0 := free_of_row hbx 0
       have f1 := free_of_row hbx 1
       have f2 := free_of_row hbx 2
       have f3 := free_of_row hbx 3
       have zr := lt_of_block hbx
       simp at p0 p1 p2 p3
       have HME : Hid (Mod (fun _ => False) w w2) := Lib.hid ((HM0.out.trans HWS.out.mod).trans HM21.out)
       clear hbx
       go_wp2
       refine bodyPost_ret (v := .tuple #[.agg #[.int .i64 0, .int .i64 0, .slice none 0 0, .slice none 0 0], .slice none 0 0, .int .i64 3]) (by simp [results, Tryz.results15, go_sem, p0, p1, p2, p3]) rfl ?_
       exact ⟨(run_end HME.out (Nat.le_refl _) (.int .i64 0) (.int .i64 0) (.slice none 0 0) (.slice none 0 0)).1, fun _ => by rw [← HPE2.out, HPV.out]; rfl, fun h => absurd h HPZ2.out⟩
     · have hk1 : ¬ (ck : Int) = 0 := by omega
       by_cases hc3 : 3 < ck
       · have hk3 : (3 : Int) < (ck : Int) := by omega
         have HPV : Hid (pe = 3) := Lib.hid (by rw [hpe2, if_pos ⟨rfl, .inr hc3⟩])
         clear hA hpe2 hc0 hc3
         go_upto_region 5 with (first
         | (go_at_call 41; go_loud (refine (HLA.out _ (HM0.out.trans HWS.out.mod)).mono ?_; (rintro e w2 ⟨p2, rfl, hm2, hld⟩); have HLD := Lib.hid hld; have HM21 := Lib.hid hm2; clear hm2 hld))
         | (go_at_call 12; go_loud (refine (HWA.out _ HM0.out).mono ?_; (rintro e w1 ⟨av, nv, cv, rfl, hws⟩); have HWS := Lib.hid hws; clear hws)))
         have hbx := (HWS.out.mod.trans HM21.out).heap HB0.out (fun f => f)
         have p0 := cell_of_row hbx 0
         have p1 := cell_of_row hbx 1
         have p2 := cell_of_row hbx 2
         have p3 := cell_of_row hbx 3
         have f0 := free_of_row hbx 0
         have f1 := free_of_row hbx 1
         have f2 := free_of_row hbx 2
         have f3 := free_of_row hbx 3
         have zr := lt_of_block hbx
         simp at p0 p1 p2 p3
         have HME : Hid (Mod (fun _ => False) w w2) := Lib.hid ((HM0.out.trans HWS.out.mod).trans HM21.out)
         clear hbx
         go_wp2
         refine bodyPost_ret (v := .tuple #[.agg #[.int .i64 0, .int .i64 0, .slice none 0 0, .slice none 0 0], .slice none 0 0, .int .i64 3]) (by simp [results, Tryz.results15, go_sem, p0, p1, p2, p3]) rfl ?_
         exact ⟨(run_end HME.out (Nat.le_refl _) (.int .i64 0) (.int .i64 0) (.slice none 0 0) (.slice none 0 0)).1, fun _ => by rw [← HPE2.out, HPV.out]; rfl, fun h => absurd h HPZ2.out⟩
       · have hk3 : ¬ (3 : Int) < (ck : Int) := by omega
         have hk4 : (ck : Int) ≤ 3 := by omega
         have hk5 : decide ((3 : Int) < (ck : Int)) = false := by simp; omega
         have HPV : Hid (pe = ck) := Lib.hid (by rw [hpe2, if_neg (by omega)])
         clear hA hpe2 hc0 hc3
         go_upto_region 5 with (first
         | (go_at_call 41; go_loud (refine (HLA.out _ (HM0.out.trans HWS.out.mod)).mono ?_; (rintro e w2 ⟨p2, rfl, hm2, hld⟩); have HLD := Lib.hid hld; have HM21 := Lib.hid hm2; clear hm2 hld))
         | (go_at_call 12; go_loud (refine (HWA.out _ HM0.out).mono ?_; (rintro e w1 ⟨av, nv, cv, rfl, hws⟩); have HWS := Lib.hid hws; clear hws)))
         have hbx := (HWS.out.mod.trans HM21.out).heap HB0.out (fun f => f)
         have p0 := cell_of_row hbx 0
         have p1 := cell_of_row hbx 1
         have p2 := cell_of_row hbx 2
         have p3 := cell_of_row hbx 3
         have f0 := free_of_row hbx 0
         have f1 := free_of_row hbx 1
         have f2 := free_of_row hbx 2
         have f3 := free_of_row hbx 3
         have zr := lt_of_block hbx
         simp at p0 p1 p2 p3
         have HME : Hid (Mod (fun _ => False) w w2) := Lib.hid ((HM0.out.trans HWS.out.mod).trans HM21.out)
         clear hbx
         go_wp2
         refine bodyPost_ret (v := .tuple #[.agg #[.int .i64 0, .int .i64 0, .slice none 0 0, .slice none 0 0], .slice none 0 0, .int .i64 (ck : Int)]) (by simp [results, Tryz.results15, go_sem, p0, p1, p2, p3]) rfl ?_
         exact ⟨(run_end HME.out (Nat.le_refl _) (.int .i64 0) (.int .i64 0) (.slice none 0 0) (.slice none 0 0)).1, fun _ => by rw [← HPE2.out, HPV.out], fun h => absurd h HPZ2.out⟩
 obtain ⟨rfl, rfl⟩ := hA
 have hPE0 : planE vs ops = 0 := by rw [HPE.out, if_neg (by simp)]
 have HE0 := Lib.hid hPE0
 obtain ⟨hwr, hok⟩ := HPZ.out rfl
 rw [hwr] at HWA
 have HOK := Lib.hid hok
 have HFA := Lib.hid (HFR.out rfl)
 have HDO := Lib.hid (HD1.out rfl)
 clear hPE0 hwr hok HPZ HFR HD1 HPE
 go_upto_region 8 with (first
   | (go_at_call 41; go_loud (refine (HLA.out _ (HM0.out.trans HWS.out.mod)).mono ?_; (rintro e w2 ⟨p2, rfl, hm2, hld⟩); have HLD := Lib.hid hld; have HM21 := Lib.hid hm2; clear hm2 hld))
   | (go_at_call 12; go_loud (refine (HWA.out _ HM0.out).mono ?_; (rintro e w1 ⟨av, nv, cv, rfl, hws⟩); have HWS := Lib.hid hws; clear hws)))
 have HLX := Lib.hid (HLD.out (by simp))
 obtain ⟨g, bm, ns, rfl, hpg, his, hlo⟩ := HLX.out
 have HPG := Lib.hid hpg
 have HIS := Lib.hid his
 have HLO := Lib.hid hlo
 have HSH := Lib.hid (wants_short HOK.out)
 have HFT := Lib.hid (wantsP_fits HOK.out)
 obtain ⟨W, hW⟩ : ∃ W, W = wantsP ops := ⟨_, rfl⟩
 rw [← hW] at HWS HSH HFT
 have HWP := Lib.hid hW
 obtain ⟨q, hq⟩ : ∃ q, q = W.length := ⟨_, rfl⟩
 have HQ := Lib.hid hq
 have hq40 : q ≤ 40 := by have := HSH.out; omega
 obtain rfl : nv = q := by obtain ⟨a9, c9, e9, -⟩ := HWS.out.seg.shape; injection e9 with _ e9 _; rw [e9, hq]
 obtain ⟨bw, hbw⟩ : ∃ b, b = w2.heap.size := ⟨_, rfl⟩
 rw [← hbw]
 have HBW : Hid (w2.heap.size ≤ bw) := Lib.hid (by omega)
 have HBF : Hid (¬ Foot g bm ns bw) := Lib.hid (fun f => by have := HPG.out.lt bw f; omega)
 have HW0 : Hid (WasAt bw (tellV (ns.map Node.x)) [] (w2.alloc (.map #[] 0))) := Lib.hid ⟨[], by rw [hbw]; exact UMap.made _ _ _ _, Nat.le_refl _, by simp⟩
 have HMW : Hid (Mod (fun _ => False) w2 (w2.alloc (.map #[] 0))) := Lib.hid ((Mod.refl _ _).alloc _)
 clear hpg his hlo HLX hW hq hbw hmm HLD
 go_wp2_with fail
 go_loopw [46] (fun i wr => ∃ k : Nat, i = .int .i64 (k : Int) ∧ k ≤ nv ∧ WasAt bw (tellV (ns.map Node.x)) (W.take k) wr ∧ Mod (fun _ => False) w2 wr) (fun i _ => nv - (intOf i).toNat)
 case atStart => exact ⟨0, rfl, Nat.zero_le _, HW0.out, HMW.out⟩
 case round =>
   obtain ⟨k, rfl, hk, hwa, hmw⟩ := hrel
   have HWA2 := Lib.hid hwa
   have HK := Lib.hid hmw
   clear hwa hmw HW0 HMW
   by_cases hkn : k < nv
   · obtain ⟨x, hx⟩ : ∃ x, W[k]? = some x := ⟨_, List.getElem?_eq_getElem (by rw [← HQ.out]; exact hkn)⟩
     obtain ⟨bl, offl, e0, hbl, r0, r1⟩ := HWS.out.rd.ent hx rfl
     replace r0 := HK.out.cell (HM21.out.cell r0)
     replace r1 := HK.out.cell (HM21.out.cell r1)
     have zbl : bl < wr.heap.size := Nat.lt_of_lt_of_le hbl (Nat.le_trans HM21.out.size HK.out.size)
     subst e0
     have HFX := Lib.hid (HFT.out x (List.mem_of_getElem? hx))
     have HTK : Hid (W.take (k + 1) = W.take k ++ [x]) := Lib.hid (by
       obtain ⟨h1, h2⟩ := List.getElem?_eq_some_iff.1 hx
       rw [List.take_succ_eq_append_getElem h1, h2])
     have HLT : Hid ((W.take k).length < 1000000) := Lib.hid (by rw [List.length_take]; have := HSH.out; omega)
     clear hx hbl
     obtain ⟨xv, xm⟩ := x
     simp only at r0 r1 HFX
     obtain ⟨tv, htv⟩ : ∃ t, t = tellV (ns.map Node.x) xv := ⟨_, rfl⟩
     have HTV := Lib.hid htv
     have HVX : Hid (∀ w', Mod (fun _ => False) w2 w' → Calls Tryz.prog 14 #[.pointer (some ⟨g, 0, none⟩), .int .u32 (xv : Int)] w' (Twins w' tv)) := Lib.hid (fun w' mm => by
       rw [HTV.out]
       exact gvertex_fair g bm ns xv w' (HPG.out.keep mm) (by rw [HIS.out]; exact HFA.out) HFX.out.1)
     clear htv
     obtain ⟨tid, tth, tps, ths⟩ := tv
     obtain ⟨W2, hW2⟩ : ∃ W2, W2 = wr.alloc (.cells #[.int .u32 (xv : Int), .int .u8 (xm : Int)] 43) := ⟨_, rfl⟩
     have HM2 : Hid (Mod (fun _ => False) wr W2) := Lib.hid (by rw [hW2]; exact (Mod.refl _ _).alloc _)
     have HB2 : Hid (W2.heap[wr.heap.size]? = some (.cells #[.int .u32 (xv : Int), .int .u8 (xm : Int)] 43 (0, 0))) := Lib.hid (by rw [hW2]; exact heap_alloc_new' _ _)
     go_upto_region 11 with fail
     rw [← hW2]
     clear hW2 r0 r1
     have HZB : Hid (bw < wr.heap.size) := Lib.hid (by obtain ⟨es, hU, -⟩ := HWA2.out; exact hU.lt)
     have HKS : Hid (∀ w', Mod (fun k => k = bw) W2 w' → (fun w' : World => w'.cell? ⟨wr.heap.size, 0, none⟩ = some (.int .u32 (xv : Int))) w') := Lib.hid (fun w' mm => cell_of_row (mm.heap HB2.out (fun f => by have := HZB.out; omega)) 0)
     have k0 := HKS.out W2.drew (Mod.refl _ _).drew
     go_wp2_with fail
     go_region_held3 (fun w' => w'.cell? ⟨wr.heap.size, 0, none⟩ = some (.int .u32 (xv : Int)))
       (first
         | (with_reducible exact HKS.out _ (Mod.refl _ _).drew)
         | (with_reducible exact HKS.out _ HM5b.out)
         | (with_reducible exact HKS.out _ HM6.out)
         | go_keep)
       ((first
         | (go_at_call 14; go_loud (refine (HVX.out _ (HK.out.trans HM2.out.drew)).mono ?_; (rintro e w5 ⟨vp5, vh5, rfl, hm5, hv5⟩); (obtain ⟨a5, c5, n5, rfl⟩ : ∃ a c n, vp5 = .slice a n c := (by obtain ⟨a, c, e, _⟩ := hv5.props.shape; exact ⟨_, _, _, e⟩)); (obtain ⟨a6, c6, n6, rfl⟩ : ∃ a c n, vh5 = .slice a n c := (by obtain ⟨a, c, e, _⟩ := hv5.halves.shape; exact ⟨_, _, _, e⟩)); have HM5 : Hid (Mod (fun _ => False) W2 w5) := Lib.hid ((Mod.refl (fun _ => False) W2).drew.trans hm5); have HM5b : Hid (Mod (fun k => k = bw) W2 w5) := Lib.hid (HM5.out.mono (fun _ _ f => f.elim)); have hvr5 := hv5.rd; rw [HTV.out] at hvr5; (obtain ⟨w6, e6, hwa6, hm6⟩ := HWA2.out.next (x := (xv, xm)) (HM2.out.trans HM5.out) HFX.out.1 HLT.out hvr5); simp only [← HTV.out, vtxV] at e6; have HWA6 := Lib.hid hwa6; have HM6 : Hid (Mod (fun k => k = bw) W2 w6) := Lib.hid (HM5b.out.trans hm6); have HMK : Hid (Mod (fun _ => False) w2 w6) := Lib.hid ((HK.out.trans (HM2.out.trans HM5.out)).trans' hm6 (fun i hi e => by have h1 := HBW.out; omega)); clear hm5 hv5 hvr5 hwa6 hm6))))
     all_goals
       go_wp2
       go_roundw
       case rel => exact ⟨k + 1, by go_num, by omega, by rw [HTK.out]; exact HWA6.out, HMK.out⟩
       case measure => simp [intOf]; omega
   · have HTA : Hid (W.take k = W) := Lib.hid (List.take_of_length_le (by have := HQ.out; omega))
     rw [HTA.out] at HWA2
     obtain ⟨wo, rfl⟩ : ∃ wo : World, wo = wr := ⟨_, rfl⟩
     have HPO := Lib.hid (HPG.out.keep HK.out)
     have HMO : Hid (Mod (fun _ => False) w wo) := Lib.hid ((HM0.out.trans HWS.out.mod).trans (HM21.out.trans HK.out))
     have HBO : Hid (wo.heap[w.heap.size]? = some (.cells #[.int .i64 0, .int .i64 0, .slice none 0 0, .slice none 0 0] 34 (0, 0))) := Lib.hid ((HWS.out.mod.trans (HM21.out.trans HK.out)).heap HB0.out (fun f => f))
     have HDA := Lib.hid (fun w' (mq : Mod (fun _ => False) wo w') => HDO.out g bm ns w' (HPO.out.keep mq) (by rw [HIS.out]; exact HFA.out) (HMO.out.trans mq))
     have HAN : Hid (planAns vs ops = (doG (ns.map Node.x) (txq ops)).2) := Lib.hid (by unfold planAns; rw [HIS.out])
     have HOU : Hid (planOut vs ops = if (planAns vs ops).e = 0 then changedG (ns.map Node.x) (doG (ns.map Node.x) (txq ops)).1 (wantsP ops) else []) := Lib.hid (by unfold planOut; rw [HIS.out])
     have HFL : Hid (Fair (doG (ns.map Node.x) (txq ops)).1) := Lib.hid (by rw [HIS.out]; exact Fair.do HFA.out _)
     unfold DoA at HDA
     rw [← HWP.out] at HOU
     generalize doG (ns.map Node.x) (txq ops) = ga at HDA HAN HOU HFL
     obtain ⟨L', an⟩ := ga
     simp only at HDA HAN HOU HFL
     obtain ⟨ze, za, vals, list⟩ := an
     simp only at HDA
     obtain ⟨nz, hnz⟩ : ∃ n, n = vals.length := ⟨_, rfl⟩
     obtain ⟨ny, hny⟩ : ∃ n, n = list.length := ⟨_, rfl⟩
     have HNZ : Hid (nz = vals.length ∧ ny = list.length) := Lib.hid ⟨hnz, hny⟩
     rw [← hnz, ← hny] at HDA
     clear hnz hny
     go_upto_region 14 with (first
       | (go_at_call 10; go_loud (refine (HDA.out _ HMQ.out).mono ?_; (rintro e w9 ⟨vv9, vl9, ns9, rfl, ht9, hs9, hl9, -, -, -⟩); have HT9 := Lib.hid (ht9.keep HMQ.out (Mod.refl _ _)); have HVV := Lib.hid hs9; have HVL := Lib.hid hl9; (obtain ⟨a8, c8, rfl, -⟩ := hs9.shape); (obtain ⟨a7, c7, rfl, -⟩ := hl9.shape); clear ht9 hs9 hl9))
       | (go_at_call 35; refine (request_any _ _ _ _).mono ?_; (rintro e w0 ⟨rfl, hmq⟩); have HMQ := Lib.hid hmq; clear hmq))
     have HM9 : Hid (Mod (fun _ => False) w w9) := Lib.hid (HMO.out.trans' HT9.out.mod (fun i hi f => by
       have h1 := HLO.out i (.inr f.foot)
       have h2 := (HM0.out.trans HWS.out.mod).size
       omega))
     have HR9 : Hid (w9.heap[w.heap.size]? = some (.cells #[.int .i64 0, .int .i64 0, .slice none 0 0, .slice none 0 0] 34 (0, 0))) := Lib.hid (HPO.out.nm.box HT9.out.mod HBO.out)
     have HWA9 := Lib.hid (HWA2.out.turned HPO.out.nm HT9.out.mod (fun f => HBF.out (.inr f)))
     have HWD9 : Hid (WRd w9 (.slice av nv cv) W) := Lib.hid ⟨HPO.out.nm.rds HT9.out.mod (HWS.out.rd.keep (HM21.out.trans HK.out)).row, HWS.out.fits⟩
     have HPG9 := Lib.hid HT9.out.pg
     have HIS9 := Lib.hid HT9.out.is
     obtain ⟨W9, hW9⟩ : ∃ W9, W9 = w9.alloc (.cells #[.int .i64 (ze : Int), .int .i64 (za : Int), .slice a8 nz c8, .slice a7 ny c7] 34) := ⟨_, rfl⟩
     have HMW9 : Hid (Mod (fun _ => False) w9 W9) := Lib.hid (by rw [hW9]; exact (Mod.refl _ _).alloc _)
     have HA9 : Hid (W9.heap[w9.heap.size]? = some (.cells #[.int .i64 (ze : Int), .int .i64 (za : Int), .slice a8 nz c8, .slice a7 ny c7] 34 (0, 0))) := Lib.hid (by rw [hW9]; exact heap_alloc_new' _ _)
     rw [← hW9]
     clear hW9
     have HZW : Hid (w.heap.size < w9.heap.size) := Lib.hid (lt_of_block HR9.out)
     by_cases hze : ze = 0
     rotate_left
     · have hze' : ¬ (ze : Int) = 0 := by omega
       have hra := HMW9.out.heap HR9.out (fun f => f)
       have p0 := cell_of_row hra 0
       have p1 := cell_of_row hra 1
       have p2 := cell_of_row hra 2
       have p3 := cell_of_row hra 3
       have f0 := free_of_row hra 0
       have f1 := free_of_row hra 1
       have f2 := free_of_row hra 2
       have f3 := free_of_row hra 3
       have zr := lt_of_block hra
       have y0 := cell_of_row HA9.out 0
       have y1 := cell_of_row HA9.out 1
       have y2 := cell_of_row HA9.out 2
       have y3 := cell_of_row HA9.out 3
       have zy := lt_of_block HA9.out
       have hne := HZW.out
       simp at p0 p1 p2 p3 y0 y1 y2 y3
       have HOE : Hid (planOut vs ops = []) := Lib.hid (by rw [HOU.out, HAN.out]; simp only; rw [if_neg hze])
       clear hze hra
       go_wp2
       refine bodyPost_ret (v := .tuple #[.agg #[.int .i64 (ze : Int), .int .i64 (za : Int), .slice a8 nz c8, .slice a7 ny c7], .slice none 0 0, .int .i64 0]) (by simp [results, Tryz.results15, go_sem, p0, p1, p2, p3]) rfl ?_
       obtain ⟨hme, hmr⟩ := run_end (HM9.out.trans HMW9.out) (Nat.le_refl _) (.int .i64 (ze : Int)) (.int .i64 (za : Int)) (.slice a8 nz c8) (.slice a7 ny c7)
       have hra := HMW9.out.heap HR9.out (fun f => f)
       have hv := HVV.out.mod HMW9.out (fun _ _ f => f)
       have hl := HVL.out.mod HMW9.out (fun _ _ f => f)
       refine ⟨hme, fun h => absurd HE0.out h, fun _ => ⟨_, _, .slice none 0 0, [], by rw [HAN.out], ?_, ?_, ⟨RdS.none _ _, by simp⟩, by rw [HOE.out]; rfl⟩⟩
       · rw [HAN.out]; simp only; rw [← HNZ.out.1]
         exact (hv.mod hmr (hv.off_box hra (by decide))).rdS
       · rw [HAN.out]; simp only; rw [← HNZ.out.2]
         exact (hl.mod hmr (hl.off_box hra (by decide))).rdS
     · subst hze
       rw [show ((0 : Nat) : Int) = 0 from rfl] at HA9 ⊢
       have HOE : Hid (planOut vs ops = changedG (ns.map Node.x) L' W) := Lib.hid (by rw [HOU.out, HAN.out]; simp)
       obtain ⟨i0, hi, hz0, hz1, hz2⟩ := info_parts infoVtx
       have HI : Hid (Tryz.prog.info? 47 = some i0 ∧ i0.zero = some (.agg #[.int .u32 0, .bool false, .slice none 0 0, .slice none 0 0]) ∧ i0.size = 4 ∧ i0.bytes = 56) := ⟨hi, hz0, hz1, hz2⟩
       clear hi hz0 hz1 hz2
       have y0 := cell_of_row HA9.out 0
       have zy := lt_of_block HA9.out
       simp at y0
       go_wp2_with fail
       clear y0 zy
       go_loopw [68, 15] (fun i u wr => ∃ (k : Nat) (bl : List Vs), i = .int .i64 (k : Int) ∧ k ≤ nv ∧ BfAt W9 u bl wr ∧ bl.map Vs.x = changedG (ns.map Node.x) L' (W.take k) ∧ bl.length ≤ k) (fun i _ _ => nv - (intOf i).toNat)
       case atStart => exact ⟨0, [], rfl, Nat.zero_le _, BfAt.start _, by rw [List.take_zero]; rfl, Nat.le_refl _⟩
       case round =>
         obtain ⟨wx, hwx⟩ : ∃ wx : World, wx = wr := ⟨_, rfl⟩
         subst hwx
         obtain ⟨k, bl, rfl, hk, hbf, hbx, hbk⟩ := hrel
         have HBF := Lib.hid hbf
         have HBX := Lib.hid hbx
         have HBK := Lib.hid hbk
         have HK9 : Hid (Mod (fun _ => False) w9 wx) := Lib.hid (HMW9.out.trans hbf.mod)
         obtain ⟨nb, hnb⟩ : ∃ n, n = bl.length := ⟨_, rfl⟩
         have HNB := Lib.hid hnb
         obtain ⟨ab, cb, hub, -⟩ := hbf.la.row.shape
         rw [← hnb] at hub hbk
         subst hub
         clear hbf hbx hnb
         by_cases hkn2 : k < nv
         · obtain ⟨x, hx⟩ : ∃ x, W[k]? = some x := ⟨_, List.getElem?_eq_getElem (by rw [← HQ.out]; exact hkn2)⟩
           obtain ⟨bl2, offl2, e0, hbl2, r0, r1⟩ := HWD9.out.ent hx rfl
           replace r0 := HK9.out.cell r0
           replace r1 := HK9.out.cell r1
           have zbl2 : bl2 < wx.heap.size := Nat.lt_of_lt_of_le hbl2 HK9.out.size
           subst e0
           have HXM := Lib.hid (List.mem_of_getElem? hx)
           have HFX := Lib.hid (HFT.out x (List.mem_of_getElem? hx))
           have HTK : Hid (W.take (k + 1) = W.take k ++ [x]) := Lib.hid (by
             obtain ⟨h1, h2⟩ := List.getElem?_eq_some_iff.1 hx
             rw [List.take_succ_eq_append_getElem h1, h2])
           obtain ⟨up, uh, huv, hlk⟩ := (HWA9.out.keep HK9.out).look HXM.out HFX.out.1
           have HUV := Lib.hid huv
           have HLK := Lib.hid hlk
           obtain ⟨au, cu, eu, -⟩ := huv.props.shape
           obtain ⟨ah, ch, eh, -⟩ := huv.halves.shape
           clear hx hbl2 huv hlk
           obtain ⟨xv, xm⟩ := x
           simp only at r0 r1 HFX HUV HLK eu eh
           subst eu eh
           have HCS := Lib.hid (changedG_snoc (ns.map Node.x) L' (W.take k) (xv, xm))
           rw [← HTK.out] at HCS
           simp only at HCS
           have HVX : Hid (∀ w', Mod (fun _ => False) w9 w' → Calls Tryz.prog 14 #[.pointer (some ⟨g, 0, none⟩), .int .u32 (xv : Int)] w' (Twins w' (tellV L' xv))) := Lib.hid (fun w' mm => by
             have h := gvertex_fair g bm ns9 xv w' (HPG9.out.keep mm) (by rw [HIS9.out]; exact HFL.out) HFX.out.1
             rwa [HIS9.out] at h)
           obtain ⟨tu, htu⟩ : ∃ t, t = tellV (ns.map Node.x) xv := ⟨_, rfl⟩
           rw [← htu] at HCS HLK HUV
           clear htu
           obtain ⟨tn, htn⟩ : ∃ t, t = tellV L' xv := ⟨_, rfl⟩
           rw [← htn] at HCS HVX
           clear htn
           obtain ⟨tid, tth, tps, ths⟩ := tn
           obtain ⟨uid, uth, ups, uhs⟩ := tu
           simp only [vtxV] at HLK HUV
           obtain ⟨nu, hnu⟩ : ∃ n, n = ups.length := ⟨_, rfl⟩
           obtain ⟨nh, hnh⟩ : ∃ n, n = uhs.length := ⟨_, rfl⟩
           rw [← hnu, ← hnh] at HLK HUV
           clear hnu hnh
           have HPS : Hid (∀ a5 n5 c5 a6 n6 c6 w', Mod (fun _ => False) wx w' → VRd w' (.slice a5 n5 c5) (.slice a6 n6 c6) ⟨tid, tth, tps, ths⟩ → Calls Tryz.prog 42 #[.agg #[.int .u32 (tid : Int), .bool tth, .slice a5 n5 c5, .slice a6 n6 c6], .agg #[.int .u32 (uid : Int), .bool uth, .slice au nu cu, .slice ah nh ch]] w' fun e w'' => e = .returned (.bool (sameB ⟨tid, tth, tps, ths⟩ ⟨uid, uth, ups, uhs⟩)) ∧ Mod (fun _ => False) w' w'') := Lib.hid (fun a5 n5 c5 a6 n6 c6 w' mm hv => psame_any ⟨tid, tth, tps, ths⟩ ⟨uid, uth, ups, uhs⟩ _ _ _ _ w' hv (HUV.out.keep mm))
           generalize sameB ⟨tid, tth, tps, ths⟩ ⟨uid, uth, ups, uhs⟩ = sb at HCS HPS
           have HMB : Hid (Mod (fun _ => False) wx (wx.alloc (.cells #[.int .u32 (xv : Int), .int .u8 (xm : Int)] 43))) := Lib.hid ((Mod.refl _ _).alloc _)
           have HBB : Hid ((wx.alloc (.cells #[.int .u32 (xv : Int), .int .u8 (xm : Int)] 43)).heap[wx.heap.size]? = some (.cells #[.int .u32 (xv : Int), .int .u8 (xm : Int)] 43 (0, 0))) := Lib.hid (heap_alloc_new' _ _)
           go_upto_region 21 with (go_at_call 14; go_loud (refine (HVX.out _ (HK9.out.trans HMB.out)).mono ?_; (rintro e w5 ⟨vp5, vh5, rfl, hm5, hv5⟩); (obtain ⟨a5, c5, n5, rfl⟩ : ∃ a c n, vp5 = .slice a n c := (by obtain ⟨a, c, e, _⟩ := hv5.props.shape; exact ⟨_, _, _, e⟩)); (obtain ⟨a6, c6, n6, rfl⟩ : ∃ a c n, vh5 = .slice a n c := (by obtain ⟨a, c, e, _⟩ := hv5.halves.shape; exact ⟨_, _, _, e⟩)); have HM5 := Lib.hid hm5; have HV5 := Lib.hid hv5.vown; clear hm5 hv5))
           obtain ⟨w6, hw6⟩ : ∃ W, W = w5.alloc (.cells #[.int .u32 (tid : Int), .bool tth, .slice a5 n5 c5, .slice a6 n6 c6] 47) := ⟨_, rfl⟩
           have HM6 : Hid (Mod (fun _ => False) w5 w6) := Lib.hid (by rw [hw6]; exact (Mod.refl _ _).alloc _)
           have HN6 : Hid (w6.heap[w5.heap.size]? = some (.cells #[.int .u32 (tid : Int), .bool tth, .slice a5 n5 c5, .slice a6 n6 c6] 47 (0, 0))) := Lib.hid (by rw [hw6]; exact heap_alloc_new' _ _)
           have HB6 : Hid (w6.heap[wx.heap.size]? = some (.cells #[.int .u32 (xv : Int), .int .u8 (xm : Int)] 43 (0, 0))) := Lib.hid ((HM5.out.trans HM6.out).heap HBB.out (fun f => f))
           rw [← hw6]
           clear hw6 r0 r1
           have b0 := cell_of_row HB6.out 0
           have b1 := cell_of_row HB6.out 1
           have zb := lt_of_block HB6.out
           have d0 := cell_of_row HN6.out 0
           have d1 := cell_of_row HN6.out 1
           have d2 := cell_of_row HN6.out 2
           have d3 := cell_of_row HN6.out 3
           have zd := lt_of_block HN6.out
           simp at b0 b1 d0 d1 d2 d3
           have HMX6 : Hid (Mod (fun _ => False) wx w6) := Lib.hid ((HMB.out.trans HM5.out).trans HM6.out)
           by_cases hxm : xm = 2
           rotate_left
           · have hx1 : ((xm : Int) == 2) = false := by simp; omega
             have HCE : Hid (changedG (ns.map Node.x) L' (W.take (k + 1)) = changedG (ns.map Node.x) L' (W.take k)) := Lib.hid (by rw [HCS.out, if_neg (fun h => hxm h.1), List.append_nil])
             clear hxm
             go_wp2
             go_roundw
             case rel => exact ⟨k + 1, bl, by go_num, by omega, HBF.out.keep HMX6.out, by rw [HBX.out, HCE.out], by have := HBK.out; omega⟩
             case measure => simp [intOf]; omega
           · subst hxm
             have lk := HLK.out w6 HMX6.out
             cases sb with
             | true =>
               have HCE : Hid (changedG (ns.map Node.x) L' (W.take (k + 1)) = changedG (ns.map Node.x) L' (W.take k)) := Lib.hid (by rw [HCS.out, if_neg (fun h => by simp at h), List.append_nil])
               go_wp2_with (go_at_call 42; go_loud (refine (HPS.out _ _ _ _ _ _ _ HMX6.out (HV5.out.rd.keep HM6.out)).mono ?_; (rintro e w7 ⟨rfl, hm7⟩); have HM7 := Lib.hid hm7; clear hm7))
               go_roundw
               case rel => exact ⟨k + 1, bl, by go_num, by omega, HBF.out.keep (HMX6.out.trans HM7.out), by rw [HBX.out, HCE.out], by have := HBK.out; omega⟩
               case measure => simp [intOf]; omega
             | false =>
               have HCE : Hid (changedG (ns.map Node.x) L' (W.take (k + 1)) = changedG (ns.map Node.x) L' (W.take k) ++ [⟨tid, tth, tps, ths⟩]) := Lib.hid (by rw [HCS.out, if_pos ⟨rfl, rfl⟩])
               go_upto_region 22 with (go_at_call 42; go_loud (refine (HPS.out _ _ _ _ _ _ _ HMX6.out (HV5.out.rd.keep HM6.out)).mono ?_; (rintro e w7 ⟨rfl, hm7⟩); have HM7 := Lib.hid hm7; clear hm7))
               have hn7 := HM7.out.heap HN6.out (fun f => f)
               have e0 := cell_of_row hn7 0
               have e1 := cell_of_row hn7 1
               have e2 := cell_of_row hn7 2
               have e3 := cell_of_row hn7 3
               have ze7 := lt_of_block hn7
               simp at e0 e1 e2 e3
               have HM8 : Hid (Mod (fun _ => False) w7 (w7.alloc (.cells #[.int .u32 (tid : Int), .bool tth, .slice a5 n5 c5, .slice a6 n6 c6] 47))) := Lib.hid ((Mod.refl _ _).alloc _)
               have HB8 := Lib.hid (HBF.out.keep ((HMX6.out.trans HM7.out).trans HM8.out))
               have HV8 := Lib.hid (HV5.out.mod ((HM6.out.trans HM7.out).trans HM8.out) ⟨fun _ _ f => f, fun _ _ f => f⟩)
               have HSG8 : Hid (Seg (w7.alloc (.cells #[.int .u32 (tid : Int), .bool tth, .slice a5 n5 c5, .slice a6 n6 c6] 47)) 47 4 (.slice ab nb cb) nb (vcells bl)) := Lib.hid (by have h := HB8.out.la.row; rwa [← HNB.out] at h)
               have HSR := Lib.hid (src_cells (w := w7) rfl (size := 4) 47 #[.int .u32 (tid : Int), .bool tth, .slice a5 n5 c5, .slice a6 n6 c6] rfl (by simp [Value.oneCell']))
               clear hn7
               go_wp2_with (at_builtin; go_loud (refine wpList_append_seg rfl (.tmp 88) (.tmp 90) 41 rfl i0 _ 4 56 Tryz.underlying41 HI.out.1 HI.out.2.1 HI.out.2.2.1 HI.out.2.2.2 rfl (by decide) rfl HSG8.out _ 1 _ rfl HSR.out (by have := HBK.out; have := HNB.out; unfold maxLen; omega) (by have := HBK.out; have := HNB.out; omega) ?_; intro v9 w10 hs9 hg9 ho9; have H3 := Lib.hid (HB8.out.next HV8.out (by rw [← HNB.out]; exact hs9) hg9 ho9); (obtain ⟨a3, c3, n3, rfl⟩ : ∃ a c n, v9 = .slice a n c := (by obtain ⟨a, c, e, _⟩ := hs9.shape; exact ⟨_, _, _, e⟩)); clear hs9 hg9 ho9))
               go_roundw
               case rel => exact ⟨k + 1, bl ++ [⟨⟨tid, tth, tps, ths⟩, .slice a5 n5 c5, .slice a6 n6 c6⟩], by go_num, by omega, H3.out, by rw [List.map_append, HBX.out, HCE.out]; rfl, by rw [List.length_append, List.length_singleton]; have := HBK.out; omega⟩
               case measure => simp [intOf]; omega
         · have HTB : Hid (W.take k = W) := Lib.hid (List.take_of_length_le (by have := HQ.out; omega))
           rw [HTB.out] at HBX
           have hra := HK9.out.heap HR9.out (fun f => f)
           have p0 := cell_of_row hra 0
           have p1 := cell_of_row hra 1
           have p2 := cell_of_row hra 2
           have p3 := cell_of_row hra 3
           have f0 := free_of_row hra 0
           have f1 := free_of_row hra 1
           have f2 := free_of_row hra 2
           have f3 := free_of_row hra 3
           have zr := lt_of_block hra
           have hya := HBF.out.mod.heap HA9.out (fun f => f)
           have y0 := cell_of_row hya 0
           have y1 := cell_of_row hya 1
           have y2 := cell_of_row hya 2
           have y3 := cell_of_row hya 3
           have zy := lt_of_block hya
           have hne := HZW.out
           simp at p0 p1 p2 p3 y0 y1 y2 y3
           clear hra hya
           go_wp2
           refine bodyPost_ret (v := .tuple #[.agg #[.int .i64 0, .int .i64 (za : Int), .slice a8 nz c8, .slice a7 ny c7], .slice ab nb cb, .int .i64 0]) (by simp [results, Tryz.results15, go_sem, p0, p1, p2, p3]) rfl ?_
           obtain ⟨hme, hmr⟩ := run_end (HM9.out.trans HK9.out) (Nat.le_refl _) (.int .i64 0) (.int .i64 (za : Int)) (.slice a8 nz c8) (.slice a7 ny c7)
           have hra := HK9.out.heap HR9.out (fun f => f)
           have hv := HVV.out.mod HK9.out (fun _ _ f => f)
           have hl := HVL.out.mod HK9.out (fun _ _ f => f)
           have hla := HBF.out.la
           refine ⟨hme, fun h => absurd HE0.out h, fun _ => ⟨_, _, .slice ab nb cb, bl, by rw [HAN.out]; rfl, ?_, ?_, (hla.mod hmr (hla.offA hra)).rd, by rw [HOE.out, HBX.out]⟩⟩
           · rw [HAN.out]; simp only; rw [← HNZ.out.1]
             exact (hv.mod hmr (hv.off_box hra (by decide))).rdS
           · rw [HAN.out]; simp only; rw [← HNZ.out.2]
             exact (hl.mod hmr (hl.off_box hra (by decide))).rdS
end Go.Proofs.YtlpdifinkcjckaaGreatDoor
