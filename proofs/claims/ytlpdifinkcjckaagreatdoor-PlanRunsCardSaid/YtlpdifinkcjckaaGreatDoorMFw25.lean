import Derived.Test.YtlpdifinkcjckaaGreatDoorMFw20
import Derived.Test.YtlpdifinkcjckaaGreatDoorMFw24
set_option linter.unusedVariables false
set_option linter.unusedSimpArgs false
namespace Go.Proofs.YtlpdifinkcjckaaGreatDoor
open Go.RowKit
set_option maxRecDepth 100000 in
set_option maxHeartbeats 2000000 in
theorem code_any (c : Nat) (code pos : Int) (v : Nat) (w : World) (hg : ErrT w) (hc : w.heap[c]? = some (chainO code pos v)) :
   Calls Tryz.prog 58 #[chainV c] w fun e w' => e = .returned (.int .i64 code) ∧ Mod (fun _ => False) w w' := by
 have hm : Mod (fun _ => False) w (w.alloc (.cells #[.int .i64 0] 30)) := (Mod.refl _ _).alloc _
 have HA := Lib.hid (asE_hit c code pos v w.heap.size (.int .i64 0) (w.alloc (.cells #[.int .i64 0] 30)) (hg.keep hm (fun f => f)) (hm.heap hc (fun f => f)) (heap_alloc_new' _ _))
 have HM := Lib.hid hm
 clear hg hc hm
 unfold chainV at *
 go_enter Tryz.func58, Tryz.ntmps58
 go_wp2_with (go_at_call 84; refine HA.out.mono ?_; (rintro e w1 ⟨rfl, hm1, hb1⟩); have HM1 : Hid (Mod (fun _ => False) w w1) := Lib.hid (HM.out.trans' hm1 (fun i hi e => by omega)); have c0 := cell_of_row hb1 0; have z0 := lt_of_block hb1; simp at c0; clear hm1 hb1)
 go_ret
 exact ⟨rfl, HM1.out⟩
theorem first_any (t : TypeId) (v : Value) (w : World) (h : t = 162 ∨ t = 30) : Calls Tryz.prog 105 #[.iface t v] w fun e w' => e = .returned .nilIface ∧ w = w' := by
 have t8 := noUsE
 have t9 := noUsC
 rcases h with rfl | rfl
 all_goals
   go_enter Tryz.func105, Tryz.ntmps105
   go_wp2
   go_ret
   exact ⟨rfl, rfl⟩
theorem infoCh : (Tryz.prog.info? 162).map (fun i => (i.zero, i.size, i.bytes)) = some (some (.pointer none), 1, 8) := by kernel_rfl
theorem infoLk : (Tryz.prog.info? 136).map (fun i => (i.zero, i.size, i.bytes)) = some (some (.agg #[.int .i64 0, .int .u32 0]), 2, 16) := by kernel_rfl
set_option maxRecDepth 100000 in
set_option maxHeartbeats 4000000 in
theorem chains_any (c : Nat) (code pos : Int) (v : Nat) (w : World) (hg : ErrT w) (hc : w.heap[c]? = some (chainO code pos v)) :
   Calls Tryz.prog 85 #[chainV c] w fun e w' => ∃ vo, e = .returned vo ∧ Mod (fun _ => False) w w' ∧ RdS w' 1 vo 1 [.pointer (some ⟨c, 0, none⟩)] := by
 have HG := Lib.hid hg
 have HC := Lib.hid hc
 have HF1 := Lib.hid (fun v w => first_any 162 v w (.inl rfl))
 have HF2 := Lib.hid (fun v w => first_any 30 v w (.inr rfl))
 have HA1 : Hid (∀ w1, Mod (fun _ => False) w w1 → ∀ tb, w1.heap[tb]? = some (.cells #[.pointer none] 162 (0, 0)) → Calls Tryz.prog 84 #[.iface 162 (.pointer (some ⟨c, 0, none⟩)), .iface 193 (.pointer (some ⟨tb, 0, none⟩))] w1 fun e w' => e = .returned (.bool true) ∧ Mod (fun k => k = tb) w1 w' ∧ w'.heap[tb]? = some (.cells #[.pointer (some ⟨c, 0, none⟩)] 162 (0, 0))) := Lib.hid (fun w1 m tb ht => asC_hit c tb _ w1 (hg.keep m (fun f => f)) ht)
 have HA2 : Hid (∀ w1, Mod (fun _ => False) w w1 → ∀ tb, w1.heap[tb]? = some (.cells #[.pointer none] 162 (0, 0)) → Calls Tryz.prog 84 #[.iface 30 (.int .i64 code), .iface 193 (.pointer (some ⟨tb, 0, none⟩))] w1 fun e w' => e = .returned (.bool false) ∧ Mod (fun _ => False) w1 w') := Lib.hid (fun w1 m tb ht => asC_miss code tb _ w1 (hg.keep m (fun f => f)) ht)
 obtain ⟨i0, hi, hz0, hz1, hz2⟩ := info_parts infoCh
 have HI : Hid (Tryz.prog.info? 162 = some i0 ∧ i0.zero = some (.pointer none) ∧ i0.size = 1 ∧ i0.bytes = 8) := ⟨hi, hz0, hz1, hz2⟩
 clear hi hz0 hz1 hz2 hg hc
 unfold chainV
 go_enter Tryz.func85, Tryz.ntmps85
 go_wp2
 refine wp_loop_rounds 2 ?_
 rw [rounds_succ]
 have HM0 : Hid (Mod (fun _ => False) w (w.alloc (.cells #[.pointer none] 162))) := Lib.hid ((Mod.refl _ _).alloc _)
 have HAA := Lib.hid (HA1.out _ HM0.out w.heap.size (heap_alloc_new' _ _))
 go_wp2_with (first
   | (go_at_call 105; refine (HF1.out _ _).mono ?_; (rintro e w1 ⟨rfl, rfl⟩))
   | (go_at_call 84; refine HAA.out.mono ?_; (rintro e w1 ⟨rfl, hm1, hb1⟩); have HM1 : Hid (Mod (fun _ => False) w w1) := Lib.hid (HM0.out.trans' hm1 (fun i hi e => by omega)); have HB1 := Lib.hid hb1; have c0 := cell_of_row hb1 0; have z0 := lt_of_block hb1; simp at c0; have HSR := Lib.hid (src_cells (w := w1) rfl (size := 1) 162 #[.pointer (some ⟨c, 0, none⟩)] rfl (by simp [Value.oneCell'])); have HSG : Hid (Seg (w1.alloc (.cells #[.pointer (some ⟨c, 0, none⟩)] 162)) 162 1 (.slice none 0 0) 0 []) := Lib.hid (Seg.nil _ _ _); clear hm1 hb1)
   | (at_builtin; refine wpList_append_seg rfl (.tmp 17) (.tmp 19) 160 rfl i0 _ 1 8 Tryz.underlying160 HI.out.1 HI.out.2.1 HI.out.2.2.1 HI.out.2.2.2 rfl (by decide) rfl HSG.out _ 1 _ rfl HSR.out (by unfold maxLen; omega) (by omega) ?_; intro v3 w3 hs3 hg3 ho3; have HM3 : Hid (Mod (fun _ => False) w w3) := Lib.hid ((HM1.out.alloc _).grown hg3 (fun b hb _ => by cases hb)); have HS3 := Lib.hid hs3; have hb3 := (mod_grown hg3).heap (heap_alloc_old HB1.out) (fun e => by cases e); have d0 := cell_of_row hb3 0; have z3 := lt_of_block hb3; simp at d0; have e2 := cell_of_row (HM3.out.heap HC.out (fun f => f)) 2; have ze := lt_of_block (HM3.out.heap HC.out (fun f => f)); simp at e2; (obtain ⟨a3, c3, hv3, -⟩ := hs3.shape); subst hv3; clear hs3 hg3 ho3 hb3))
 rw [rounds_succ]
 have HM4 : Hid (Mod (fun _ => False) w (w3.alloc (.cells #[.pointer none] 162))) := Lib.hid (HM3.out.alloc _)
 have HAB := Lib.hid (HA2.out _ HM4.out w3.heap.size (heap_alloc_new' _ _))
 go_wp2_with (first
   | (go_at_call 105; refine (HF2.out _ _).mono ?_; (rintro e w4 ⟨rfl, rfl⟩))
   | (go_at_call 84; refine HAB.out.mono ?_; (rintro e w4 ⟨rfl, hm4⟩); have HM5 := Lib.hid (HM4.out.trans hm4); have HS5 := Lib.hid ((HS3.out.alloc (.cells #[.pointer none] 162)).mod hm4 (fun _ _ f => f)); clear hm4))
 go_ret
 exact ⟨_, rfl, HM5.out, HS5.out.rdS⟩
set_option maxRecDepth 100000 in
set_option maxHeartbeats 4000000 in
theorem links_any (c : Nat) (code pos : Int) (v : Nat) (w : World) (hg : ErrT w) (hc : w.heap[c]? = some (chainO code pos v)) :
   Calls Tryz.prog 59 #[chainV c] w fun e w' => ∃ vo, e = .returned vo ∧ Mod (fun _ => False) w w' ∧ RdS w' 2 vo 1 [.int .i64 pos, .int .u32 (v : Int)] := by
 have HC := Lib.hid hc
 have HCH := Lib.hid (chains_any c code pos v w hg hc)
 obtain ⟨i0, hi, hz0, hz1, hz2⟩ := info_parts infoLk
 have HI : Hid (Tryz.prog.info? 136 = some i0 ∧ i0.zero = some (.agg #[.int .i64 0, .int .u32 0]) ∧ i0.size = 2 ∧ i0.bytes = 16) := ⟨hi, hz0, hz1, hz2⟩
 clear hi hz0 hz1 hz2 hg hc
 unfold chainV at *
 go_enter Tryz.func59, Tryz.ntmps59
 go_wp2_with (go_at_call 85; refine HCH.out.mono ?_; (rintro e w1 ⟨vo, rfl, hm1, hr1⟩); have HM1 := Lib.hid hm1; (obtain ⟨a1, c1, rfl, h1, h2, -⟩ := hr1.shape); (obtain ⟨b1, o1, e1, hb1, p0⟩ := RdS.one hr1 (i := 0) (x := .pointer (some ⟨c, 0, none⟩)) rfl rfl); subst e1; simp only [Nat.add_zero] at p0; have q0 := cell_of_row (hm1.heap HC.out (fun f => f)) 0; have q1 := cell_of_row (hm1.heap HC.out (fun f => f)) 1; have zq := lt_of_block (hm1.heap HC.out (fun f => f)); simp at q0 q1; have HSR := Lib.hid (src_cells (w := w1) rfl (size := 2) 136 #[.int .i64 pos, .int .u32 (v : Int)] rfl (by simp [Value.oneCell'])); have HSG : Hid (Seg (w1.alloc (.cells #[.int .i64 pos, .int .u32 (v : Int)] 136)) 136 2 (.slice none 0 0) 0 []) := Lib.hid (Seg.nil _ _ _); clear hm1 hr1)
 refine wp_loop_rounds 2 ?_
 rw [rounds_succ]
 go_wp2_with (at_builtin; refine wpList_append_seg rfl (.tmp 13) (.tmp 18) 137 rfl i0 _ 2 16 Tryz.underlying137 HI.out.1 HI.out.2.1 HI.out.2.2.1 HI.out.2.2.2 rfl (by decide) rfl HSG.out _ 1 _ rfl HSR.out (by unfold maxLen; omega) (by omega) ?_; intro v3 w3 hs3 hg3 ho3; have HM3 : Hid (Mod (fun _ => False) w w3) := Lib.hid ((HM1.out.alloc _).grown hg3 (fun b hb _ => by cases hb)); have HS3 := Lib.hid hs3; (obtain ⟨a3, c3, hv3, -⟩ := hs3.shape); subst hv3; clear hs3 hg3 ho3)
 rw [rounds_succ]
 go_wp2
 go_ret
 exact ⟨_, rfl, HM3.out, HS3.out.rdS⟩
open Go.RowKit Go.Maps
def TransP (g bm : Nat) (ns : List Node) (ops : List Opr) (w : World) (e : Ending) (w' : World) : Prop :=
 ∃ (L' : Gr) (ns' : List Node) (z pos : Nat) (vals : List Val) (vv : Value), e = .returned (.agg #[.int .i64 (z : Int), .int .i64 (pos : Int), vv, .slice none 0 0]) ∧ Turned g bm ns L' (fun _ => False) w w' ns' ∧ Seg w' 68 3 vv vals.length (vvcells vals) ∧ (∀ b, vv.ownBlock = some b → w.heap.size ≤ b) ∧ PatB valP w' vv ∧
   ((okRun (ns.map Node.x) ops = some (L', vals) ∧ z = 0 ∧ pos = 0) ∨ (okRun (ns.map Node.x) ops = none ∧ L' = ns.map Node.x ∧ vals = [] ∧ (failG (ns.map Node.x) 0 ops) = (z, pos)))
theorem Tr.ready {w wr w5 w6 : World} {g bm : Nat} {ns0 : List Node} {bw : Nat} {cs : List Node} {rb ab : Nat} {ops : List Opr} {k : Nat} {L' : Gr} {vals : List Val} {vv : Value} {nsi nsk : List Node} {p : Nat → Bool} (h : Tr w g bm ns0 bw cs rb ab ops k L' vals vv wr nsi) (m5 : Mod (fun _ => False) wr w5) (hd : Del g bm nsi p w5 w6 nsk) :
   NM w6 bw cs ∧ ∀ b, FootN bw cs b → ¬ Foot g bm nsk b :=
 ⟨(h.cn.keep m5).mod hd.mod (fun b hb e => (h.coff b hb).2 (.inr (.inl e))), fun b hb f => (h.coff b hb).2 (hd.low f)⟩
theorem ret_turned {w w9 : World} {g bm : Nat} {ns nsf : List Node} {L : Gr} {off : Nat → Prop} {rb : Nat} {v : Value} (t : Turned g bm ns L off w w9 nsf) (rbx : w9.heap[rb]? = some (ansO v)) (hlo : w.heap.size ≤ rb) (u0 u1 u2 u3 : Value) : Turned g bm ns L off w (doEnd w9 rb u0 u1 u2 u3) nsf ∧ Mod (fun k => k = rb) w9 (doEnd w9 rb u0 u1 u2 u3) := by
 have m : Mod (fun k => k = rb) w9 (doEnd w9 rb u0 u1 u2 u3) :=
   ((((Mod.refl (fun k => k = rb) w9).setCell (p := ⟨rb, 0, none⟩) (fun _ => rfl) u0).setCell (p := ⟨rb, 1, none⟩) (fun _ => rfl) u1).setCell (p := ⟨rb, 2, none⟩) (fun _ => rfl) u2).setCell (p := ⟨rb, 3, none⟩) (fun _ => rfl) u3
 exact ⟨t.more m (fun b hb => by subst hb; exact ⟨hlo, t.pg.off_box rbx (by decide) (by decide)⟩), m⟩
theorem link_at {w : World} {vl : Value} {u0 u1 : Value} (h : RdS w 2 vl 1 [u0, u1]) : ∃ bk ok cl, vl = .slice (some ⟨bk, ok, none⟩) 1 cl ∧ 1 ≤ cl ∧ bk < w.heap.size ∧ w.cell? ⟨bk, ok, none⟩ = some u0 := by
 obtain ⟨a, c, e, h1, h2, -⟩ := h.shape
 obtain ⟨b, off, e2, h3, h4⟩ := h.cell a c e 0 u0 rfl
 subst e2
 exact ⟨b, off, c, e, h1, h3, by simpa using h4⟩
set_option maxRecDepth 100000 in
set_option maxHeartbeats 8000000 in
theorem transact_any (ops : List Opr) (vo : Value) (g bm : Nat) (ns : List Node) (w : World) (hp : PG w g bm ns) (hL : Fair (ns.map Node.x)) (ho : ORd w vo ops) (hok : ∀ o ∈ ops, opOK o = true) (h6 : ops.length ≤ 6) (hg : ErrT w) :
   Calls Tryz.prog 33 #[.pointer (some ⟨g, 0, none⟩), vo] w (TransP g bm ns ops w) := by
 have HP := Lib.hid hp
 have HL := Lib.hid hL
 have HV := Lib.hid ho
 have HOK := Lib.hid hok
 have HE := Lib.hid hg
 obtain ⟨a, c, rfl, hc1, hc2, -⟩ := ho.row.shape
 have g0 := cell_of_row hp.cell 0
 have zg := lt_of_block hp.cell
 simp at g0
 obtain ⟨n, hn⟩ : ∃ n, n = ops.length := ⟨_, rfl⟩
 have HN := Lib.hid hn
 rw [← hn] at HV hc1 h6 ⊢
 have HCP : Hid (Calls Tryz.prog 55 #[.pointer (some ⟨g, 0, none⟩), .slice a n c] (w.alloc (.cells #[.int .i64 0, .int .i64 0, .slice none 0 0, .slice none 0 0] 34)) fun e w' => ∃ bw cs, e = .returned (.map (some bw)) ∧ Cps (w.alloc (.cells #[.int .i64 0, .int .i64 0, .slice none 0 0, .slice none 0 0] 34)) (ns.map Node.x) (namedB ops) bw cs w') := Lib.hid (copied_any ops _ g bm ns _ (hp.keep ((Mod.refl _ _).alloc _)) hL (HV.out.keep ((Mod.refl _ _).alloc _)))
 obtain ⟨i0, hi, hz0, hz1, hz2⟩ := info_parts infoValue
 have HI : Hid (Tryz.prog.info? 68 = some i0 ∧ i0.zero = some (.agg #[.int .u8 0, .int .i64 0, zval]) ∧ i0.size = 3 ∧ i0.bytes = 32) := ⟨hi, hz0, hz1, hz2⟩
 clear hi hz0 hz1 hz2
 clear hn ho hp hL hok hg
 go_enter Tryz.func33, Tryz.ntmps33
 go_wp2_with (go_at_call 55; go_loud (refine HCP.out.mono ?_; (rintro e w2 ⟨bw, cs, rfl, hcp⟩); have HT0 := Lib.hid (Tr.start ops HP.out ((Mod.refl _ w).alloc _) (heap_alloc_new' w _) hcp (by simp)); have hm02 : Mod (fun _ => False) w w2 := ((Mod.refl (fun _ => False) w).alloc _).trans hcp.mod; have g0 := hm02.cell g0; have zg : g < w2.heap.size := Nat.lt_of_lt_of_le zg hm02.size; clear hm02 hcp))
 go_loopw [20] (fun i wr => ∃ (q : Nat) (L' : Gr) (vals : List Val) (vv : Value) (nsi : List Node), i = .int .i64 (q : Int) ∧ q ≤ n ∧ Tr w g bm ns bw cs w.heap.size w2.heap.size ops q L' vals vv wr nsi) (fun i _ => n - (intOf i).toNat)
 case atStart => exact ⟨0, _, _, _, _, rfl, Nat.zero_le _, HT0.out⟩
 case round =>
   obtain ⟨wo, hwo⟩ : ∃ wo : World, wo = wr := ⟨_, rfl⟩
   subst hwo
   obtain ⟨q, L', vals, vv, nsi, rfl, hq, htr⟩ := hrel
   have HT := Lib.hid htr
   obtain ⟨av, cv, hvv, -⟩ := htr.seg.shape
   subst hvv
   obtain ⟨nv, hnv⟩ : ∃ nv, nv = vals.length := ⟨_, rfl⟩
   have HNV := Lib.hid hnv
   have HVL : Hid (nv ≤ q) := Lib.hid (by rw [hnv]; exact htr.len)
   rw [← hnv] at HT
   clear htr HT0 hnv g0 zg
   by_cases hqn : q < n
   · obtain ⟨o, hoo⟩ : ∃ o, ops[q]? = some o := ⟨_, List.getElem?_eq_getElem (by rw [← HN.out]; exact hqn)⟩
     obtain ⟨bl, offl, e0, hbl, r0, r1, r2, r3, r4, r5, r6⟩ := HV.out.ent hoo rfl
     have r0 := HP.out.nm.cell HT.out.tu.mod r0
     have r1 := HP.out.nm.cell HT.out.tu.mod r1
     have r2 := HP.out.nm.cell HT.out.tu.mod r2
     have r3 := HP.out.nm.cell HT.out.tu.mod r3
     have r4 := HP.out.nm.cell HT.out.tu.mod r4
     have r5 := HP.out.nm.cell HT.out.tu.mod r5
     have r6 := HP.out.nm.cell HT.out.tu.mod r6
     have zbl : bl < wo.heap.size := Nat.lt_of_lt_of_le hbl HT.out.tu.mod.size
     have HOO := Lib.hid hoo
     have HFO := Lib.hid (HV.out.fits o (List.mem_of_getElem? hoo))
     have HOKO := Lib.hid (HOK.out o (List.mem_of_getElem? hoo))
     have HGD2 : Hid (Fair (nsi.map Node.x)) := Lib.hid (by rw [HT.out.tu.is]; exact Fair.run (us := []) (vs := vals) HL.out (fun o ho => HOK.out o (List.mem_of_mem_take ho)) HT.out.run)
     obtain ⟨ez, G, vs1, hon⟩ : ∃ ez G vs1, oneG L' o = ⟨ez, G, vs1⟩ := ⟨_, _, _, rfl⟩
     have HON := Lib.hid hon
     have HV1 : Hid (vs1.length ≤ 1) := Lib.hid (by have h := one_vals L' o; rw [hon] at h; exact h)
     subst e0
     have HRUN := Lib.hid (run_any o HOKO.out HFO.out g bm nsi (q : Int))
     obtain ⟨kind, oa, ob, okey, ⟨vk, vn, vs⟩⟩ := o
     simp only at r0 r1 r2 r3 r4 r5 r6
     obtain ⟨n1, hn1⟩ : ∃ n1, n1 = vs1.length := ⟨_, rfl⟩
     have HN1 := Lib.hid hn1
     have HMQ : Hid (Mod (fun _ => False) wo (wo.alloc (.cells #[.int .u8 (kind : Int), .int .u32 (oa : Int), .int .u32 (ob : Int), .int .u8 (okey : Int), .int .u8 (vk : Int), .int .i64 vn, .string vs] 82))) := Lib.hid ((Mod.refl _ _).alloc _)
     have HONE : Hid (Calls Tryz.prog 56 #[.pointer (some ⟨g, 0, none⟩), .int .i64 (q : Int), .agg #[.int .u8 (kind : Int), .int .u32 (oa : Int), .int .u32 (ob : Int), .int .u8 (okey : Int), .int .u8 (vk : Int), .int .i64 vn, .string vs]] (wo.alloc (.cells #[.int .u8 (kind : Int), .int .u32 (oa : Int), .int .u32 (ob : Int), .int .u8 (okey : Int), .int .u8 (vk : Int), .int .i64 vn, .string vs] 82)) (RunP g bm nsi ⟨kind, oa, ob, okey, ⟨vk, vn, vs⟩⟩ (q : Int) (wo.alloc (.cells #[.int .u8 (kind : Int), .int .u32 (oa : Int), .int .u32 (ob : Int), .int .u8 (okey : Int), .int .u8 (vk : Int), .int .i64 vn, .string vs] 82)))) := Lib.hid (HRUN.out _ (HT.out.tu.pg.keep HMQ.out) HGD2.out)
     clear HRUN hoo hbl hon hn1
     by_cases hz : ez = 0
     · subst hz
       have HRK : Hid (∀ e w5, RunP g bm nsi ⟨kind, oa, ob, okey, ⟨vk, vn, vs⟩⟩ (q : Int) (wo.alloc (.cells #[.int .u8 (kind : Int), .int .u32 (oa : Int), .int .u32 (ob : Int), .int .u8 (okey : Int), .int .u8 (vk : Int), .int .i64 vn, .string vs] 82)) e w5 → ∃ vo ns', e = .returned (.tuple #[vo, .nilIface]) ∧ Turned g bm nsi G (fun k => k ≠ oa ∧ k ≠ ob) (wo.alloc (.cells #[.int .u8 (kind : Int), .int .u32 (oa : Int), .int .u32 (ob : Int), .int .u8 (okey : Int), .int .u8 (vk : Int), .int .i64 vn, .string vs] 82)) w5 ns' ∧ RdS w5 3 vo n1 (vvcells vs1)) := Lib.hid (fun e w5 h => by
         have h1 := h.1
         rw [HT.out.tu.is, HON.out] at h1
         rw [HN1.out]
         exact h1 rfl)
       go_wp2_with (first
         | (at_builtin; refine wpList_append_pat rfl (.tmp 35) (.tmp 36) 31 rfl i0 _ 3 32 Tryz.underlying31 HI.out.1 HI.out.2.1 HI.out.2.2.1 HI.out.2.2.2 rfl (by decide) rfl HSG5.out _ n1 _ rfl HSRC.out (by have := HVL.out; have := HV1.out; have := HN1.out; unfold maxLen; omega) (by have := HVL.out; have := HV1.out; have := HN1.out; omega) valP HPT5.out (fun j u hu => valP_cells (vals ++ vs1) j u (by rw [vv_append]; exact hu)) valP_zero ?_; intro v6 w6 hs6 hp6 hg6 ho6; have HAP2 := Lib.hid (HT.out.app HOO.out HON.out HMQ.out HT5.out (by rw [← HNV.out, ← HN1.out]; exact hs6) hp6 hg6 ho6); (obtain ⟨a6, c6, n6, rfl⟩ : ∃ a c n, v6 = .slice a n c := (by obtain ⟨a, c, e, _⟩ := hs6.shape; exact ⟨_, _, _, e⟩)); have p6 := cell_of_row HAP2.out.1 2; have p6f := free_of_row HAP2.out.1 2; have z6 := lt_of_block HAP2.out.1; simp at p6; clear hs6 hp6 hg6 ho6)
         | (go_at_call 56; refine HONE.out.mono ?_; intro e w5 hrp; (obtain ⟨vo5, ns5, rfl, ht5, hv5⟩ := HRK.out e w5 hrp); have HT5 := Lib.hid ht5; have HSRC := Lib.hid (hv5.src (vv_ones vs1)); (obtain ⟨a5, c5, rfl, -⟩ := hv5.shape); have HMID := Lib.hid (HT.out.mid HMQ.out ht5); have HPT5 := Lib.hid HMID.out.2.2.2.2.2; have HSG5 : Hid (Seg w5 68 3 (.slice av nv cv) nv (vvcells vals)) := Lib.hid (by rw [HNV.out]; have h := HMID.out.2.2.1; rw [← HNV.out] at h ⊢; exact h); have p5 := cell_of_row HMID.out.2.1 2; have p5f := free_of_row HMID.out.2.1 2; have z5 := lt_of_block HMID.out.2.1; simp at p5; clear hrp ht5 hv5))
       go_roundw
       case rel => exact ⟨q + 1, G, vals ++ vs1, _, _, by go_num, by omega, HAP2.out.2⟩
       case measure => simp [intOf]; omega
     · have HRN : Hid (∀ e w5, RunP g bm nsi ⟨kind, oa, ob, okey, ⟨vk, vn, vs⟩⟩ (q : Int) (wo.alloc (.cells #[.int .u8 (kind : Int), .int .u32 (oa : Int), .int .u32 (ob : Int), .int .u8 (okey : Int), .int .u8 (vk : Int), .int .i64 vn, .string vs] 82)) e w5 → RunNO ez (q : Int) (wo.alloc (.cells #[.int .u8 (kind : Int), .int .u32 (oa : Int), .int .u32 (ob : Int), .int .u8 (okey : Int), .int .u8 (vk : Int), .int .i64 vn, .string vs] 82)) e w5) := Lib.hid (fun e w5 h => by
         have h1 := h.2
         rw [HT.out.tu.is, HON.out] at h1
         exact h1 hz)
       have HEND : Hid (okRun (ns.map Node.x) ops = none ∧ failG (ns.map Node.x) 0 ops = (ez, q)) := Lib.hid (by
         obtain ⟨h1, h2⟩ := okRun_fail HT.out.run HOO.out (by rw [HON.out]; exact hz)
         exact ⟨h1, by rw [h2, HON.out]⟩)
       clear hz
       go_wp2_with (go_at_call 56; go_loud (refine HONE.out.mono ?_; intro e w5 hrp; (obtain ⟨cb, cw, rfl, hcb, hm5⟩ := HRN.out e w5 hrp); simp only [chainV]; have HM5 := Lib.hid (HMQ.out.trans hm5); have HCB := Lib.hid hcb; clear hrp hcb hm5))
       have HMW : Hid (Mod (FootM bm ns) w w5) := Lib.hid (HT.out.tu.mod.trans (HM5.out.mono (fun _ _ f => f.elim)))
       have HP5 := Lib.hid (HT.out.tu.pg.keep HM5.out)
       clear HRN HONE r0 r1 r2 r3 r4 r5 r6 zbl
       go_loopw [41] (fun i wr => ∃ (j : Nat) (nsk : List Node), i = .int .i64 (j : Int) ∧ j ≤ n ∧ Del g bm nsi (namedB (ops.take j)) w5 wr nsk) (fun i _ => n - (intOf i).toNat)
       case atStart => exact ⟨0, nsi, rfl, Nat.zero_le _, by rw [List.take_zero, namedB_nil]; exact Del.start HP5.out⟩
       case round =>
         obtain ⟨wi, hwi⟩ : ∃ wi : World, wi = wr := ⟨_, rfl⟩
         subst hwi
         obtain ⟨i, nsk, rfl, hj, hdl⟩ := hrel
         have HC := Lib.hid hdl
         have hmw : Mod (FootM bm ns) w wi := HMW.out.trans (hdl.mod.mono (fun b _ e => .inl e))
         clear hdl
         by_cases hjn : i < n
         · obtain ⟨x, hx⟩ : ∃ x, ops[i]? = some x := ⟨_, List.getElem?_eq_getElem (by rw [← HN.out]; exact hjn)⟩
           obtain ⟨bl2, offl2, e2, hbl2, r0, r1, r2, r3, r4, r5, r6⟩ := HV.out.ent hx rfl
           have r0 := HP.out.nm.cell hmw r0
           have r1 := HP.out.nm.cell hmw r1
           have r2 := HP.out.nm.cell hmw r2
           have r3 := HP.out.nm.cell hmw r3
           have r4 := HP.out.nm.cell hmw r4
           have r5 := HP.out.nm.cell hmw r5
           have r6 := HP.out.nm.cell hmw r6
           injection e2 with e2
           injection e2 with e21 e22 _
           subst e21 e22
           have zbl : bl < wi.heap.size := Nat.lt_of_lt_of_le hbl2 hmw.size
           have HNX := Lib.hid (namedB_next hx)
           have HFX := Lib.hid (HV.out.fits x (List.mem_of_getElem? hx))
           clear hx hbl2 hmw HOO HFO HOKO HON HMQ HEND
           obtain ⟨kind, oa, ob, okey, ⟨vk, vn, vs⟩⟩ := x
           simp only at r0 r1 r2 r3 r4 r5 r6 HNX
           have HBW := Lib.hid (HC.out.pg.nm.map.lt)
           go_wp2
           obtain ⟨W1, hW1⟩ : ∃ W1, W1 = (wi.alloc (.cells #[.int .u8 (kind : Int), .int .u32 (oa : Int), .int .u32 (ob : Int), .int .u8 (okey : Int), .int .u8 (vk : Int), .int .i64 vn, .string vs] 82)).alloc (.cells #[.int .u32 (oa : Int), .int .u32 (ob : Int)] 27) := ⟨_, rfl⟩
           have hm01 : Mod (fun _ => False) wi W1 := by rw [hW1]; exact ((Mod.refl _ _).alloc _).alloc _
           have hbx : W1.heap[wi.heap.size + 1]? = some (.cells #[.int .u32 (oa : Int), .int .u32 (ob : Int)] 27 (0, 0)) := by rw [hW1]; have h := heap_alloc_new' (wi.alloc (.cells #[.int .u8 (kind : Int), .int .u32 (oa : Int), .int .u32 (ob : Int), .int .u8 (okey : Int), .int .u8 (vk : Int), .int .i64 vn, .string vs] 82)) (.cells #[.int .u32 (oa : Int), .int .u32 (ob : Int)] 27); simpa using h
           have HBX := Lib.hid hbx
           have HS2 := Lib.hid (HC.out.keep hm01)
           have HNE : Hid (wi.heap.size + 1 ≠ bm) := Lib.hid (by have := HBW.out; omega)
           generalize wi.heap.size + 1 = ba at *
           rw [← hW1]
           clear hW1 hm01 hbx r0 r1 r2 r3 r4 r5 r6 zbl
           go_loopw [51] (fun i' wr => ∃ (j : Nat) (nsk2 : List Node), i' = .int .i64 (j : Int) ∧ j ≤ 2 ∧ Del g bm nsi (namedTo (ops.take i) [oa, ob] j) w5 wr nsk2 ∧ Mod (fun i => i = bm) W1 wr) (fun i' _ => 2 - (intOf i').toNat)
           case atStart => exact ⟨0, nsk, rfl, Nat.zero_le _, by rw [namedTo_zero]; exact HS2.out, Mod.refl _ _⟩
           case round =>
             obtain ⟨j, nsk2, rfl, hj2, hdl2, hm2⟩ := hrel
             have HC2 := Lib.hid hdl2
             have HM2 := Lib.hid hm2
             have hbx2 := hm2.heap HBX.out HNE.out
             have y0 := cell_of_row hbx2 0
             have y1 := cell_of_row hbx2 1
             have zy := lt_of_block hbx2
             have hgc2 := hdl2.pg.cell
             have g0 := cell_of_row hgc2 0
             have zg := lt_of_block hgc2
             simp at y0 y1 g0
             clear hdl2 hm2 hbx2 hgc2
             have hjc : j = 0 ∨ j = 1 ∨ j = 2 := by omega
             clear hj2
             rcases hjc with rfl | rfl | rfl
             · have HNT := Lib.hid (namedTo_succ (ops := ops.take i) (ids := [oa, ob]) (j := 0) (i := oa) rfl)
               obtain ⟨w8, s8, hU8, hM8⟩ := HC2.out.pg.nm.map.drop Tryz.underlying27 Tryz.underlying84 (u32key HFX.out.a) 0
               have HR := Lib.hid (And.intro (HC2.out.more (v := oa) (p' := namedTo (ops.take i) [oa, ob] 1) HNT.out hM8 hU8) (HM2.out.trans hM8))
               clear hU8 hM8
               go_wp2
               go_roundw
               case rel => exact ⟨1, _, by go_num, by omega, HR.out.1, HR.out.2⟩
               case measure => simp [intOf]
             · have HNT := Lib.hid (namedTo_succ (ops := ops.take i) (ids := [oa, ob]) (j := 1) (i := ob) rfl)
               obtain ⟨w8, s8, hU8, hM8⟩ := HC2.out.pg.nm.map.drop Tryz.underlying27 Tryz.underlying84 (u32key HFX.out.b) 0
               have HR := Lib.hid (And.intro (HC2.out.more (v := ob) (p' := namedTo (ops.take i) [oa, ob] 2) HNT.out hM8 hU8) (HM2.out.trans hM8))
               clear hU8 hM8
               go_wp2
               go_roundw
               case rel => exact ⟨2, _, by go_num, by omega, HR.out.1, HR.out.2⟩
               case measure => simp [intOf]
             · have HR : Hid (Del g bm nsi (namedB (ops.take (i + 1))) w5 wr nsk2) := Lib.hid (by rw [HNX.out]; exact HC2.out)
               go_wp2
               go_roundw
               case rel => exact ⟨i + 1, nsk2, by go_num, by omega, HR.out⟩
               case measure => simp [intOf]; omega
         · have HALL : Hid (Del g bm nsi (namedB ops) w5 wi nsk) := Lib.hid (by
             have h := HC.out
             rwa [List.take_of_length_le (by have := HN.out; omega)] at h)
           have HRY := Lib.hid (HT.out.ready HM5.out HALL.out)
           have HCO := Lib.hid (mcopy_any g bm bw nsk cs wi HALL.out.pg HRY.out.1 HRY.out.2)
           have g0 := cell_of_row HALL.out.pg.cell 0
           have zg := lt_of_block HALL.out.pg.cell
           simp at g0
           clear hmw
           go_wp2_with (first
             | (go_at_call 57; go_loud (refine HCO.out.mono ?_; (rintro e w7 ⟨rfl, hm7, nsf, hpf, hmf⟩);  have HUN := Lib.hid (HT.out.undone HP.out HM5.out HALL.out hm7 hpf hmf);  have HMB := Lib.hid ((HALL.out.mod.trans hm7 : Mod (fun b => b = bm) w5 w7));  have HCB7 := Lib.hid (HP5.out.nm.box (HMB.out.mono (fun b _ e => .inl e)) HCB.out);  have HE7 : Hid (ErrT w7) := Lib.hid (HP.out.nm.cell HUN.out.mod HE.out);  have HRB7 := Lib.hid (HP5.out.nm.box (HMB.out.mono (fun b _ e => .inl e)) (HM5.out.heap HT.out.rbx (fun f => f)));  clear hm7 hpf hmf))
             | (go_at_call 58; go_loud (refine (code_any cb (ez : Int) (q : Int) cw _ HE7.out HCB7.out).mono ?_; (rintro e w8 ⟨rfl, hm8⟩); have HM8 := Lib.hid hm8; clear hm8))
             | (go_at_call 59; go_loud (refine (links_any cb (ez : Int) (q : Int) cw _ (HE7.out.keep HM8.out (fun f => f)) (HM8.out.heap HCB7.out (fun f => f))).mono ?_; (rintro e w9 ⟨vl, rfl, hm9, hl9⟩); have HM9 := Lib.hid (HM8.out.trans hm9); (obtain ⟨bk, ok, cl, rfl, hcl, hbk, hck⟩ := link_at hl9); have hrb := HM9.out.heap HRB7.out (fun f => f); have s0 := cell_of_row hrb 0; have s1 := cell_of_row hrb 1; have s2 := cell_of_row hrb 2; have s3 := cell_of_row hrb 3; have f0 := free_of_row hrb 0; have f1 := free_of_row hrb 1; have f2 := free_of_row hrb 2; have f3 := free_of_row hrb 3; have zr := lt_of_block hrb; simp [ansO] at s0 s1 s2 s3; have HRB9 := Lib.hid hrb; clear hm9 hl9 hrb)))
           refine bodyPost_ret (v := .agg #[.int .i64 (ez : Int), .int .i64 (q : Int), .slice none 0 0, .slice none 0 0]) (by simp [results, Tryz.results33, go_sem, s0, s1, s2, s3]) rfl ?_
           have ht := (ret_turned (HUN.out.more HM9.out (fun b f => f.elim)) HRB9.out (Nat.le_refl _) (.int .i64 (ez : Int)) (.int .i64 (q : Int)) (.slice none 0 0) (.slice none 0 0)).1
           exact ⟨_, _, ez, q, [], .slice none 0 0, rfl, ht, Seg.nil _ _ _, fun b hb => by simp [Value.ownBlock] at hb, PatB.nil _ _, .inr ⟨HEND.out.1, rfl, rfl, HEND.out.2⟩⟩
   · have HR : Hid (okRun (ns.map Node.x) ops = some (L', vals)) := Lib.hid (by
       have h := HT.out.run
       rwa [List.take_of_length_le (by have := HN.out; omega)] at h)
     obtain rfl : q = n := by omega
     have a0 := cell_of_row HT.out.abx 0
     have a1 := cell_of_row HT.out.abx 1
     have a2 := cell_of_row HT.out.abx 2
     have a3 := cell_of_row HT.out.abx 3
     have za := lt_of_block HT.out.abx
     have s0 := cell_of_row HT.out.rbx 0
     have s1 := cell_of_row HT.out.rbx 1
     have s2 := cell_of_row HT.out.rbx 2
     have s3 := cell_of_row HT.out.rbx 3
     have f0 := free_of_row HT.out.rbx 0
     have f1 := free_of_row HT.out.rbx 1
     have f2 := free_of_row HT.out.rbx 2
     have f3 := free_of_row HT.out.rbx 3
     have zr := lt_of_block HT.out.rbx
     simp [ansO] at a0 a1 a2 a3 s0 s1 s2 s3
     go_wp2
     refine bodyPost_ret (v := .agg #[.int .i64 0, .int .i64 0, .slice av nv cv, .slice none 0 0]) (by simp [results, Tryz.results33, go_sem, s0, s1, s2, s3]) rfl ?_
     obtain ⟨ht, m⟩ := ret_turned (HT.out.tu.weak (o2 := fun _ => False) (fun _ f => f.elim)) HT.out.rbx (Nat.le_refl _) (.int .i64 0) (.int .i64 0) (.slice av nv cv) (.slice none 0 0)
     refine ⟨L', nsi, 0, 0, vals, .slice av nv cv, rfl, ht, ?_, HT.out.own, HT.out.pat.mod m (HT.out.seg.off_box HT.out.rbx (by decide)), .inl ⟨HR.out, rfl, rfl⟩⟩
     exact HT.out.seg.mod m (HT.out.seg.off_box HT.out.rbx (by decide))
open Go.RowKit Go.Maps
def DoA (g bm : Nat) (ns : List Node) (r : Rqt) (w : World) (e : Ending) (w' : World) : Prop :=
 ∃ vv vl ns', e = .returned (.agg #[.int .i64 ((doG (ns.map Node.x) r).2.e : Nat), .int .i64 ((doG (ns.map Node.x) r).2.at_ : Nat), vv, vl]) ∧ Turned g bm ns (doG (ns.map Node.x) r).1 (fun _ => False) w w' ns' ∧
   Seg w' 68 3 vv (doG (ns.map Node.x) r).2.vals.length (vvcells (doG (ns.map Node.x) r).2.vals) ∧ Seg w' 27 1 vl (doG (ns.map Node.x) r).2.list.length ((doG (ns.map Node.x) r).2.list.map (keyV .u32)) ∧ (∀ b, vv.ownBlock = some b → w.heap.size ≤ b) ∧ (∀ b, vl.ownBlock = some b → w.heap.size ≤ b) ∧ PatB valP w' vv
set_option maxRecDepth 100000 in
set_option maxHeartbeats 4000000 in
theorem gdo_1 (g bm : Nat) (ns : List Node) (r : Rqt) (vo : Value) (w : World) (hp : PG w g bm ns) (hL : Fair (ns.map Node.x)) (ho : ORd w vo r.ops) (hc : checkR r = 0) (hk : r.kind = 1) (hg : ErrT w) :
   Calls Tryz.prog 10 #[.pointer (some ⟨g, 0, none⟩), rqV r vo] w (DoA g bm ns r w) := by
 obtain ⟨kind, ops, v, k, d⟩ := r
 simp only at hk
 subst hk
 have HOK := Lib.hid (checkR_tx hc rfl)
 have HDF : Hid (okRun (ns.map Node.x) ops = none → doG (ns.map Node.x) ⟨1, ops, v, k, d⟩ = (ns.map Node.x, ⟨(failG (ns.map Node.x) 0 ops).1, (failG (ns.map Node.x) 0 ops).2, [], []⟩)) := Lib.hid (fun h => by unfold doG; rw [if_neg (by simpa using hc)]; simp only [if_true]; rw [h])
 have HDR : Hid (∀ p, okRun (ns.map Node.x) ops = some p → doG (ns.map Node.x) ⟨1, ops, v, k, d⟩ = (p.1, ⟨0, 0, p.2, []⟩)) := Lib.hid (fun p h => by unfold doG; rw [if_neg (by simpa using hc)]; simp only [if_true]; rw [h])
 have HP := Lib.hid hp
 have g0 := cell_of_row hp.cell 0
 have zg := lt_of_block hp.cell
 simp at g0
 have HO := Lib.hid ho
 obtain ⟨a, c, rfl, -⟩ := ho.row.shape
 obtain ⟨n, hn⟩ : ∃ n, n = ops.length := ⟨_, rfl⟩
 simp only [rqV, ← hn] at HO ⊢
 have HS := Lib.hid (DoAt.start w (.int .u8 1) (.slice a n c) (.int .u32 (v : Int)) (.int .i64 k) (.int .i64 d))
 have HCK := Lib.hid (gcheck_any ⟨1, ops, v, k, d⟩ (.slice a n c) _ (HO.out.keep HS.out.mod))
 simp only [rqV] at HCK
 rw [hc] at HCK
 have HTR : Hid (∀ w', Mod (fun _ => False) w w' → Calls Tryz.prog 33 #[.pointer (some ⟨g, 0, none⟩), .slice a n c] w' (TransP g bm ns ops w')) := Lib.hid (fun w' m => transact_any ops _ g bm ns w' (hp.keep m) hL (HO.out.keep m) HOK.out.1 HOK.out.2.2 (hg.keep m (fun f => f)))
 clear hn ho hc hp hL hg
 go_enter Tryz.func10, Tryz.ntmps10
 go_wp2_with (first
   | (go_at_call 33; refine (HTR.out _ HD1.out.mod).mono ?_; (rintro e w3 ⟨L3, ns3, ez, pos3, vals3, vv3, rfl, ht3, hs3, ho3, hpt3, hq3⟩); have HT3 := Lib.hid ht3; have HS3 := Lib.hid hs3; have HQ3 := Lib.hid hq3; have HN3 := Lib.hid ho3; have HPT3 := Lib.hid hpt3; have hrb := (HP.out.keep HD1.out.mod).nm.box ht3.mod HD1.out.ret; have HRB := Lib.hid hrb; clear r0 r1 r2 r3 f0 f1 f2 f3 zr; have r0 := cell_of_row hrb 0; have r1 := cell_of_row hrb 1; have r2 := cell_of_row hrb 2; have r3 := cell_of_row hrb 3; have f0 := free_of_row hrb 0; have f1 := free_of_row hrb 1; have f2 := free_of_row hrb 2; have f3 := free_of_row hrb 3; have zr := lt_of_block hrb; simp at r0 r1 r2 r3; (obtain ⟨a3, c3, n3, rfl⟩ : ∃ a c n, vv3 = .slice a n c := (by obtain ⟨a, c, e, _⟩ := hs3.shape; exact ⟨_, _, _, e⟩)); clear ht3 hs3 ho3 hpt3 hq3 hrb)
   | (go_at_call 32; refine HCK.out.mono ?_; (rintro e w1 ⟨rfl, hm1⟩); have HD1 := Lib.hid (HS.out.next hm1 (fun _ f => f.elim)); obtain ⟨r0, r1, r2, r3, f0, f1, f2, f3, zr⟩ := HD1.out.retf; obtain ⟨b0, b1, b2, b3, b4, zb⟩ := HD1.out.boxf; clear hm1))
 refine bodyPost_ret (v := .agg #[.int .i64 (ez : Int), .int .i64 (pos3 : Int), .slice a3 n3 c3, .slice none 0 0]) (by simp [results, Tryz.results10, go_sem, r0, r1, r2, r3]) rfl ?_
 obtain ⟨ht, m⟩ := ret_turned (HT3.out.keep HD1.out.mod (Mod.refl _ _)) HRB.out (Nat.le_succ _) (.int .i64 (ez : Int)) (.int .i64 (pos3 : Int)) (.slice a3 n3 c3) (.slice none 0 0)
 have hs := HS3.out.mod m (HS3.out.off_box HRB.out (by decide))
 rcases HQ3.out with ⟨h1, h2, h3⟩ | ⟨h1, h2, h3, h4⟩
 · subst h2 h3
   have he := HDR.out _ h1
   refine ⟨.slice a3 n3 c3, .slice none 0 0, ns3, by rw [he], by rw [he]; exact ht, by rw [he]; exact hs, by rw [he]; exact Seg.nil _ _ _, fun b hb => Nat.le_trans HD1.out.mod.size (HN3.out b hb), fun b hb => by simp [Value.ownBlock] at hb, HPT3.out.mod m (HS3.out.off_box HRB.out (by decide))⟩
 · subst h2 h3
   have he := HDF.out h1
   rw [h4] at he
   refine ⟨.slice a3 n3 c3, .slice none 0 0, ns3, by rw [he], by rw [he]; exact ht, by rw [he]; exact hs, by rw [he]; exact Seg.nil _ _ _, fun b hb => Nat.le_trans HD1.out.mod.size (HN3.out b hb), fun b hb => by simp [Value.ownBlock] at hb, HPT3.out.mod m (HS3.out.off_box HRB.out (by decide))⟩
open Go.RowKit
theorem ocells_ones (l : List Opr) : ∀ u ∈ ocells l, u.oneCell' = true := by
 intro u hu
 unfold ocells at hu
 obtain ⟨x, _, hx⟩ := List.mem_flatMap.1 hu
 simp [Opr.cells, Val.cells] at hx
 rcases hx with rfl | rfl | rfl | rfl | rfl | rfl | rfl <;> rfl
end Go.Proofs.YtlpdifinkcjckaaGreatDoor
