import Derived.Test.YtpigipgoopeeoaaGreatDoorMOn21
import Derived.Test.YtpigipgoopeeoaaGreatDoorMOn24
set_option linter.unusedVariables false
set_option linter.unusedSimpArgs false
namespace Go.Proofs.YtpigipgoopeeoaaGreatDoor
open Go.RowKit Go.Maps
def TransP (g bm : Nat) (ns : List Node) (ops : List Opr) (w : World) (e : Ending) (w' : World) : Prop :=
 ∃ (L' : Gr) (ns' : List Node) (z pos : Nat) (vals : List Val) (vv : Value), e = .returned (.agg #[.int .i64 (z : Int), .int .i64 (pos : Int), vv, .slice none 0 0]) ∧ Turned g bm ns L' (fun _ => False) w w' ns' ∧ Seg w' 77 3 vv vals.length (vvcells vals) ∧ (∀ b, vv.ownBlock = some b → w.heap.size ≤ b) ∧ PatB valP w' vv ∧
   ((okRun (ns.map Node.x) ops = some (L', vals) ∧ z = 0 ∧ pos = 0) ∨ (okRun (ns.map Node.x) ops = none ∧ L' = ns.map Node.x ∧ vals = [] ∧ (failG (ns.map Node.x) 0 ops) = (z, pos)))
theorem Tr.ready {w wr w5 w6 : World} {g bm : Nat} {ns0 : List Node} {bw : Nat} {cs : List Node} {rb ab : Nat} {ops : List Opr} {k : Nat} {L' : Gr} {vals : List Val} {vv : Value} {nsi nsk : List Node} {p : Nat → Bool} (h : Tr w g bm ns0 bw cs rb ab ops k L' vals vv wr nsi) (m5 : Mod (fun _ => False) wr w5) (hd : Del g bm nsi p w5 w6 nsk) :
   NM w6 bw cs ∧ ∀ b, FootN bw cs b → ¬ Foot g bm nsk b :=
 ⟨(h.cn.keep m5).mod hd.mod (fun b hb e => (h.coff b hb).2 (.inr (.inl e))), fun b hb f => (h.coff b hb).2 (hd.low f)⟩
theorem ret_turned {w w9 : World} {g bm : Nat} {ns nsf : List Node} {L : Gr} {off : Nat → Prop} {rb : Nat} {v : Value} (t : Turned g bm ns L off w w9 nsf) (rbx : w9.heap[rb]? = some (ansO v)) (hlo : w.heap.size ≤ rb) (u0 u1 u2 u3 : Value) : Turned g bm ns L off w (doEnd w9 rb u0 u1 u2 u3) nsf ∧ Mod (fun k => k = rb) w9 (doEnd w9 rb u0 u1 u2 u3) := by
 have m : Mod (fun k => k = rb) w9 (doEnd w9 rb u0 u1 u2 u3) :=
   ((((Mod.refl (fun k => k = rb) w9).setCell (p := ⟨rb, 0, none⟩) (fun _ => rfl) u0).setCell (p := ⟨rb, 1, none⟩) (fun _ => rfl) u1).setCell (p := ⟨rb, 2, none⟩) (fun _ => rfl) u2).setCell (p := ⟨rb, 3, none⟩) (fun _ => rfl) u3
 exact ⟨t.more m (fun b hb => by subst hb; exact ⟨hlo, t.pg.off_box rbx (by decide) (by decide)⟩), m⟩
theorem link_at {w : World} {vl : Value} {u0 u1 : Value} (h : RdS w 2 vl 1 [u0, u1]) : ∃ bk ok cl, vl = .slice (some ⟨bk, ok, none⟩) 1 cl ∧ 1 ≤ cl ∧ bk < w.heap.size ∧ w.cell? ⟨bk, ok, none⟩ = some u0 := by
 obtain ⟨a, c, e, h1, h2, -⟩ := h.shape
 obtain ⟨b, off, e2, h3, h4⟩ := h.cell a c e 0 u0 rfl
 subst e2
 exact ⟨b, off, c, e, h1, h3, by simpa using h4⟩
set_option maxRecDepth 100000 in
set_option maxHeartbeats 8000000 in
theorem transact_any (ops : List Opr) (vo : Value) (g bm : Nat) (ns : List Node) (w : World) (hp : PG w g bm ns) (hL : Good (ns.map Node.x)) (ho : ORd w vo ops) (hok : ∀ o ∈ ops, opOK o = true) (h6 : ops.length ≤ 6) (hg : ErrT w) :
   Calls Tryz.prog 61 #[.pointer (some ⟨g, 0, none⟩), vo] w (TransP g bm ns ops w) := by
 have HP := Lib.hid hp
 have HL := Lib.hid hL
 have HV := Lib.hid ho
 have HOK := Lib.hid hok
 have HE := Lib.hid hg
 obtain ⟨a, c, rfl, hc1, hc2, -⟩ := ho.row.shape
 have g0 := cell_of_row hp.cell 0
 have zg := lt_of_block hp.cell
 simp at g0
 obtain ⟨n, hn⟩ : ∃ n, n = ops.length := ⟨_, rfl⟩
 have HN := Lib.hid hn
 rw [← hn] at HV hc1 h6 ⊢
 have HCP : Hid (Calls Tryz.prog 71 #[.pointer (some ⟨g, 0, none⟩), .slice a n c] (w.alloc (.cells #[.int .i64 0, .int .i64 0, .slice none 0 0, .slice none 0 0] 39)) fun e w' => ∃ bw cs, e = .returned (.map (some bw)) ∧ Cps (w.alloc (.cells #[.int .i64 0, .int .i64 0, .slice none 0 0, .slice none 0 0] 39)) (ns.map Node.x) (namedB ops) bw cs w') := Lib.hid (copied_any ops _ g bm ns _ (hp.keep ((Mod.refl _ _).alloc _)) hL (HV.out.keep ((Mod.refl _ _).alloc _)))
 obtain ⟨i0, hi, hz0, hz1, hz2⟩ := info_parts infoValue
 have HI : Hid (Tryz.prog.info? 77 = some i0 ∧ i0.zero = some (.agg #[.int .u8 0, .int .i64 0, zval]) ∧ i0.size = 3 ∧ i0.bytes = 32) := ⟨hi, hz0, hz1, hz2⟩
 clear hi hz0 hz1 hz2
 clear hn ho hp hL hok hg
 go_enter Tryz.func61, Tryz.ntmps61
 go_wp2_with (go_at_call 71; go_loud (refine HCP.out.mono ?_; (rintro e w2 ⟨bw, cs, rfl, hcp⟩); have HT0 := Lib.hid (Tr.start ops HP.out ((Mod.refl _ w).alloc _) (heap_alloc_new' w _) hcp (by simp)); have hm02 : Mod (fun _ => False) w w2 := ((Mod.refl (fun _ => False) w).alloc _).trans hcp.mod; have g0 := hm02.cell g0; have zg : g < w2.heap.size := Nat.lt_of_lt_of_le zg hm02.size; clear hm02 hcp))
 go_loopw [20] (fun i wr => ∃ (q : Nat) (L' : Gr) (vals : List Val) (vv : Value) (nsi : List Node), i = .int .i64 (q : Int) ∧ q ≤ n ∧ Tr w g bm ns bw cs w.heap.size w2.heap.size ops q L' vals vv wr nsi) (fun i _ => n - (intOf i).toNat)
 case atStart => exact ⟨0, _, _, _, _, rfl, Nat.zero_le _, HT0.out⟩
 case round =>
   obtain ⟨wo, hwo⟩ : ∃ wo : World, wo = wr := ⟨_, rfl⟩
   subst hwo
   obtain ⟨q, L', vals, vv, nsi, rfl, hq, htr⟩ := hrel
   have HT := Lib.hid htr
   obtain ⟨av, cv, hvv, -⟩ := htr.seg.shape
   subst hvv
   obtain ⟨nv, hnv⟩ : ∃ nv, nv = vals.length := ⟨_, rfl⟩
   have HNV := Lib.hid hnv
   have HVL : Hid (nv ≤ q) := Lib.hid (by rw [hnv]; exact htr.len)
   rw [← hnv] at HT
   clear htr HT0 hnv g0 zg
   by_cases hqn : q < n
   · obtain ⟨o, hoo⟩ : ∃ o, ops[q]? = some o := ⟨_, List.getElem?_eq_getElem (by rw [← HN.out]; exact hqn)⟩
     obtain ⟨bl, offl, e0, hbl, r0, r1, r2, r3, r4, r5, r6⟩ := HV.out.ent hoo rfl
     have r0 := HP.out.nm.cell HT.out.tu.mod r0
     have r1 := HP.out.nm.cell HT.out.tu.mod r1
     have r2 := HP.out.nm.cell HT.out.tu.mod r2
     have r3 := HP.out.nm.cell HT.out.tu.mod r3
     have r4 := HP.out.nm.cell HT.out.tu.mod r4
     have r5 := HP.out.nm.cell HT.out.tu.mod r5
     have r6 := HP.out.nm.cell HT.out.tu.mod r6
     have zbl : bl < wo.heap.size := Nat.lt_of_lt_of_le hbl HT.out.tu.mod.size
     have HOO := Lib.hid hoo
     have HFO := Lib.hid (HV.out.fits o (List.mem_of_getElem? hoo))
     have HOKO := Lib.hid (HOK.out o (List.mem_of_getElem? hoo))
     have HGD2 : Hid (Good (nsi.map Node.x)) := Lib.hid (by rw [HT.out.tu.is]; exact Good.run (us := []) (vs := vals) HL.out (fun o ho => HOK.out o (List.mem_of_mem_take ho)) HT.out.run)
     obtain ⟨ez, G, vs1, hon⟩ : ∃ ez G vs1, oneG L' o = ⟨ez, G, vs1⟩ := ⟨_, _, _, rfl⟩
     have HON := Lib.hid hon
     have HV1 : Hid (vs1.length ≤ 1) := Lib.hid (by have h := one_vals L' o; rw [hon] at h; exact h)
     subst e0
     have HRUN := Lib.hid (run_any o HOKO.out HFO.out g bm nsi (q : Int))
     obtain ⟨kind, oa, ob, okey, ⟨vk, vn, vs⟩⟩ := o
     simp only at r0 r1 r2 r3 r4 r5 r6
     obtain ⟨n1, hn1⟩ : ∃ n1, n1 = vs1.length := ⟨_, rfl⟩
     have HN1 := Lib.hid hn1
     have HMQ : Hid (Mod (fun _ => False) wo (wo.alloc (.cells #[.int .u8 (kind : Int), .int .u32 (oa : Int), .int .u32 (ob : Int), .int .u8 (okey : Int), .int .u8 (vk : Int), .int .i64 vn, .string vs] 79))) := Lib.hid ((Mod.refl _ _).alloc _)
     have HONE : Hid (Calls Tryz.prog 72 #[.pointer (some ⟨g, 0, none⟩), .int .i64 (q : Int), .agg #[.int .u8 (kind : Int), .int .u32 (oa : Int), .int .u32 (ob : Int), .int .u8 (okey : Int), .int .u8 (vk : Int), .int .i64 vn, .string vs]] (wo.alloc (.cells #[.int .u8 (kind : Int), .int .u32 (oa : Int), .int .u32 (ob : Int), .int .u8 (okey : Int), .int .u8 (vk : Int), .int .i64 vn, .string vs] 79)) (RunP g bm nsi ⟨kind, oa, ob, okey, ⟨vk, vn, vs⟩⟩ (q : Int) (wo.alloc (.cells #[.int .u8 (kind : Int), .int .u32 (oa : Int), .int .u32 (ob : Int), .int .u8 (okey : Int), .int .u8 (vk : Int), .int .i64 vn, .string vs] 79)))) := Lib.hid (HRUN.out _ (HT.out.tu.pg.keep HMQ.out) HGD2.out)
     clear HRUN hoo hbl hon hn1
     by_cases hz : ez = 0
     · subst hz
       have HRK : Hid (∀ e w5, RunP g bm nsi ⟨kind, oa, ob, okey, ⟨vk, vn, vs⟩⟩ (q : Int) (wo.alloc (.cells #[.int .u8 (kind : Int), .int .u32 (oa : Int), .int .u32 (ob : Int), .int .u8 (okey : Int), .int .u8 (vk : Int), .int .i64 vn, .string vs] 79)) e w5 → ∃ vo ns', e = .returned (.tuple #[vo, .nilIface]) ∧ Turned g bm nsi G (fun k => k ≠ oa ∧ k ≠ ob) (wo.alloc (.cells #[.int .u8 (kind : Int), .int .u32 (oa : Int), .int .u32 (ob : Int), .int .u8 (okey : Int), .int .u8 (vk : Int), .int .i64 vn, .string vs] 79)) w5 ns' ∧ RdS w5 3 vo n1 (vvcells vs1)) := Lib.hid (fun e w5 h => by
         have h1 := h.1
         rw [HT.out.tu.is, HON.out] at h1
         rw [HN1.out]
         exact h1 rfl)
       go_wp2_with (first
         | (at_builtin; refine wpList_append_pat rfl (.tmp 35) (.tmp 36) 36 rfl i0 _ 3 32 Tryz.underlying36 HI.out.1 HI.out.2.1 HI.out.2.2.1 HI.out.2.2.2 rfl (by decide) rfl HSG5.out _ n1 _ rfl HSRC.out (by have := HVL.out; have := HV1.out; have := HN1.out; unfold maxLen; omega) (by have := HVL.out; have := HV1.out; have := HN1.out; omega) valP HPT5.out (fun j u hu => valP_cells (vals ++ vs1) j u (by rw [vv_append]; exact hu)) valP_zero ?_; intro v6 w6 hs6 hp6 hg6 ho6; have HAP2 := Lib.hid (HT.out.app HOO.out HON.out HMQ.out HT5.out (by rw [← HNV.out, ← HN1.out]; exact hs6) hp6 hg6 ho6); (obtain ⟨a6, c6, n6, rfl⟩ : ∃ a c n, v6 = .slice a n c := (by obtain ⟨a, c, e, _⟩ := hs6.shape; exact ⟨_, _, _, e⟩)); have p6 := cell_of_row HAP2.out.1 2; have p6f := free_of_row HAP2.out.1 2; have z6 := lt_of_block HAP2.out.1; simp at p6; clear hs6 hp6 hg6 ho6)
         | (go_at_call 72; refine HONE.out.mono ?_; intro e w5 hrp; (obtain ⟨vo5, ns5, rfl, ht5, hv5⟩ := HRK.out e w5 hrp); have HT5 := Lib.hid ht5; have HSRC := Lib.hid (hv5.src (vv_ones vs1)); (obtain ⟨a5, c5, rfl, -⟩ := hv5.shape); have HMID := Lib.hid (HT.out.mid HMQ.out ht5); have HPT5 := Lib.hid HMID.out.2.2.2.2.2; have HSG5 : Hid (Seg w5 77 3 (.slice av nv cv) nv (vvcells vals)) := Lib.hid (by rw [HNV.out]; have h := HMID.out.2.2.1; rw [← HNV.out] at h ⊢; exact h); have p5 := cell_of_row HMID.out.2.1 2; have p5f := free_of_row HMID.out.2.1 2; have z5 := lt_of_block HMID.out.2.1; simp at p5; clear hrp ht5 hv5))
       go_roundw
       case rel => exact ⟨q + 1, G, vals ++ vs1, _, _, by go_num, by omega, HAP2.out.2⟩
       case measure => simp [intOf]; omega
     · have HRN : Hid (∀ e w5, RunP g bm nsi ⟨kind, oa, ob, okey, ⟨vk, vn, vs⟩⟩ (q : Int) (wo.alloc (.cells #[.int .u8 (kind : Int), .int .u32 (oa : Int), .int .u32 (ob : Int), .int .u8 (okey : Int), .int .u8 (vk : Int), .int .i64 vn, .string vs] 79)) e w5 → RunNO ez (q : Int) (wo.alloc (.cells #[.int .u8 (kind : Int), .int .u32 (oa : Int), .int .u32 (ob : Int), .int .u8 (okey : Int), .int .u8 (vk : Int), .int .i64 vn, .string vs] 79)) e w5) := Lib.hid (fun e w5 h => by
         have h1 := h.2
         rw [HT.out.tu.is, HON.out] at h1
         exact h1 hz)
       have HEND : Hid (okRun (ns.map Node.x) ops = none ∧ failG (ns.map Node.x) 0 ops = (ez, q)) := Lib.hid (by
         obtain ⟨h1, h2⟩ := okRun_fail HT.out.run HOO.out (by rw [HON.out]; exact hz)
         exact ⟨h1, by rw [h2, HON.out]⟩)
       clear hz
       go_wp2_with (go_at_call 72; go_loud (refine HONE.out.mono ?_; intro e w5 hrp; (obtain ⟨cb, cw, rfl, hcb, hm5⟩ := HRN.out e w5 hrp); simp only [chainV]; have HM5 := Lib.hid (HMQ.out.trans hm5); have HCB := Lib.hid hcb; clear hrp hcb hm5))
       have HMW : Hid (Mod (FootM bm ns) w w5) := Lib.hid (HT.out.tu.mod.trans (HM5.out.mono (fun _ _ f => f.elim)))
       have HP5 := Lib.hid (HT.out.tu.pg.keep HM5.out)
       clear HRN HONE r0 r1 r2 r3 r4 r5 r6 zbl
       go_loopw [41] (fun i wr => ∃ (j : Nat) (nsk : List Node), i = .int .i64 (j : Int) ∧ j ≤ n ∧ Del g bm nsi (namedB (ops.take j)) w5 wr nsk) (fun i _ => n - (intOf i).toNat)
       case atStart => exact ⟨0, nsi, rfl, Nat.zero_le _, by rw [List.take_zero, namedB_nil]; exact Del.start HP5.out⟩
       case round =>
         obtain ⟨wi, hwi⟩ : ∃ wi : World, wi = wr := ⟨_, rfl⟩
         subst hwi
         obtain ⟨i, nsk, rfl, hj, hdl⟩ := hrel
         have HC := Lib.hid hdl
         have hmw : Mod (FootM bm ns) w wi := HMW.out.trans (hdl.mod.mono (fun b _ e => .inl e))
         clear hdl
         by_cases hjn : i < n
         · obtain ⟨x, hx⟩ : ∃ x, ops[i]? = some x := ⟨_, List.getElem?_eq_getElem (by rw [← HN.out]; exact hjn)⟩
           obtain ⟨bl2, offl2, e2, hbl2, r0, r1, r2, r3, r4, r5, r6⟩ := HV.out.ent hx rfl
           have r0 := HP.out.nm.cell hmw r0
           have r1 := HP.out.nm.cell hmw r1
           have r2 := HP.out.nm.cell hmw r2
           have r3 := HP.out.nm.cell hmw r3
           have r4 := HP.out.nm.cell hmw r4
           have r5 := HP.out.nm.cell hmw r5
           have r6 := HP.out.nm.cell hmw r6
           injection e2 with e2
           injection e2 with e21 e22 _
           subst e21 e22
           have zbl : bl < wi.heap.size := Nat.lt_of_lt_of_le hbl2 hmw.size
           have HNX := Lib.hid (namedB_next hx)
           have HFX := Lib.hid (HV.out.fits x (List.mem_of_getElem? hx))
           clear hx hbl2 hmw HOO HFO HOKO HON HMQ HEND
           obtain ⟨kind, oa, ob, okey, ⟨vk, vn, vs⟩⟩ := x
           simp only at r0 r1 r2 r3 r4 r5 r6 HNX
           have HBW := Lib.hid (HC.out.pg.nm.map.lt)
           go_wp2
           obtain ⟨W1, hW1⟩ : ∃ W1, W1 = (wi.alloc (.cells #[.int .u8 (kind : Int), .int .u32 (oa : Int), .int .u32 (ob : Int), .int .u8 (okey : Int), .int .u8 (vk : Int), .int .i64 vn, .string vs] 79)).alloc (.cells #[.int .u32 (oa : Int), .int .u32 (ob : Int)] 32) := ⟨_, rfl⟩
           have hm01 : Mod (fun _ => False) wi W1 := by rw [hW1]; exact ((Mod.refl _ _).alloc _).alloc _
           have hbx : W1.heap[wi.heap.size + 1]? = some (.cells #[.int .u32 (oa : Int), .int .u32 (ob : Int)] 32 (0, 0)) := by rw [hW1]; have h := heap_alloc_new' (wi.alloc (.cells #[.int .u8 (kind : Int), .int .u32 (oa : Int), .int .u32 (ob : Int), .int .u8 (okey : Int), .int .u8 (vk : Int), .int .i64 vn, .string vs] 79)) (.cells #[.int .u32 (oa : Int), .int .u32 (ob : Int)] 32); simpa using h
           have HBX := Lib.hid hbx
           have HS2 := Lib.hid (HC.out.keep hm01)
           have HNE : Hid (wi.heap.size + 1 ≠ bm) := Lib.hid (by have := HBW.out; omega)
           generalize wi.heap.size + 1 = ba at *
           rw [← hW1]
           clear hW1 hm01 hbx r0 r1 r2 r3 r4 r5 r6 zbl
           go_loopw [51] (fun i' wr => ∃ (j : Nat) (nsk2 : List Node), i' = .int .i64 (j : Int) ∧ j ≤ 2 ∧ Del g bm nsi (namedTo (ops.take i) [oa, ob] j) w5 wr nsk2 ∧ Mod (fun i => i = bm) W1 wr) (fun i' _ => 2 - (intOf i').toNat)
           case atStart => exact ⟨0, nsk, rfl, Nat.zero_le _, by rw [namedTo_zero]; exact HS2.out, Mod.refl _ _⟩
           case round =>
             obtain ⟨j, nsk2, rfl, hj2, hdl2, hm2⟩ := hrel
             have HC2 := Lib.hid hdl2
             have HM2 := Lib.hid hm2
             have hbx2 := hm2.heap HBX.out HNE.out
             have y0 := cell_of_row hbx2 0
             have y1 := cell_of_row hbx2 1
             have zy := lt_of_block hbx2
             have hgc2 := hdl2.pg.cell
             have g0 := cell_of_row hgc2 0
             have zg := lt_of_block hgc2
             simp at y0 y1 g0
             clear hdl2 hm2 hbx2 hgc2
             have hjc : j = 0 ∨ j = 1 ∨ j = 2 := by omega
             clear hj2
             rcases hjc with rfl | rfl | rfl
             · have HNT := Lib.hid (namedTo_succ (ops := ops.take i) (ids := [oa, ob]) (j := 0) (i := oa) rfl)
               obtain ⟨w8, s8, hU8, hM8⟩ := HC2.out.pg.nm.map.drop Tryz.underlying32 Tryz.underlying125 (u32key HFX.out.a) 0
               have HR := Lib.hid (And.intro (HC2.out.more (v := oa) (p' := namedTo (ops.take i) [oa, ob] 1) HNT.out hM8 hU8) (HM2.out.trans hM8))
               clear hU8 hM8
               go_wp2
               go_roundw
               case rel => exact ⟨1, _, by go_num, by omega, HR.out.1, HR.out.2⟩
               case measure => simp [intOf]
             · have HNT := Lib.hid (namedTo_succ (ops := ops.take i) (ids := [oa, ob]) (j := 1) (i := ob) rfl)
               obtain ⟨w8, s8, hU8, hM8⟩ := HC2.out.pg.nm.map.drop Tryz.underlying32 Tryz.underlying125 (u32key HFX.out.b) 0
               have HR := Lib.hid (And.intro (HC2.out.more (v := ob) (p' := namedTo (ops.take i) [oa, ob] 2) HNT.out hM8 hU8) (HM2.out.trans hM8))
               clear hU8 hM8
               go_wp2
               go_roundw
               case rel => exact ⟨2, _, by go_num, by omega, HR.out.1, HR.out.2⟩
               case measure => simp [intOf]
             · have HR : Hid (Del g bm nsi (namedB (ops.take (i + 1))) w5 wr nsk2) := Lib.hid (by rw [HNX.out]; exact HC2.out)
               go_wp2
               go_roundw
               case rel => exact ⟨i + 1, nsk2, by go_num, by omega, HR.out⟩
               case measure => simp [intOf]; omega
         · have HALL : Hid (Del g bm nsi (namedB ops) w5 wi nsk) := Lib.hid (by
             have h := HC.out
             rwa [List.take_of_length_le (by have := HN.out; omega)] at h)
           have HRY := Lib.hid (HT.out.ready HM5.out HALL.out)
           have HCO := Lib.hid (mcopy_any g bm bw nsk cs wi HALL.out.pg HRY.out.1 HRY.out.2)
           have g0 := cell_of_row HALL.out.pg.cell 0
           have zg := lt_of_block HALL.out.pg.cell
           simp at g0
           clear hmw
           go_wp2_with (first
             | (go_at_call 73; go_loud (refine HCO.out.mono ?_; (rintro e w7 ⟨rfl, hm7, nsf, hpf, hmf⟩);  have HUN := Lib.hid (HT.out.undone HP.out HM5.out HALL.out hm7 hpf hmf);  have HMB := Lib.hid ((HALL.out.mod.trans hm7 : Mod (fun b => b = bm) w5 w7));  have HCB7 := Lib.hid (HP5.out.nm.box (HMB.out.mono (fun b _ e => .inl e)) HCB.out);  have HE7 : Hid (ErrT w7) := Lib.hid (HP.out.nm.cell HUN.out.mod HE.out);  have HRB7 := Lib.hid (HP5.out.nm.box (HMB.out.mono (fun b _ e => .inl e)) (HM5.out.heap HT.out.rbx (fun f => f)));  clear hm7 hpf hmf))
             | (go_at_call 74; go_loud (refine (code_any cb (ez : Int) (q : Int) cw _ HE7.out HCB7.out).mono ?_; (rintro e w8 ⟨rfl, hm8⟩); have HM8 := Lib.hid hm8; clear hm8))
             | (go_at_call 75; go_loud (refine (links_any cb (ez : Int) (q : Int) cw _ (HE7.out.keep HM8.out (fun f => f)) (HM8.out.heap HCB7.out (fun f => f))).mono ?_; (rintro e w9 ⟨vl, rfl, hm9, hl9⟩); have HM9 := Lib.hid (HM8.out.trans hm9); (obtain ⟨bk, ok, cl, rfl, hcl, hbk, hck⟩ := link_at hl9); have hrb := HM9.out.heap HRB7.out (fun f => f); have s0 := cell_of_row hrb 0; have s1 := cell_of_row hrb 1; have s2 := cell_of_row hrb 2; have s3 := cell_of_row hrb 3; have f0 := free_of_row hrb 0; have f1 := free_of_row hrb 1; have f2 := free_of_row hrb 2; have f3 := free_of_row hrb 3; have zr := lt_of_block hrb; simp [ansO] at s0 s1 s2 s3; have HRB9 := Lib.hid hrb; clear hm9 hl9 hrb)))
           refine bodyPost_ret (v := .agg #[.int .i64 (ez : Int), .int .i64 (q : Int), .slice none 0 0, .slice none 0 0]) (by simp [results, Tryz.results61, go_sem, s0, s1, s2, s3]) rfl ?_
           have ht := (ret_turned (HUN.out.more HM9.out (fun b f => f.elim)) HRB9.out (Nat.le_refl _) (.int .i64 (ez : Int)) (.int .i64 (q : Int)) (.slice none 0 0) (.slice none 0 0)).1
           exact ⟨_, _, ez, q, [], .slice none 0 0, rfl, ht, Seg.nil _ _ _, fun b hb => by simp [Value.ownBlock] at hb, PatB.nil _ _, .inr ⟨HEND.out.1, rfl, rfl, HEND.out.2⟩⟩
   · have HR : Hid (okRun (ns.map Node.x) ops = some (L', vals)) := Lib.hid (by
       have h := HT.out.run
       rwa [List.take_of_length_le (by have := HN.out; omega)] at h)
     obtain rfl : q = n := by omega
     have a0 := cell_of_row HT.out.abx 0
     have a1 := cell_of_row HT.out.abx 1
     have a2 := cell_of_row HT.out.abx 2
     have a3 := cell_of_row HT.out.abx 3
     have za := lt_of_block HT.out.abx
     have s0 := cell_of_row HT.out.rbx 0
     have s1 := cell_of_row HT.out.rbx 1
     have s2 := cell_of_row HT.out.rbx 2
     have s3 := cell_of_row HT.out.rbx 3
     have f0 := free_of_row HT.out.rbx 0
     have f1 := free_of_row HT.out.rbx 1
     have f2 := free_of_row HT.out.rbx 2
     have f3 := free_of_row HT.out.rbx 3
     have zr := lt_of_block HT.out.rbx
     simp [ansO] at a0 a1 a2 a3 s0 s1 s2 s3
     go_wp2
     refine bodyPost_ret (v := .agg #[.int .i64 0, .int .i64 0, .slice av nv cv, .slice none 0 0]) (by simp [results, Tryz.results61, go_sem, s0, s1, s2, s3]) rfl ?_
     obtain ⟨ht, m⟩ := ret_turned (HT.out.tu.weak (o2 := fun _ => False) (fun _ f => f.elim)) HT.out.rbx (Nat.le_refl _) (.int .i64 0) (.int .i64 0) (.slice av nv cv) (.slice none 0 0)
     refine ⟨L', nsi, 0, 0, vals, .slice av nv cv, rfl, ht, ?_, HT.out.own, HT.out.pat.mod m (HT.out.seg.off_box HT.out.rbx (by decide)), .inl ⟨HR.out, rfl, rfl⟩⟩
     exact HT.out.seg.mod m (HT.out.seg.off_box HT.out.rbx (by decide))
open Go.RowKit Go.Maps
def bset (ks : List Nat) : Ents := ks.map fun k => (k, .bool true)
def seenIn (x : Nat) (ks : List Nat) : List Nat := layG (fun k => k) x false ks
theorem bset_len (ks : List Nat) : (bset ks).length = ks.length := List.length_map _
theorem bset_get (x : Nat) (ks : List Nat) (z : Value) : (getL x (bset ks)).getD z = if x ∈ ks then .bool true else z := by
 unfold bset
 rw [getL_map (fun k => (k, (.bool true : Value)))]
 by_cases h : x ∈ ks
 · rw [if_pos h]
   cases hf : ks.find? fun y => y == x with
   | none => exact absurd h (fun hm => by have := List.find?_eq_none.1 hf x hm; simp at this)
   | some y => rfl
 · rw [if_neg h]
   have : (ks.find? fun y => y == x) = none := by
     rw [List.find?_eq_none]
     intro y hy e
     simp at e
     exact h (e ▸ hy)
   rw [this]
   rfl
theorem bset_put (x : Nat) {ks : List Nat} (h : ks.Pairwise (· < ·)) : putL x (.bool true) (bset ks) = bset (seenIn x ks) := putL_map (fun k => (k, (.bool true : Value))) x h
theorem seenIn_mem {x y : Nat} {ks : List Nat} (h : ks.Pairwise (· < ·)) : y ∈ seenIn x ks ↔ y ∈ ks ∨ y = x := by
 unfold seenIn
 rw [layG_mem h]
 constructor
 · rintro (⟨h1, _⟩ | ⟨_, h1⟩)
   · exact .inl h1
   · exact .inr h1
 · rintro (h1 | h1)
   · by_cases e : y = x
     · exact .inr ⟨rfl, e⟩
     · exact .inl ⟨h1, e⟩
   · exact .inr ⟨rfl, h1⟩
theorem seenIn_rise {x : Nat} {ks : List Nat} (h : ks.Pairwise (· < ·)) : (seenIn x ks).Pairwise (· < ·) := Rising.lay (key := fun k => k) h
structure Sn (w : World) (bs : Nat) (ks : List Nat) (wr : World) : Prop where
 mod : Mod (fun _ => False) w wr
 map : UMap Tryz.prog 32 .u32 wr bs (bset ks)
 rise : ks.Pairwise (· < ·)
 low : ∀ x ∈ ks, x ≤ 40
 new : w.heap.size ≤ bs
theorem Sn.len {w wr : World} {bs : Nat} {ks : List Nat} (h : Sn w bs ks wr) : ks.length ≤ 41 := by
 have := Rising.short (key := fun k => k) h.rise (b := 0) (m := 41) (fun x hx => ⟨Nat.zero_le _, by have := h.low x hx; omega⟩)
 omega
theorem Sn.more {S : Nat → Prop} {w wr wx : World} {bs : Nat} {ks : List Nat} (h : Sn w bs ks wr) (m : Mod S wr wx) (hs : ∀ b, S b → w.heap.size ≤ b ∧ b ≠ bs) : Sn w bs ks wx :=
 ⟨h.mod.trans' m (fun i hi s => by have := (hs i s).1; omega), h.map.mod m (fun s => (hs bs s).2 rfl), h.rise, h.low, h.new⟩
theorem Sn.put {w wr wx : World} {bs x : Nat} {ks : List Nat} (h : Sn w bs ks wr) (hx : x ≤ 40) (m : Mod (fun b => b = bs) wr wx) (hU : UMap Tryz.prog 32 .u32 wx bs (putL x (.bool true) (bset ks))) : Sn w bs (seenIn x ks) wx :=
 ⟨h.mod.trans' m (fun i hi e => by have := h.new; omega), by rw [← bset_put x h.rise]; exact hU, seenIn_rise h.rise, fun y hy => by
   rcases (seenIn_mem h.rise).1 hy with hy | rfl
   · exact h.low y hy
   · exact hx, h.new⟩
structure Nx (w1 : World) (bs : Nat) (v : Value) (nx : List Nat) (wr : World) : Prop where
 seg : Seg wr 32 1 v nx.length (nx.map (keyV .u32))
 own : ∀ k, v.ownBlock = some k → w1.heap.size ≤ k
 mod : Mod (fun b => b = bs) w1 wr
theorem Nx.nil (w1 : World) (bs : Nat) : Nx w1 bs (.slice none 0 0) [] w1 := ⟨Seg.nil _ _ _, fun k h => by simp [Value.ownBlock] at h, Mod.refl _ _⟩
theorem Nx.more {S : Nat → Prop} {w1 wr wx : World} {bs : Nat} {v : Value} {nx : List Nat} (h : Nx w1 bs v nx wr) (m : Mod S wr wx) (hs : ∀ b, S b → w1.heap.size ≤ b ∨ b = bs) (ho : ∀ b, v.ownBlock = some b → ¬ S b) : Nx w1 bs v nx wx :=
 ⟨h.seg.mod m ho, h.own, h.mod.trans' m (fun i hi s => by rcases hs i s with e | e; omega; exact e)⟩
theorem Nx.snoc {w1 wr w6 : World} {bs x : Nat} {v v6 : Value} {nx : List Nat} (h : Nx w1 bs v nx wr) (hs : Seg w6 32 1 v6 (nx.length + 1) (nx.map (keyV .u32) ++ [.int .u32 (x : Int)])) (hg : wr.grownBy w6 v.ownBlock) (ho : v6.ownBlock = v.ownBlock ∨ v6.ownBlock = some wr.heap.size) : Nx w1 bs v6 (nx ++ [x]) w6 := by
 refine ⟨by rw [List.length_append, List.map_append]; exact hs, fun k hk => ?_, h.mod.grown hg (fun b hb hlt => by have := h.own b hb; omega)⟩
 rcases ho with e | e
 · exact h.own k (e ▸ hk)
 · rw [e] at hk
   injection hk with hk
   have := h.mod.size
   omega
theorem mem_map_block {w : World} {bs : Nat} {ks : List Nat} {w0 : World} (h : Sn w0 bs ks w) {e : TypeId} {size n : Nat} {v : Value} {xs : List Value} (hs : Seg w e size v n xs) {b : Nat} (hb : v.ownBlock = some b) : b ≠ bs := by
 intro eq
 subst eq
 obtain ⟨xs', clock, hm⟩ := h.map.isMap
 rcases hs.2.2 with ⟨rfl, _⟩ | ⟨g, off, cap, cur, rfl, hg, _⟩
 · simp [Value.ownBlock] at hb
 · simp [Value.ownBlock] at hb
   subst hb
   rw [hm] at hg; cases hg
open Go.RowKit Go.Maps
set_option maxRecDepth 100000 in
set_option maxHeartbeats 2000000 in
theorem keysStopBo (Bm b : Nat) (es : Ents) (w : World) (hBm : Bm < w.heap.size) (hm : w.cell? ⟨Bm, 0, none⟩ = some (.map (some b))) (hU : UMap Tryz.prog 32 .u32 w b es) :
   SeqStops Fence.wide 4 Tryz.prog 90 #[.pointer (some ⟨Bm, 0, none⟩)] (keyV .u32) (fun ss => ss.Perm (es.map (·.1))) (fun _ => True) es.length w := by
 intro l J Jx W hW hJ _ hY h0
 have hm' : W.cell? ⟨Bm, 0, none⟩ = some (.map (some b)) := (hW.cell (p := ⟨Bm, 0, none⟩) hBm).trans hm
 have hown : W.ownsMap Tryz.prog 32 rawE b es.length (entsD .u32 es) := by
   have hbl := hU.lt
   obtain ⟨xs, clock, hb, Ft, hs, hD⟩ := hU.own
   exact ⟨xs, clock, (hW.block b hbl).trans hb, Ft, hs, hD⟩
 have hsz : Maps.size (entsD .u32 es) = es.length := entsD_size _ _
 have hri := UMap.rising hU (int_keyed Tryz.underlying32)
 refine callsIn_of_wp Tryz.func90 rfl trivial ?_ rfl
 simp only [Tryz.ntmps90, List.size_toArray, List.length_cons, List.length_nil, Nat.reduceAdd, Nat.reduceSub, Array.replicate_succ, Array.replicate_zero, List.push_toArray, List.append_toArray, List.nil_append, List.cons_append]
 have HRI := Lib.hid hri
 have HSZ := Lib.hid hsz
 have HU := Lib.hid hU
 have HW := Lib.hid hW
 clear hri hsz hm hU hW
 gi_wp2_with (first
   | (gi_at_range; refine wpListIn_range_own _ rfl _ 160 rfl 32 4 (int_keyed Tryz.underlying32) Tryz.underlying160 _ b es.length _ rfl hown ?_; intro w0 hrg0 hg0 hs0)
   | gi_in)
 go_frame
 gi_loopw [3] (fun _ wr => ∃ (left : Lit → Bool) (cnt : Nat) (ss : List Nat), wr.ranges Tryz.prog 32 rawE b W.heap.size es.length (entsD .u32 es) left cnt ∧ ss.length + cnt ≤ es.length ∧ CollU .u32 es left ss ∧ J ss wr)
   (fun _ wr => wr.rangeLeft b W.heap.size)
 case atStart =>
   exact ⟨_, _, [], hrg0, by rw [HSZ.out]; simp, CollU.start _ _, hJ [] W w0 none h0 hg0 (fun r e => by cases e)⟩
 case round =>
   obtain ⟨left, cnt, ss, hrg, hcs, hC, hJs⟩ := hrel
   gi_wp2_with (first
     | (gi_at_next; refine wpListIn_next_ranges _ rfl _ rfl 32 (int_keyed Tryz.underlying32) rawE (keyV .u32) id (fun key kl hk => by obtain ⟨x, hx, _⟩ := key_nat (by simp) Tryz.underlying32 hk; exact ⟨x, hx⟩) (fun v _ _ => ⟨v, rfl⟩) b W.heap.size es.length _ _ _ rfl hrg ?_ ?_)
     | gi_in)
   · intro hc0 hl0
     gi_wp2
     go_end0
     exact ⟨⟨_, rfl⟩, .inl ⟨ss, hC.perm HRI.out hl0, hJs⟩⟩
   · intro x c kl yd yp w2 cnt2 hkey hlk hv hat hrg2 hlt hg2 hs2 hen
     obtain ⟨x', ex, rfl, _⟩ := key_nat (by simp) Tryz.underlying32 hkey
     obtain rfl : x = x' := keyV_inj ex
     have hJ2 : J ss w2 := hJ ss wr w2 (some W.heap.size) hJs hg2 (fun r e => by cases e; exact ⟨Nat.le_refl _, hrg.iter_walk⟩)
     obtain ⟨fn, tmps, assign, body, hy, hR⟩ := hY ss x w2 hJ2 (by omega)
     clear hs2
     gi_wp2
     refine hR.mono ?_
     have hC2 := hC.step hlk hat
     rintro e W3 (⟨rfl, hJ3, hk3⟩ | ⟨rfl, hJx3⟩)
     · gi_wp2
       have hrg3 := hrg2.of_walks hk3
       go_roundw
       case rel => exact ⟨_, cnt2, ss ++ [x], hrg3, by simp; omega, hC2, hJ3⟩
       case measure => rw [hrg3.left_eq, hrg.left_eq]; exact hlt
     · gi_wp2
       refine bodyPost_ret (results_none rfl _ _ _) rfl ?_
       exact ⟨⟨_, rfl⟩, .inr ⟨ss ++ [x], trivial, hJx3⟩⟩
theorem keysBo (mb : Option Nat) (w : World) : Calls Tryz.prog 76 #[.map mb] w fun e w' => e = .returned (.func (.func 90) #[] #[.pointer (some ⟨w.heap.size, 0, none⟩)]) ∧ w' = w.alloc (.cells #[.map mb] 160) := by
 go_enter Tryz.func76, Tryz.ntmps76
 go_wp2
 go_ret
 exact ⟨rfl, rfl⟩
theorem sortedKeysBo (b : Nat) (es : Ents) (w : World) (hU : UMap Tryz.prog 32 .u32 w b es) (hl : es.length < 999999) :
   Calls Tryz.prog 63 #[.func (.func 90) #[] #[.pointer (some ⟨w.heap.size, 0, none⟩)]] (w.alloc (.cells #[.map (some b)] 160)) fun e w' => ∃ v, e = .returned v ∧ SegN w w' v (es.map (·.1)) := by
 have hri := UMap.rising hU (int_keyed Tryz.underlying32)
 refine (sorted_any _ _ (enters_of Tryz.func90 (by kernel_rfl) rfl) _ _ es.length hl (fun ss h => by rw [h.length_eq, List.length_map]; exact hl) _
   (keysStopBo w.heap.size b es _ (by simp) (by rw [cell_of_row (heap_alloc_new' w _)]; rfl) (hU.keep ((Mod.refl _ w).alloc _)))).mono ?_
 rintro e w' ⟨v, ss, ts, rfl, h1, h2, h3, h4⟩
 have e1 : ts = es.map (·.1) := rising_eq (by rw [List.pairwise_map]; exact hri) (h2.trans h1) h3
 subst e1
 exact ⟨v, rfl, h4.seg, fun k hk => by have := h4.own k hk; simp at this; omega, ((Mod.refl _ w).alloc _).trans h4.mod⟩
end Go.Proofs.YtpigipgoopeeoaaGreatDoor
