import Derived.Test.YtlpdifinkcjckaaGreatDoorMNRun07
import Derived.Test.YtlpdifinkcjckaaGreatDoorMNRun09
set_option linter.unusedVariables false
set_option linter.unusedSimpArgs false
namespace Go.Proofs.YtlpdifinkcjckaaGreatDoor
open Go.RowKit
set_option maxRecDepth 100000 in
set_option maxHeartbeats 8000000 in
theorem do_1f (g : Nat) (gv : Value) (l : List Vs) (r : Rqt) (vo : Value) (w : World) (hg : GrAt w g gv l) (hgood : Fair (l.map Vs.x)) (ho : ORd w vo r.ops) (hc : checkR r = 0) (hk : r.kind = 1) :
   Calls Tryz.prog 48 #[.pointer (some ⟨g, 0, none⟩), rqV r vo] w (DoP g l r w) := by
 obtain ⟨kind, ops, v, k, d⟩ := r
 simp only at hk
 subst hk
 have HOK := Lib.hid (checkR_tx hc rfl)
 have HDF : Hid (okRun (l.map Vs.x) ops = none → doG (l.map Vs.x) ⟨1, ops, v, k, d⟩ = (l.map Vs.x, ⟨(failG (l.map Vs.x) 0 ops).1, (failG (l.map Vs.x) 0 ops).2, [], []⟩)) := Lib.hid (fun h => by unfold doG; rw [if_neg (by simpa using hc)]; simp only [if_true]; rw [h])
 have HDR : Hid (∀ p, okRun (l.map Vs.x) ops = some p → doG (l.map Vs.x) ⟨1, ops, v, k, d⟩ = (p.1, ⟨0, 0, p.2, []⟩)) := Lib.hid (fun p h => by unfold doG; rw [if_neg (by simpa using hc)]; simp only [if_true]; rw [h])
 have HO := Lib.hid ho
 have HG := Lib.hid hg
 have HGD := Lib.hid hgood
 obtain ⟨a, c, rfl, hc1, hc2, -⟩ := ho.row.shape
 obtain ⟨n, hn⟩ : ∃ n, n = ops.length := ⟨_, rfl⟩
 have HN := Lib.hid hn
 simp only at hc1
 simp only [rqV, ← hn] at HO hc1 ⊢
 have HS := Lib.hid (DoAt.start w (.int .u8 1) (.slice a n c) (.int .u32 (v : Int)) (.int .i64 k) (.int .i64 d))
 have HCK := Lib.hid (dcheck_any ⟨1, ops, v, k, d⟩ (.slice a n c) _ (HO.out.keep HS.out.mod))
 simp only [rqV] at HCK
 rw [hc] at HCK
 have hn6 : n ≤ 6 := by rw [hn]; exact HOK.out.2.2
 have HCP : Hid (∀ w', Mod (fun _ => False) w w' → Calls Tryz.prog 47 #[.pointer (some ⟨g, 0, none⟩)] w' fun e w'' => Mod (fun _ => False) w' w'' ∧ ∃ g' v' l', e = .returned (.pointer (some ⟨g', 0, none⟩)) ∧ GrAt w'' g' v' l' ∧ l'.map Vs.x = l.map Vs.x ∧ w'.heap.size ≤ g') := Lib.hid (fun w' m => by
   have ht := hgood.tame
   exact copy_any g gv l w' (HG.out.keep m) (by have := ht.len; omega) (fun x hx => by have := ht.each x hx; exact ⟨by omega, by omega⟩))
 obtain ⟨i0, hi, hz0, hz1, hz2⟩ := info_parts infoValue
 have HI : Hid (Tryz.prog.info? 68 = some i0 ∧ i0.zero = some (.agg #[.int .u8 0, .int .i64 0, zval]) ∧ i0.size = 3 ∧ i0.bytes = 32) := ⟨hi, hz0, hz1, hz2⟩
 clear hi hz0 hz1 hz2
 clear hn ho hc hg hgood
 go_enter Tryz.func48, Tryz.ntmps48
 go_wp2_with (first
   | (go_at_call 47; refine (HCP.out _ HD1.out.mod).mono ?_; (rintro e w2 ⟨hm2, hb, v2, l2, rfl, hg2, hl2, hlo2⟩); have HLP0 := Lib.hid (DoLp.start ops HD1.out hm2 hg2 hl2 hlo2); replace b1 := hm2.cell b1; have zb2 := Nat.lt_of_lt_of_le zb hm2.size; clear hm2 hg2 hl2 hlo2 b0 b2 b3 b4)
   | (go_at_call 44; refine HCK.out.mono ?_; (rintro e w1 ⟨rfl, hm1⟩); have HD1 := Lib.hid (HS.out.next hm1 (fun _ f => f.elim)); obtain ⟨b0, b1, b2, b3, b4, zb⟩ := HD1.out.boxf; clear hm1))
 go_loopw [46] (fun i wr => ∃ (q : Nat) (L' : Gr) (vals : List Val) (vv : Value), i = .int .i64 (q : Int) ∧ q ≤ n ∧ DoLp w (.int .u8 1) (.slice a n c) (.int .u32 (v : Int)) (.int .i64 k) (.int .i64 d) hb w2.heap.size (l.map Vs.x) ops q L' vals vv wr) (fun i _ => n - (intOf i).toNat)
 case atStart => exact ⟨0, _, _, _, rfl, Nat.zero_le _, HLP0.out⟩
 case round =>
   obtain ⟨q, L', vals, vv, rfl, hq, hlp⟩ := hrel
   have HLP := Lib.hid hlp
   obtain ⟨av, cv, hvv, -⟩ := hlp.seg.shape
   subst hvv
   obtain ⟨vh, lh, hgr, hlh⟩ := hlp.gr
   have HGR := Lib.hid hgr
   have HLH := Lib.hid hlh
   obtain ⟨nv, hnv⟩ : ∃ nv, nv = vals.length := ⟨_, rfl⟩
   have HNV := Lib.hid hnv
   have HVL : Hid (nv ≤ q) := Lib.hid (by rw [hnv]; exact hlp.len)
   rw [← hnv] at HLP
   clear hlp HLP0 hnv
   by_cases hqn : q < n
   · obtain ⟨o, ho⟩ : ∃ o, ops[q]? = some o := ⟨_, List.getElem?_eq_getElem (by rw [← HN.out]; exact hqn)⟩
     obtain ⟨bl, offl, e0, hbl, r0, r1, r2, r3, r4, r5, r6⟩ := HO.out.ent ho rfl
     replace r0 := HLP.out.at_.mod.cell r0
     replace r1 := HLP.out.at_.mod.cell r1
     replace r2 := HLP.out.at_.mod.cell r2
     replace r3 := HLP.out.at_.mod.cell r3
     replace r4 := HLP.out.at_.mod.cell r4
     replace r5 := HLP.out.at_.mod.cell r5
     replace r6 := HLP.out.at_.mod.cell r6
     have zbl : bl < wr.heap.size := Nat.lt_of_lt_of_le hbl HLP.out.at_.mod.size
     have HOO := Lib.hid ho
     have HFO := Lib.hid (HO.out.fits o (List.mem_of_getElem? ho))
     have HOKO := Lib.hid (HOK.out.1 o (List.mem_of_getElem? ho))
     have HGD2 : Hid (Fair (lh.map Vs.x)) := Lib.hid (by rw [hlh]; exact Fair.run (us := []) (vs := vals) HGD.out (fun o ho => HOK.out.1 o (List.mem_of_mem_take ho)) HLP.out.run)
     obtain ⟨ez, G, vs1, hon⟩ : ∃ ez G vs1, oneG L' o = ⟨ez, G, vs1⟩ := ⟨_, _, _, rfl⟩
     have HON := Lib.hid hon
     have HV1 : Hid (vs1.length ≤ 1) := Lib.hid (by have h := one_vals L' o; rw [hon] at h; exact h)
     subst e0
     obtain ⟨kind, oa, ob, okey, ⟨vk, vn, vs⟩⟩ := o
     simp only at r0 r1 r2 r3 r4 r5 r6
     obtain ⟨n1, hn1⟩ : ∃ n1, n1 = vs1.length := ⟨_, rfl⟩
     have HN1 := Lib.hid hn1
     have HMQ : Hid (Mod (fun _ => False) wr (wr.alloc (.cells #[.int .u8 (kind : Int), .int .u32 (oa : Int), .int .u32 (ob : Int), .int .u8 (okey : Int), .int .u8 (vk : Int), .int .i64 vn, .string vs] 82))) := Lib.hid ((Mod.refl _ _).alloc _)
     have HONE : Hid (Calls Tryz.prog 77 #[.pointer (some ⟨hb, 0, none⟩), .agg #[.int .u8 (kind : Int), .int .u32 (oa : Int), .int .u32 (ob : Int), .int .u8 (okey : Int), .int .u8 (vk : Int), .int .i64 vn, .string vs]] (wr.alloc (.cells #[.int .u8 (kind : Int), .int .u32 (oa : Int), .int .u32 (ob : Int), .int .u8 (okey : Int), .int .u8 (vk : Int), .int .i64 vn, .string vs] 82)) fun e w5 => Mod (fun k => k = hb) (wr.alloc (.cells #[.int .u8 (kind : Int), .int .u32 (oa : Int), .int .u32 (ob : Int), .int .u8 (okey : Int), .int .u8 (vk : Int), .int .i64 vn, .string vs] 82)) w5 ∧ ∃ vo v5 l5, e = .returned (.tuple #[.int .i64 (ez : Int), vo]) ∧ GrAt w5 hb v5 l5 ∧ l5.map Vs.x = G ∧ RdS w5 3 vo n1 (vvcells vs1)) := Lib.hid (by
       have h := one_any hb vh lh ⟨kind, oa, ob, okey, ⟨vk, vn, vs⟩⟩ (wr.alloc (.cells #[.int .u8 (kind : Int), .int .u32 (oa : Int), .int .u32 (ob : Int), .int .u8 (okey : Int), .int .u8 (vk : Int), .int .i64 vn, .string vs] 82)) (hgr.keep HMQ.out) HGD2.out.tame HFO.out HOKO.out
       unfold OneP at h
       rw [hlh, hon] at h
       rw [hn1]
       exact h)
     clear ho hbl hgr hlh hon hn1
     by_cases hz : ez = 0
     · subst hz
       go_wp2_with (first
         | (at_builtin; refine wpList_append_pat rfl (.tmp 63) (.tmp 64) 31 rfl i0 _ 3 32 Tryz.underlying31 HI.out.1 HI.out.2.1 HI.out.2.2.1 HI.out.2.2.2 rfl (by decide) rfl HSG5.out _ n1 _ rfl HSRC.out (by have := HVL.out; have := HV1.out; have := HN1.out; unfold maxLen; omega) (by have := HVL.out; have := HV1.out; have := HN1.out; omega) valP HPT5.out (fun j u hu => valP_cells (vals ++ vs1) j u (by rw [vv_append]; exact hu)) valP_zero ?_; intro v6 w6 hs6 hp6 hg6 ho6; have HAP2 := Lib.hid (HLP.out.app HOO.out HON.out HMQ.out HM5.out HG5.out HL5.out (by rw [← HNV.out, ← HN1.out]; exact hs6) hp6 hg6 ho6); (obtain ⟨a6, c6, n6, rfl⟩ : ∃ a c n, v6 = .slice a n c := (by obtain ⟨a, c, e, _⟩ := hs6.shape; exact ⟨_, _, _, e⟩)); have p6 := cell_of_row HAP2.out.1 2; have p6f := free_of_row HAP2.out.1 2; have z6 := lt_of_block HAP2.out.1; simp at p6; clear hs6 hp6 hg6 ho6)
         | (go_at_call 77; refine HONE.out.mono ?_; (rintro e w5 ⟨hm5, vo, v5, l5, rfl, hg5, hl5, hv5⟩); have HM5 := Lib.hid hm5; have HG5 := Lib.hid hg5; have HL5 := Lib.hid hl5; have HSRC := Lib.hid (hv5.src (vv_ones vs1)); (obtain ⟨a5, c5, rfl, -⟩ := hv5.shape); have HMID := Lib.hid (HLP.out.mid HMQ.out hm5); have HSG5 : Hid (Seg w5 68 3 (.slice av nv cv) nv (vvcells vals)) := Lib.hid (by rw [HNV.out]; have h := HMID.out.2.1; rw [← HNV.out] at h ⊢; exact h); have HPT5 := Lib.hid HMID.out.2.2; have p5 := cell_of_row HMID.out.1 2; have p5f := free_of_row HMID.out.1 2; have z5 := lt_of_block HMID.out.1; simp at p5; clear hm5 hg5 hl5 hv5))
       go_roundw
       case rel => exact ⟨q + 1, G, vals ++ vs1, _, by go_num, by omega, HAP2.out.2⟩
       case measure => simp [intOf]; omega
     · have hz' : ((ez : Int) != 0) = true := by simp [hz]
       have HE : Hid (doG (l.map Vs.x) ⟨1, ops, v, k, d⟩ = (l.map Vs.x, ⟨ez, q, [], []⟩)) := Lib.hid (by
         obtain ⟨h1, h2⟩ := okRun_fail HLP.out.run HOO.out (by rw [HON.out]; exact hz)
         rw [HDF.out h1, h2, HON.out])
       go_wp2_with (go_at_call 77; refine HONE.out.mono ?_; (rintro e w5 ⟨hm5, vo, v5, l5, rfl, hg5, hl5, hv5⟩); (obtain ⟨a5, c5, rfl, -⟩ := hv5.shape); have HD5 := Lib.hid ((HLP.out.at_.next HMQ.out (fun _ f => f.elim)).next hm5 (fun k e => by have := HLP.out.hlo; omega)); obtain ⟨s0, s1, s2, s3, f0, f1, f2, f3, zr⟩ := HD5.out.retf; clear hm5 hg5 hl5 hv5)
       refine bodyPost_ret (v := .agg #[.int .i64 (ez : Int), .int .i64 (q : Int), .slice none 0 0, .slice none 0 0]) (by simp [results, Tryz.results48, go_sem, s0, s1, s2, s3]) rfl ?_
       exact DoP.stay HG.out (HD5.out.finish _ _ _ _).1 HE.out (RdS.none _ _)
   · have HR : Hid (okRun (l.map Vs.x) ops = some (L', vals)) := Lib.hid (by
       have h := HLP.out.run
       rwa [List.take_of_length_le (by have := HN.out; omega)] at h)
     obtain rfl : q = n := by omega
     obtain ⟨ah, ch, nh, rfl⟩ : ∃ a c n, vh = .slice a n c := by
       obtain ⟨a, c, e, _⟩ := hgr.lst.row.shape
       exact ⟨_, _, _, e⟩
     have h0 := cell_of_row hgr.box 0
     have zh := lt_of_block hgr.box
     have hgb := HLP.out.at_.mod.heap HG.out.box (fun f => f)
     have g0 := cell_of_row hgb 0
     have g0f := free_of_row hgb 0
     have zg := lt_of_block hgb
     have a0 := cell_of_row HLP.out.abx 0
     have a1 := cell_of_row HLP.out.abx 1
     have a2 := cell_of_row HLP.out.abx 2
     have a3 := cell_of_row HLP.out.abx 3
     have za := lt_of_block HLP.out.abx
     obtain ⟨s0, s1, s2, s3, f0, f1, f2, f3, zr⟩ := HLP.out.at_.retf
     simp at h0 g0 a0 a1 a2 a3
     have e1 : g < w.heap.size := lt_of_block HG.out.box
     have e2 := HLP.out.hlo
     have e3 := HLP.out.alo
     have n1 : g ≠ hb := by omega
     have n2 : g ≠ w2.heap.size := by omega
     have n3 : g ≠ w.heap.size + 1 := by omega
     have n4 : w.heap.size + 1 ≠ g := by omega
     have n5 : w2.heap.size ≠ g := by omega
     have n6 : hb ≠ g := by omega
     clear e1 e2 e3 hgb hgr hlh
     go_wp2
     refine bodyPost_ret (v := .agg #[.int .i64 0, .int .i64 0, .slice av nv cv, .slice none 0 0]) (by simp [results, Tryz.results48, go_sem, s0, s1, s2, s3, n3, n4]) rfl ?_
     obtain ⟨m, gf, sf⟩ := HLP.out.finish HG.out HGR.out
     refine ⟨m, .slice av nv cv, .slice none 0 0, _, lh, by rw [HDR.out _ HR.out]; rfl, gf, by rw [HDR.out _ HR.out]; exact HLH.out, by rw [HDR.out _ HR.out]; exact sf.rdS, by rw [HDR.out _ HR.out]; exact RdS.none _ _⟩
open Go.RowKit
set_option maxRecDepth 100000 in
set_option maxHeartbeats 4000000 in
theorem dvertex_none (g : Nat) (gv : Value) (l : List Vs) (id : Nat) (w : World) (hg : GrAt w g gv l) (hf : findV (l.map Vs.x) id = none) :
   Calls Tryz.prog 50 #[.pointer (some ⟨g, 0, none⟩), .int .u32 (id : Int)] w fun e w' => e = .returned (.agg #[.int .u32 (id : Int), .bool false, .slice none 0 0, .slice none 0 0]) ∧ Mod (fun _ => False) w w' := by
 have HAT : Hid (∀ w', Mod (fun _ => False) w w' → Calls Tryz.prog 75 #[.pointer (some ⟨g, 0, none⟩), .int .u32 (id : Int)] w' fun e w'' => e = .returned (.int .i64 (-1)) ∧ Mod (fun _ => False) w' w'') := Lib.hid (fun w' m => by
   have h := at_any g gv l id w' (hg.keep m)
   rwa [find_none hf] at h)
 have HR : Hid ((w.alloc (.cells #[.int .u32 0, .bool false, .slice none 0 0, .slice none 0 0] 47)).heap[w.heap.size]? = some (.cells #[.int .u32 0, .bool false, .slice none 0 0, .slice none 0 0] 47 (0, 0))) := Lib.hid (heap_alloc_new' _ _)
 clear hg hf
 go_enter Tryz.func50, Tryz.ntmps50
 go_wp2_with (go_at_call 75; go_loud (refine (HAT.out _ ((Mod.refl _ _).alloc _)).mono ?_; (rintro e w1 ⟨rfl, hm1⟩); have HM1 := Lib.hid hm1; have hrb := hm1.heap HR.out (fun f => f); have r0 := cell_of_row hrb 0; have r1 := cell_of_row hrb 1; have r2 := cell_of_row hrb 2; have r3 := cell_of_row hrb 3; have f0 := free_of_row hrb 0; have f1 := free_of_row hrb 1; have f2 := free_of_row hrb 2; have f3 := free_of_row hrb 3; have zr := lt_of_block hrb; simp at r0 r1 r2 r3; clear hm1 hrb))
 refine bodyPost_ret (v := .agg #[.int .u32 (id : Int), .bool false, .slice none 0 0, .slice none 0 0]) (by simp [results, Tryz.results50, go_sem, r0, r1, r2, r3]) rfl ?_
 have m := vxEnd_mod w1 w.heap.size (.int .u32 (id : Int)) (.bool false) (.slice none 0 0) (.slice none 0 0)
 exact ⟨rfl, (((Mod.refl (fun _ => False) w).alloc _).trans HM1.out).trans' m (fun i hi e => by omega)⟩
open Go.RowKit
set_option maxRecDepth 100000 in
set_option maxHeartbeats 4000000 in
theorem dvertex_at (g : Nat) (gv : Value) (l : List Vs) (id0 : Nat) (w : World) (hg : GrAt w g gv l) (x : Vtx) (i : Nat) (s : Vs) (ha : atI l id0 = (i : Int)) (hs : l[i]? = some s) (hsx : s.x = x) :
   Calls Tryz.prog 50 #[.pointer (some ⟨g, 0, none⟩), .int .u32 (id0 : Int)] w fun e w' => e = .returned (.agg #[.int .u32 (x.id : Int), .bool x.there, s.vp, s.vh]) ∧ Mod (fun _ => False) w w' := by
 have HAT : Hid (∀ w', Mod (fun _ => False) w w' → Calls Tryz.prog 75 #[.pointer (some ⟨g, 0, none⟩), .int .u32 (id0 : Int)] w' fun e w'' => e = .returned (.int .i64 (i : Int)) ∧ Mod (fun _ => False) w' w'') := Lib.hid (fun w' m => by
   have h := at_any g gv l id0 w' (hg.keep m)
   rwa [ha] at h)
 have HR : Hid ((w.alloc (.cells #[.int .u32 0, .bool false, .slice none 0 0, .slice none 0 0] 47)).heap[w.heap.size]? = some (.cells #[.int .u32 0, .bool false, .slice none 0 0, .slice none 0 0] 47 (0, 0))) := Lib.hid (heap_alloc_new' _ _)
 have hvx := hg.lst.at hs
 rw [hsx] at hvx
 have HVX := Lib.hid hvx
 obtain ⟨a, c, rfl, hc1, hc2, -⟩ := hg.lst.row.shape
 obtain ⟨bl, offl, e0, hbl, p0, p1, p2, p3⟩ := hg.lst.ent hs rfl
 subst e0
 rw [hsx] at p0 p1
 have g0 := cell_of_row hg.box 0
 simp at g0
 have hil : i < l.length := (List.getElem?_eq_some_iff.1 hs).1
 obtain ⟨n, hn⟩ : ∃ n, n = l.length := ⟨_, rfl⟩
 rw [← hn] at g0 hc1 hil
 have hil' : (i : Int) < (n : Int) := by omega
 have zg := lt_of_block hg.box
 obtain ⟨sx, vp, vh⟩ := s
 obtain ⟨id, there, xs, ys⟩ := x
 simp only at p0 p1 p2 p3 HVX ⊢
 obtain ⟨ap, cp, hvp, -⟩ := HVX.out.props.shape
 obtain ⟨ah, ch, hvh, -⟩ := HVX.out.halves.shape
 obtain ⟨np, hnp⟩ : ∃ n, n = xs.length := ⟨_, rfl⟩
 obtain ⟨nh, hnh⟩ : ∃ n, n = ys.length := ⟨_, rfl⟩
 simp only at hvp hvh
 rw [← hnp] at hvp
 rw [← hnh] at hvh
 subst hvp hvh
 have HKEEP : Hid (∀ w', Mod (fun _ => False) w w' → (fun w' => w'.cell? ⟨g, 0, none⟩ = some (.slice (some ⟨bl, offl, none⟩) n c) ∧ w'.cell? ⟨bl, offl + i * 4, none⟩ = some (.int .u32 (id : Int)) ∧ w'.cell? ⟨bl, offl + i * 4 + 1, none⟩ = some (.bool there) ∧ w'.cell? ⟨bl, offl + i * 4 + 2, none⟩ = some (.slice ap np cp) ∧ w'.cell? ⟨bl, offl + i * 4 + 3, none⟩ = some (.slice ah nh ch)) w') := Lib.hid (fun w' m => ⟨m.cell g0, m.cell p0, m.cell p1, m.cell p2, m.cell p3⟩)
 have HZL : Hid (bl < w.heap.size) := Lib.hid hbl
 clear hg ha hs hsx hvx hbl hn hnp hnh
 go_enter Tryz.func50, Tryz.ntmps50
 go_upto_region 3 with (go_at_call 75; go_loud (refine (HAT.out _ ((Mod.refl _ _).alloc _)).mono ?_; (rintro e w1 ⟨rfl, hm1⟩); have HM1 := Lib.hid (((Mod.refl (fun _ => False) w).alloc _).trans hm1); have HRB := Lib.hid (hm1.heap HR.out (fun f => f)); clear hm1))
 clear g0 p0 p1 p2 p3
 obtain ⟨k0, k1, k2, k3, k4⟩ := HKEEP.out _ (HM1.out.drew)
 have zbl : bl < w1.heap.size := Nat.lt_of_lt_of_le HZL.out HM1.out.size
 have zg1 : g < w1.heap.size := Nat.lt_of_lt_of_le zg HM1.out.size
 have hrb := HRB.out
 have r0 := cell_of_row hrb 0
 have r1 := cell_of_row hrb 1
 have r2 := cell_of_row hrb 2
 have r3 := cell_of_row hrb 3
 have f0 := free_of_row hrb 0
 have f1 := free_of_row hrb 1
 have f2 := free_of_row hrb 2
 have f3 := free_of_row hrb 3
 have zr := lt_of_block hrb
 simp at r0 r1 r2 r3
 clear hrb
 go_wp2_with fail
 go_region_held3 (fun w' => w'.cell? ⟨g, 0, none⟩ = some (.slice (some ⟨bl, offl, none⟩) n c) ∧ w'.cell? ⟨bl, offl + i * 4, none⟩ = some (.int .u32 (id : Int)) ∧ w'.cell? ⟨bl, offl + i * 4 + 1, none⟩ = some (.bool there) ∧ w'.cell? ⟨bl, offl + i * 4 + 2, none⟩ = some (.slice ap np cp) ∧ w'.cell? ⟨bl, offl + i * 4 + 3, none⟩ = some (.slice ah nh ch))
   (first
     | go_keep
     | exact HKEEP.out _ HM2.out
     | exact HKEEP.out _ ((((HM2.out.setCell (fun h => absurd h (Nat.lt_irrefl _)) _).setCell (fun h => absurd h (Nat.lt_irrefl _)) _).setCell (fun h => absurd h (Nat.lt_irrefl _)) _).setCell (fun h => absurd h (Nat.lt_irrefl _)) _))
   ((go_at_call 75; go_loud (refine (HAT.out _ HM1.out.drew).mono ?_; (rintro e w2 ⟨rfl, hm2⟩); have HM2 : Hid (Mod (fun _ => False) w w2) := Lib.hid (HM1.out.drew.trans hm2); have hm12 : Mod (fun _ => False) w1 w2 := ((Mod.refl (fun _ => False) w1).drew).trans hm2; have hr2 := hm12.heap HRB.out (fun f => f); have HRB2 := Lib.hid hr2; have y0 := cell_of_row hr2 0; have y1 := cell_of_row hr2 1; have y2 := cell_of_row hr2 2; have y3 := cell_of_row hr2 3; have yf0 := free_of_row hr2 0; have yf1 := free_of_row hr2 1; have yf2 := free_of_row hr2 2; have yf3 := free_of_row hr2 3; have zy := lt_of_block hr2; simp at y0 y1 y2 y3; clear hm2 hm12 hr2)))
 all_goals
   go_wp2
   refine bodyPost_ret (v := .agg #[.int .u32 (id : Int), .bool there, .slice ap np cp, .slice ah nh ch]) (by simp [results, Tryz.results50, go_sem, y0, y1, y2, y3]) rfl ?_
   have m := vxEnd_mod w2 w.heap.size (.int .u32 (id : Int)) (.bool there) (.slice ap np cp) (.slice ah nh ch)
   have mF : Mod (fun _ => False) w (vxEnd w2 w.heap.size (.int .u32 (id : Int)) (.bool there) (.slice ap np cp) (.slice ah nh ch)) := HM2.out.trans' m (fun i hi e => by omega)
   exact ⟨rfl, mF⟩
theorem dvertex_fix (g : Nat) (gv : Value) (l : List Vs) (id : Nat) (w : World) (hg : GrAt w g gv l) (hid : id < 4294967296) :
   ∃ a n c a' n' c', VRd w (.slice a n c) (.slice a' n' c') (tellV (l.map Vs.x) id) ∧ ∀ w', Mod (fun _ => False) w w' → Calls Tryz.prog 50 #[.pointer (some ⟨g, 0, none⟩), .int .u32 (id : Int)] w' fun e w'' => e = .returned (vtxV (tellV (l.map Vs.x) id) (.slice a n c) (.slice a' n' c')) ∧ Mod (fun _ => False) w' w'' := by
 unfold tellV
 cases hf : findV (l.map Vs.x) id with
 | none => exact ⟨none, 0, 0, none, 0, 0, ⟨⟨hid, by simp, by simp⟩, RdS.none _ _, RdS.none _ _⟩, fun w' m => dvertex_none g gv l id w' (hg.keep m) hf⟩
 | some x =>
   obtain ⟨i, s, ha, hs, hsx, -⟩ := find_some hf
   have hv := hg.lst.at hs
   rw [hsx] at hv
   obtain ⟨a, c, e1, -⟩ := hv.props.shape
   obtain ⟨a', c', e2, -⟩ := hv.halves.shape
   refine ⟨a, _, c, a', _, c', by rw [← e1, ← e2]; exact hv, fun w' m => ?_⟩
   have h := dvertex_at g gv l id w' (hg.keep m) x i s ha hs hsx
   rw [e1, e2] at h
   exact h
structure BrAt (w2 : World) (v : Value) (bl : List Vs) (wr : World) : Prop where
 mod : Mod (fun _ => False) w2 wr
 row : Seg wr 47 4 v bl.length (vcells bl)
 oa : ∀ b, v.ownBlock = some b → w2.heap.size ≤ b
 each : ∀ s ∈ bl, VRd w2 s.vp s.vh s.x
theorem BrAt.start (w2 : World) : BrAt w2 (.slice none 0 0) [] w2 := ⟨Mod.refl _ _, Seg.nil _ _ _, fun b hb => by simp [Value.ownBlock] at hb, by simp⟩
theorem BrAt.keep {w2 wr wx : World} {v : Value} {bl : List Vs} (h : BrAt w2 v bl wr) (m : Mod (fun _ => False) wr wx) : BrAt w2 v bl wx := ⟨h.mod.trans m, h.row.mod m (fun _ _ f => f), h.oa, h.each⟩
theorem BrAt.rd {w2 wr : World} {v : Value} {bl : List Vs} (h : BrAt w2 v bl wr) : LRd wr v bl := ⟨h.row.rdS, fun s hs => (h.each s hs).keep h.mod⟩
theorem BrAt.next {w2 w5 w3 : World} {v v3 : Value} {bl : List Vs} {s : Vs} (h : BrAt w2 v bl w5) (hv : VRd w2 s.vp s.vh s.x) (hs : Seg w3 47 4 v3 (bl.length + 1) (vcells bl ++ s.cells)) (hg : w5.grownBy w3 v.ownBlock) (ho : v3.ownBlock = v.ownBlock ∨ v3.ownBlock = some w5.heap.size) : BrAt w2 v3 (bl ++ [s]) w3 := by
 refine ⟨h.mod.grown hg (fun b hb hlt => by have := h.oa b hb; omega), by rw [List.length_append]; simpa [vcells] using hs, fun b hb => ?_, fun y hy => ?_⟩
 · rcases ho with e | e
   · exact h.oa b (e ▸ hb)
   · rw [e] at hb; injection hb with hb
     have := h.mod.size; omega
 · rcases List.mem_append.1 hy with hy | hy
   · exact h.each y hy
   · rw [List.mem_singleton] at hy; rw [hy]; exact hv
theorem RdS.offA2 {w w' : World} {g size n : Nat} {cur : Array Value} {t : TypeId} {v : Value} {us : List Value} (h : RdS w size v n us) (hg : w.heap[g]? = some (.cells cur t (0, 0))) (hc : ∀ (i : Nat) (u : Value), us[i]? = some u → ∃ (i' : Nat) (u' : Value), us[i']? = some u' ∧ ∀ j : Nat, cur[j]? ≠ some u') (m : Mod (fun k => k = g) w w') : RdS w' size v n us := by
 refine ⟨h.len, h.shape, fun a c e j u hu => ?_⟩
 obtain ⟨b, off, ea, hb, hcl⟩ := h.cell a c e j u hu
 refine ⟨b, off, ea, Nat.lt_of_lt_of_le hb m.size, m.cellS hcl (fun hbg => ?_)⟩
 have hbg : b = g := hbg
 obtain ⟨i', u', h1, h2⟩ := hc j u hu
 obtain ⟨b2, off2, ea2, -, hcl2⟩ := h.cell a c e i' u' h1
 rw [ea] at ea2
 injection ea2 with ea2
 injection ea2 with e1 e2 _
 subst e1 e2 hbg
 rw [cell_of_row hg] at hcl2
 exact h2 _ hcl2
theorem vals_offA {w w' : World} {g : Nat} {t : TypeId} {v : Value} {vals : List Val} {x y : Int} {a b : Option Addr} {n c n2 c2 : Nat} (h : RdS w 3 v vals.length (vvcells vals)) (hg : w.heap[g]? = some (.cells #[.int .i64 x, .int .i64 y, .slice a n c, .slice b n2 c2] t (0, 0))) (m : Mod (fun k => k = g) w w') : RdS w' 3 v vals.length (vvcells vals) :=
 h.offA2 hg (fun i u hu => by
   cases vals with
   | nil => simp [vvcells] at hu
   | cons z r =>
     refine ⟨0, .int .u8 (z.k : Int), by simp [vvcells, Val.cells], fun j e => ?_⟩
     rcases j with _ | _ | _ | _ | j <;> simp at e) m
theorem nums_offA {w w' : World} {g : Nat} {t : TypeId} {v : Value} {l : List Nat} {x y : Int} {a b : Option Addr} {n c n2 c2 : Nat} (h : RdS w 1 v l.length (l.map (keyV .u32))) (hg : w.heap[g]? = some (.cells #[.int .i64 x, .int .i64 y, .slice a n c, .slice b n2 c2] t (0, 0))) (m : Mod (fun k => k = g) w w') : RdS w' 1 v l.length (l.map (keyV .u32)) :=
 h.offA2 hg (fun i u hu => by
   obtain ⟨z, -, rfl⟩ := List.mem_map.1 (List.mem_of_getElem? hu)
   exact ⟨i, _, hu, fun j e => by rcases j with _ | _ | _ | _ | j <;> simp [keyV] at e⟩) m
end Go.Proofs.YtlpdifinkcjckaaGreatDoor
