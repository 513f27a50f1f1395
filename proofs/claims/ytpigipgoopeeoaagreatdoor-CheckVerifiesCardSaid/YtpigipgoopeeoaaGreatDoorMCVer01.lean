import Derived.Test.YtpigipgoopeeoaaGreatDoorMCHolCVer09
import Derived.Test.YtpigipgoopeeoaaGreatDoorMCVer00
set_option linter.unusedVariables false
set_option linter.unusedSimpArgs false
namespace Go.Proofs.YtpigipgoopeeoaaGreatDoor
open Go.RowKit
def DoP (g : Nat) (l : List Vs) (r : Rqt) (w : World) (e : Ending) (w' : World) : Prop :=
 Mod (fun k => k = g) w w' ∧ ∃ vv vl v' l', e = .returned (.agg #[.int .i64 ((doG (l.map Vs.x) r).2.e : Nat), .int .i64 ((doG (l.map Vs.x) r).2.at_ : Nat), vv, vl]) ∧ GrAt w' g v' l' ∧ l'.map Vs.x = (doG (l.map Vs.x) r).1 ∧
   RdS w' 3 vv (doG (l.map Vs.x) r).2.vals.length (vvcells (doG (l.map Vs.x) r).2.vals) ∧ RdS w' 1 vl (doG (l.map Vs.x) r).2.list.length ((doG (l.map Vs.x) r).2.list.map (keyV .u32))
theorem DoP.stay {g : Nat} {v vl : Value} {l : List Vs} {r : Rqt} {w w' : World} {z i : Nat} {li : List Nat} (hg : GrAt w g v l) (m : Mod (fun _ => False) w w') (he : doG (l.map Vs.x) r = (l.map Vs.x, ⟨z, i, [], li⟩)) (hl : RdS w' 1 vl li.length (li.map (keyV .u32))) :
   DoP g l r w (.returned (.agg #[.int .i64 (z : Int), .int .i64 (i : Int), .slice none 0 0, vl])) w' := by
 refine ⟨m.mono (fun _ _ f => f.elim), .slice none 0 0, vl, v, l, by rw [he], hg.keep m, by rw [he], by rw [he]; exact RdS.none _ _, by rw [he]; exact hl⟩
set_option maxRecDepth 100000 in
set_option maxHeartbeats 4000000 in
theorem do_none (g : Nat) (gv : Value) (l : List Vs) (r : Rqt) (vo : Value) (w : World) (hg : GrAt w g gv l) (ho : ORd w vo r.ops) (hc : checkR r = 0) (hk : r.kind ≠ 1) (hf : findV (l.map Vs.x) r.v = none) :
   Calls Tryz.prog 9 #[.pointer (some ⟨g, 0, none⟩), rqV r vo] w (DoP g l r w) := by
 obtain ⟨kind, ops, v, k, d⟩ := r
 have HE : Hid (doG (l.map Vs.x) ⟨kind, ops, v, k, d⟩ = (l.map Vs.x, ⟨6, 0, [], []⟩)) := Lib.hid (by unfold doG; rw [if_neg (by simpa using hc), if_neg hk, hf]; rfl)
 have HO := Lib.hid ho
 have HG := Lib.hid hg
 obtain ⟨a, c, rfl, -⟩ := ho.row.shape
 obtain ⟨n, hn⟩ : ∃ n, n = ops.length := ⟨_, rfl⟩
 simp only [rqV, ← hn] at HO hk hf ⊢
 have HS := Lib.hid (DoAt.start w (.int .u8 (kind : Int)) (.slice a n c) (.int .u32 (v : Int)) (.int .i64 k) (.int .i64 d))
 have HCK := Lib.hid (dcheck_any ⟨kind, ops, v, k, d⟩ (.slice a n c) _ (HO.out.keep HS.out.mod))
 simp only [rqV] at HCK
 rw [hc] at HCK
 have HAT : Hid (∀ w', Mod (fun _ => False) w w' → Calls Tryz.prog 23 #[.pointer (some ⟨g, 0, none⟩), .int .u32 (v : Int)] w' fun e w'' => e = .returned (.int .i64 (-1)) ∧ Mod (fun _ => False) w' w'') := Lib.hid (fun w' m => by
   have h := at_any g gv l v w' (HG.out.keep m)
   rw [find_none hf] at h
   exact h)
 have hk1 : ((kind : Int) != 1) = true := by simp; omega
 clear hn ho hc hg hf hk
 go_enter Tryz.func9, Tryz.ntmps9
 go_wp2_with (first
   | (go_at_call 23; refine (HAT.out _ HD1.out.mod).mono ?_; (rintro e w2 ⟨rfl, hm2⟩); have HD2 := Lib.hid (HD1.out.next hm2 (fun _ f => f.elim)); replace r0 := hm2.cell r0; replace r1 := hm2.cell r1; replace r2 := hm2.cell r2; replace r3 := hm2.cell r3; obtain ⟨-, -, -, -, f0, f1, f2, f3, zr⟩ := HD2.out.retf; clear hm2)
   | (go_at_call 20; refine HCK.out.mono ?_; (rintro e w1 ⟨rfl, hm1⟩); have HD1 := Lib.hid (HS.out.next hm1 (fun _ f => f.elim)); obtain ⟨r0, r1, r2, r3, -⟩ := HD1.out.retf; obtain ⟨b0, b1, b2, b3, b4, zb⟩ := HD1.out.boxf; clear hm1))
 refine bodyPost_ret (v := .agg #[.int .i64 6, .int .i64 0, .slice none 0 0, .slice none 0 0]) (by simp [results, Tryz.results9, go_sem, r0, r1, r2, r3]) rfl ?_
 exact DoP.stay HG.out (HD2.out.finish _ _ _ _).1 HE.out (RdS.none _ _)
set_option maxRecDepth 100000 in
set_option maxHeartbeats 4000000 in
theorem do_3 (g : Nat) (gv : Value) (l : List Vs) (r : Rqt) (vo : Value) (w : World) (hg : GrAt w g gv l) (ho : ORd w vo r.ops) (hc : checkR r = 0) (hk : r.kind = 3) (x : Vtx) (hf : findV (l.map Vs.x) r.v = some x) :
   Calls Tryz.prog 9 #[.pointer (some ⟨g, 0, none⟩), rqV r vo] w (DoP g l r w) := by
 obtain ⟨kind, ops, v, k, d⟩ := r
 simp only at hk hf
 subst hk
 have HE : Hid (doG (l.map Vs.x) ⟨3, ops, v, k, d⟩ = (l.map Vs.x, ⟨0, 0, [], []⟩)) := Lib.hid (by unfold doG; rw [if_neg (by simpa using hc), hf]; simp)
 have HO := Lib.hid ho
 have HG := Lib.hid hg
 obtain ⟨a, c, rfl, -⟩ := ho.row.shape
 obtain ⟨n, hn⟩ : ∃ n, n = ops.length := ⟨_, rfl⟩
 simp only [rqV, ← hn] at HO ⊢
 have HS := Lib.hid (DoAt.start w (.int .u8 3) (.slice a n c) (.int .u32 (v : Int)) (.int .i64 k) (.int .i64 d))
 have HCK := Lib.hid (dcheck_any ⟨3, ops, v, k, d⟩ (.slice a n c) _ (HO.out.keep HS.out.mod))
 simp only [rqV] at HCK
 rw [hc] at HCK
 obtain ⟨i, s, hi, -, -, -⟩ := find_some hf
 have HAT : Hid (∀ w', Mod (fun _ => False) w w' → Calls Tryz.prog 23 #[.pointer (some ⟨g, 0, none⟩), .int .u32 (v : Int)] w' fun e w'' => e = .returned (.int .i64 (i : Int)) ∧ Mod (fun _ => False) w' w'') := Lib.hid (fun w' m => by
   have h := at_any g gv l v w' (HG.out.keep m)
   rw [hi] at h
   exact h)
 clear hn ho hc hg hf hi
 go_enter Tryz.func9, Tryz.ntmps9
 go_wp2_with (first
   | (go_at_call 23; refine (HAT.out _ HD1.out.mod).mono ?_; (rintro e w2 ⟨rfl, hm2⟩); have HD2 := Lib.hid (HD1.out.next hm2 (fun _ f => f.elim)); replace r0 := hm2.cell r0; replace r1 := hm2.cell r1; replace r2 := hm2.cell r2; replace r3 := hm2.cell r3; replace b0 := hm2.cell b0; obtain ⟨-, -, -, -, f0, f1, f2, f3, zr⟩ := HD2.out.retf; clear hm2)
   | (go_at_call 20; refine HCK.out.mono ?_; (rintro e w1 ⟨rfl, hm1⟩); have HD1 := Lib.hid (HS.out.next hm1 (fun _ f => f.elim)); obtain ⟨r0, r1, r2, r3, -⟩ := HD1.out.retf; obtain ⟨b0, b1, b2, b3, b4, zb⟩ := HD1.out.boxf; clear hm1))
 refine bodyPost_ret (v := .agg #[.int .i64 0, .int .i64 0, .slice none 0 0, .slice none 0 0]) (by simp [results, Tryz.results9, go_sem, r0, r1, r2, r3]) rfl ?_
 exact DoP.stay HG.out (HD2.out.finish _ _ _ _).1 HE.out (RdS.none _ _)
set_option maxRecDepth 100000 in
set_option maxHeartbeats 4000000 in
theorem do_2 (g : Nat) (gv : Value) (l : List Vs) (r : Rqt) (vo : Value) (w : World) (hg : GrAt w g gv l) (ht : Tame l) (ho : ORd w vo r.ops) (hc : checkR r = 0) (hk : r.kind = 2) (x : Vtx) (hf : findV (l.map Vs.x) r.v = some x) :
   Calls Tryz.prog 9 #[.pointer (some ⟨g, 0, none⟩), rqV r vo] w (DoP g l r w) := by
 obtain ⟨kind, ops, v, k, d⟩ := r
 simp only at hk hf
 subst hk
 obtain ⟨K, rfl, hK⟩ : ∃ K : Nat, k = (K : Int) ∧ K ≤ 8 := by
   have h := hc
   rw [checkR_2] at h
   unfold checkO at h
   split at h
   · cases h
   · exact ⟨k.toNat, by omega, by omega⟩
 obtain ⟨i, s, hi, his, -, -⟩ := find_some hf
 have hil : i < l.length := (List.getElem?_eq_some_iff.1 his).1
 have HE : Hid (doG (l.map Vs.x) ⟨2, ops, v, (K : Int), d⟩ = (l.map Vs.x, ⟨0, 0, [], withU l v K⟩)) := Lib.hid (by
   unfold doG
   rw [if_neg (by simpa using hc), hf, withU_near ht.rise ⟨i, hi, hil⟩]
   simp)
 have HO := Lib.hid ho
 have HG := Lib.hid hg
 obtain ⟨a, c, rfl, -⟩ := ho.row.shape
 obtain ⟨n, hn⟩ : ∃ n, n = ops.length := ⟨_, rfl⟩
 simp only [rqV, ← hn] at HO ⊢
 have HS := Lib.hid (DoAt.start w (.int .u8 2) (.slice a n c) (.int .u32 (v : Int)) (.int .i64 (K : Int)) (.int .i64 d))
 have HCK := Lib.hid (dcheck_any ⟨2, ops, v, (K : Int), d⟩ (.slice a n c) _ (HO.out.keep HS.out.mod))
 simp only [rqV] at HCK
 rw [hc] at HCK
 have HAT : Hid (∀ w', Mod (fun _ => False) w w' → Calls Tryz.prog 23 #[.pointer (some ⟨g, 0, none⟩), .int .u32 (v : Int)] w' fun e w'' => e = .returned (.int .i64 (i : Int)) ∧ Mod (fun _ => False) w' w'') := Lib.hid (fun w' m => by
   have h := at_any g gv l v w' (HG.out.keep m)
   rw [hi] at h
   exact h)
 have HWI : Hid (∀ w', Mod (fun _ => False) w w' → Calls Tryz.prog 24 #[.pointer (some ⟨g, 0, none⟩), .int .u32 (v : Int), .int .i64 (K : Int)] w' fun e w'' => ∃ vo, e = .returned vo ∧ SegN w' w'' vo (withU l v K)) := Lib.hid (fun w' m => within_any g gv l v K w' (HG.out.keep m) ht.len hK ⟨i, hi, hil⟩)
 clear hn ho hc hg hf hi hK his hil ht
 go_enter Tryz.func9, Tryz.ntmps9
 go_wp2_with (first
   | (go_at_call 24; refine (HWI.out _ HD2.out.mod).mono ?_; (rintro e w3 ⟨vo, rfl, hs3⟩); have HS3 := Lib.hid hs3; have HD3 := Lib.hid (HD2.out.next hs3.mod (fun _ f => f.elim)); replace r0 := hs3.mod.cell r0; replace r1 := hs3.mod.cell r1; replace r2 := hs3.mod.cell r2; replace r3 := hs3.mod.cell r3; obtain ⟨-, -, -, -, f0, f1, f2, f3, zr⟩ := HD3.out.retf; (obtain ⟨a3, c3, n3, rfl⟩ : ∃ a c n, vo = .slice a n c := (by obtain ⟨a, c, e, _⟩ := hs3.seg.shape; exact ⟨_, _, _, e⟩)); clear hs3)
   | (go_at_call 23; refine (HAT.out _ HD1.out.mod).mono ?_; (rintro e w2 ⟨rfl, hm2⟩); have HD2 := Lib.hid (HD1.out.next hm2 (fun _ f => f.elim)); replace r0 := hm2.cell r0; replace r1 := hm2.cell r1; replace r2 := hm2.cell r2; replace r3 := hm2.cell r3; replace b0 := hm2.cell b0; replace b2 := hm2.cell b2; replace b3 := hm2.cell b3; clear hm2)
   | (go_at_call 20; refine HCK.out.mono ?_; (rintro e w1 ⟨rfl, hm1⟩); have HD1 := Lib.hid (HS.out.next hm1 (fun _ f => f.elim)); obtain ⟨r0, r1, r2, r3, -⟩ := HD1.out.retf; obtain ⟨b0, b1, b2, b3, b4, zb⟩ := HD1.out.boxf; clear hm1))
 refine bodyPost_ret (v := .agg #[.int .i64 0, .int .i64 0, .slice none 0 0, .slice a3 n3 c3]) (by simp [results, Tryz.results9, go_sem, r0, r1, r2, r3]) rfl ?_
 exact DoP.stay HG.out (HD3.out.finish _ _ _ _).1 HE.out ((HD3.out.list _ _ _ _ HS3.out.seg (by decide)).rdS)
open Go.RowKit
open Go.RowKit
set_option maxRecDepth 100000 in
set_option maxHeartbeats 8000000 in
theorem do_1 (g : Nat) (gv : Value) (l : List Vs) (r : Rqt) (vo : Value) (w : World) (hg : GrAt w g gv l) (hgood : Good (l.map Vs.x)) (ho : ORd w vo r.ops) (hc : checkR r = 0) (hk : r.kind = 1) :
   Calls Tryz.prog 9 #[.pointer (some ⟨g, 0, none⟩), rqV r vo] w (DoP g l r w) := by
 obtain ⟨kind, ops, v, k, d⟩ := r
 simp only at hk
 subst hk
 have HOK := Lib.hid (checkR_tx hc rfl)
 have HDF : Hid (okRun (l.map Vs.x) ops = none → doG (l.map Vs.x) ⟨1, ops, v, k, d⟩ = (l.map Vs.x, ⟨(failG (l.map Vs.x) 0 ops).1, (failG (l.map Vs.x) 0 ops).2, [], []⟩)) := Lib.hid (fun h => by unfold doG; rw [if_neg (by simpa using hc)]; simp only [if_true]; rw [h])
 have HDR : Hid (∀ p, okRun (l.map Vs.x) ops = some p → doG (l.map Vs.x) ⟨1, ops, v, k, d⟩ = (p.1, ⟨0, 0, p.2, []⟩)) := Lib.hid (fun p h => by unfold doG; rw [if_neg (by simpa using hc)]; simp only [if_true]; rw [h])
 have HO := Lib.hid ho
 have HG := Lib.hid hg
 have HGD := Lib.hid hgood
 obtain ⟨a, c, rfl, hc1, hc2, -⟩ := ho.row.shape
 obtain ⟨n, hn⟩ : ∃ n, n = ops.length := ⟨_, rfl⟩
 have HN := Lib.hid hn
 simp only at hc1
 simp only [rqV, ← hn] at HO hc1 ⊢
 have HS := Lib.hid (DoAt.start w (.int .u8 1) (.slice a n c) (.int .u32 (v : Int)) (.int .i64 k) (.int .i64 d))
 have HCK := Lib.hid (dcheck_any ⟨1, ops, v, k, d⟩ (.slice a n c) _ (HO.out.keep HS.out.mod))
 simp only [rqV] at HCK
 rw [hc] at HCK
 have hn6 : n ≤ 6 := by rw [hn]; exact HOK.out.2.2
 have HCP : Hid (∀ w', Mod (fun _ => False) w w' → Calls Tryz.prog 25 #[.pointer (some ⟨g, 0, none⟩)] w' fun e w'' => Mod (fun _ => False) w' w'' ∧ ∃ g' v' l', e = .returned (.pointer (some ⟨g', 0, none⟩)) ∧ GrAt w'' g' v' l' ∧ l'.map Vs.x = l.map Vs.x ∧ w'.heap.size ≤ g') := Lib.hid (fun w' m => by
   have ht := hgood.tame
   exact copy_any g gv l w' (HG.out.keep m) (by have := ht.len; omega) (fun x hx => by have := ht.each x hx; exact ⟨by omega, by omega⟩))
 obtain ⟨i0, hi, hz0, hz1, hz2⟩ := info_parts infoValue
 have HI : Hid (Tryz.prog.info? 77 = some i0 ∧ i0.zero = some (.agg #[.int .u8 0, .int .i64 0, zval]) ∧ i0.size = 3 ∧ i0.bytes = 32) := ⟨hi, hz0, hz1, hz2⟩
 clear hi hz0 hz1 hz2
 clear hn ho hc hg hgood
 go_enter Tryz.func9, Tryz.ntmps9
 go_wp2_with (first
   | (go_at_call 25; refine (HCP.out _ HD1.out.mod).mono ?_; (rintro e w2 ⟨hm2, hb, v2, l2, rfl, hg2, hl2, hlo2⟩); have HLP0 := Lib.hid (DoLp.start ops HD1.out hm2 hg2 hl2 hlo2); replace b1 := hm2.cell b1; have zb2 := Nat.lt_of_lt_of_le zb hm2.size; clear hm2 hg2 hl2 hlo2 b0 b2 b3 b4)
   | (go_at_call 20; refine HCK.out.mono ?_; (rintro e w1 ⟨rfl, hm1⟩); have HD1 := Lib.hid (HS.out.next hm1 (fun _ f => f.elim)); obtain ⟨b0, b1, b2, b3, b4, zb⟩ := HD1.out.boxf; clear hm1))
 go_loopw [46] (fun i wr => ∃ (q : Nat) (L' : Gr) (vals : List Val) (vv : Value), i = .int .i64 (q : Int) ∧ q ≤ n ∧ DoLp w (.int .u8 1) (.slice a n c) (.int .u32 (v : Int)) (.int .i64 k) (.int .i64 d) hb w2.heap.size (l.map Vs.x) ops q L' vals vv wr) (fun i _ => n - (intOf i).toNat)
 case atStart => exact ⟨0, _, _, _, rfl, Nat.zero_le _, HLP0.out⟩
 case round =>
   obtain ⟨q, L', vals, vv, rfl, hq, hlp⟩ := hrel
   have HLP := Lib.hid hlp
   obtain ⟨av, cv, hvv, -⟩ := hlp.seg.shape
   subst hvv
   obtain ⟨vh, lh, hgr, hlh⟩ := hlp.gr
   have HGR := Lib.hid hgr
   have HLH := Lib.hid hlh
   obtain ⟨nv, hnv⟩ : ∃ nv, nv = vals.length := ⟨_, rfl⟩
   have HNV := Lib.hid hnv
   have HVL : Hid (nv ≤ q) := Lib.hid (by rw [hnv]; exact hlp.len)
   rw [← hnv] at HLP
   clear hlp HLP0 hnv
   by_cases hqn : q < n
   · obtain ⟨o, ho⟩ : ∃ o, ops[q]? = some o := ⟨_, List.getElem?_eq_getElem (by rw [← HN.out]; exact hqn)⟩
     obtain ⟨bl, offl, e0, hbl, r0, r1, r2, r3, r4, r5, r6⟩ := HO.out.ent ho rfl
     replace r0 := HLP.out.at_.mod.cell r0
     replace r1 := HLP.out.at_.mod.cell r1
     replace r2 := HLP.out.at_.mod.cell r2
     replace r3 := HLP.out.at_.mod.cell r3
     replace r4 := HLP.out.at_.mod.cell r4
     replace r5 := HLP.out.at_.mod.cell r5
     replace r6 := HLP.out.at_.mod.cell r6
     have zbl : bl < wr.heap.size := Nat.lt_of_lt_of_le hbl HLP.out.at_.mod.size
     have HOO := Lib.hid ho
     have HFO := Lib.hid (HO.out.fits o (List.mem_of_getElem? ho))
     have HOKO := Lib.hid (HOK.out.1 o (List.mem_of_getElem? ho))
     have HGD2 : Hid (Good (lh.map Vs.x)) := Lib.hid (by rw [hlh]; exact Good.run (us := []) (vs := vals) HGD.out (fun o ho => HOK.out.1 o (List.mem_of_mem_take ho)) HLP.out.run)
     obtain ⟨ez, G, vs1, hon⟩ : ∃ ez G vs1, oneG L' o = ⟨ez, G, vs1⟩ := ⟨_, _, _, rfl⟩
     have HON := Lib.hid hon
     have HV1 : Hid (vs1.length ≤ 1) := Lib.hid (by have h := one_vals L' o; rw [hon] at h; exact h)
     subst e0
     obtain ⟨kind, oa, ob, okey, ⟨vk, vn, vs⟩⟩ := o
     simp only at r0 r1 r2 r3 r4 r5 r6
     obtain ⟨n1, hn1⟩ : ∃ n1, n1 = vs1.length := ⟨_, rfl⟩
     have HN1 := Lib.hid hn1
     have HMQ : Hid (Mod (fun _ => False) wr (wr.alloc (.cells #[.int .u8 (kind : Int), .int .u32 (oa : Int), .int .u32 (ob : Int), .int .u8 (okey : Int), .int .u8 (vk : Int), .int .i64 vn, .string vs] 79))) := Lib.hid ((Mod.refl _ _).alloc _)
     have HONE : Hid (Calls Tryz.prog 26 #[.pointer (some ⟨hb, 0, none⟩), .agg #[.int .u8 (kind : Int), .int .u32 (oa : Int), .int .u32 (ob : Int), .int .u8 (okey : Int), .int .u8 (vk : Int), .int .i64 vn, .string vs]] (wr.alloc (.cells #[.int .u8 (kind : Int), .int .u32 (oa : Int), .int .u32 (ob : Int), .int .u8 (okey : Int), .int .u8 (vk : Int), .int .i64 vn, .string vs] 79)) fun e w5 => Mod (fun k => k = hb) (wr.alloc (.cells #[.int .u8 (kind : Int), .int .u32 (oa : Int), .int .u32 (ob : Int), .int .u8 (okey : Int), .int .u8 (vk : Int), .int .i64 vn, .string vs] 79)) w5 ∧ ∃ vo v5 l5, e = .returned (.tuple #[.int .i64 (ez : Int), vo]) ∧ GrAt w5 hb v5 l5 ∧ l5.map Vs.x = G ∧ RdS w5 3 vo n1 (vvcells vs1)) := Lib.hid (by
       have h := one_any hb vh lh ⟨kind, oa, ob, okey, ⟨vk, vn, vs⟩⟩ (wr.alloc (.cells #[.int .u8 (kind : Int), .int .u32 (oa : Int), .int .u32 (ob : Int), .int .u8 (okey : Int), .int .u8 (vk : Int), .int .i64 vn, .string vs] 79)) (hgr.keep HMQ.out) HGD2.out.tame HFO.out HOKO.out
       unfold OneP at h
       rw [hlh, hon] at h
       rw [hn1]
       exact h)
     clear ho hbl hgr hlh hon hn1
     by_cases hz : ez = 0
     · subst hz
       go_wp2_with (first
         | (at_builtin; refine wpList_append_pat rfl (.tmp 63) (.tmp 64) 36 rfl i0 _ 3 32 Tryz.underlying36 HI.out.1 HI.out.2.1 HI.out.2.2.1 HI.out.2.2.2 rfl (by decide) rfl HSG5.out _ n1 _ rfl HSRC.out (by have := HVL.out; have := HV1.out; have := HN1.out; unfold maxLen; omega) (by have := HVL.out; have := HV1.out; have := HN1.out; omega) valP HPT5.out (fun j u hu => valP_cells (vals ++ vs1) j u (by rw [vv_append]; exact hu)) valP_zero ?_; intro v6 w6 hs6 hp6 hg6 ho6; have HAP2 := Lib.hid (HLP.out.app HOO.out HON.out HMQ.out HM5.out HG5.out HL5.out (by rw [← HNV.out, ← HN1.out]; exact hs6) hp6 hg6 ho6); (obtain ⟨a6, c6, n6, rfl⟩ : ∃ a c n, v6 = .slice a n c := (by obtain ⟨a, c, e, _⟩ := hs6.shape; exact ⟨_, _, _, e⟩)); have p6 := cell_of_row HAP2.out.1 2; have p6f := free_of_row HAP2.out.1 2; have z6 := lt_of_block HAP2.out.1; simp at p6; clear hs6 hp6 hg6 ho6)
         | (go_at_call 26; refine HONE.out.mono ?_; (rintro e w5 ⟨hm5, vo, v5, l5, rfl, hg5, hl5, hv5⟩); have HM5 := Lib.hid hm5; have HG5 := Lib.hid hg5; have HL5 := Lib.hid hl5; have HSRC := Lib.hid (hv5.src (vv_ones vs1)); (obtain ⟨a5, c5, rfl, -⟩ := hv5.shape); have HMID := Lib.hid (HLP.out.mid HMQ.out hm5); have HSG5 : Hid (Seg w5 77 3 (.slice av nv cv) nv (vvcells vals)) := Lib.hid (by rw [HNV.out]; have h := HMID.out.2.1; rw [← HNV.out] at h ⊢; exact h); have HPT5 := Lib.hid HMID.out.2.2; have p5 := cell_of_row HMID.out.1 2; have p5f := free_of_row HMID.out.1 2; have z5 := lt_of_block HMID.out.1; simp at p5; clear hm5 hg5 hl5 hv5))
       go_roundw
       case rel => exact ⟨q + 1, G, vals ++ vs1, _, by go_num, by omega, HAP2.out.2⟩
       case measure => simp [intOf]; omega
     · have hz' : ((ez : Int) != 0) = true := by simp [hz]
       have HE : Hid (doG (l.map Vs.x) ⟨1, ops, v, k, d⟩ = (l.map Vs.x, ⟨ez, q, [], []⟩)) := Lib.hid (by
         obtain ⟨h1, h2⟩ := okRun_fail HLP.out.run HOO.out (by rw [HON.out]; exact hz)
         rw [HDF.out h1, h2, HON.out])
       go_wp2_with (go_at_call 26; refine HONE.out.mono ?_; (rintro e w5 ⟨hm5, vo, v5, l5, rfl, hg5, hl5, hv5⟩); (obtain ⟨a5, c5, rfl, -⟩ := hv5.shape); have HD5 := Lib.hid ((HLP.out.at_.next HMQ.out (fun _ f => f.elim)).next hm5 (fun k e => by have := HLP.out.hlo; omega)); obtain ⟨s0, s1, s2, s3, f0, f1, f2, f3, zr⟩ := HD5.out.retf; clear hm5 hg5 hl5 hv5)
       refine bodyPost_ret (v := .agg #[.int .i64 (ez : Int), .int .i64 (q : Int), .slice none 0 0, .slice none 0 0]) (by simp [results, Tryz.results9, go_sem, s0, s1, s2, s3]) rfl ?_
       exact DoP.stay HG.out (HD5.out.finish _ _ _ _).1 HE.out (RdS.none _ _)
   · have HR : Hid (okRun (l.map Vs.x) ops = some (L', vals)) := Lib.hid (by
       have h := HLP.out.run
       rwa [List.take_of_length_le (by have := HN.out; omega)] at h)
     obtain rfl : q = n := by omega
     obtain ⟨ah, ch, nh, rfl⟩ : ∃ a c n, vh = .slice a n c := by
       obtain ⟨a, c, e, _⟩ := hgr.lst.row.shape
       exact ⟨_, _, _, e⟩
     have h0 := cell_of_row hgr.box 0
     have zh := lt_of_block hgr.box
     have hgb := HLP.out.at_.mod.heap HG.out.box (fun f => f)
     have g0 := cell_of_row hgb 0
     have g0f := free_of_row hgb 0
     have zg := lt_of_block hgb
     have a0 := cell_of_row HLP.out.abx 0
     have a1 := cell_of_row HLP.out.abx 1
     have a2 := cell_of_row HLP.out.abx 2
     have a3 := cell_of_row HLP.out.abx 3
     have za := lt_of_block HLP.out.abx
     obtain ⟨s0, s1, s2, s3, f0, f1, f2, f3, zr⟩ := HLP.out.at_.retf
     simp at h0 g0 a0 a1 a2 a3
     have e1 : g < w.heap.size := lt_of_block HG.out.box
     have e2 := HLP.out.hlo
     have e3 := HLP.out.alo
     have n1 : g ≠ hb := by omega
     have n2 : g ≠ w2.heap.size := by omega
     have n3 : g ≠ w.heap.size + 1 := by omega
     have n4 : w.heap.size + 1 ≠ g := by omega
     have n5 : w2.heap.size ≠ g := by omega
     have n6 : hb ≠ g := by omega
     clear e1 e2 e3 hgb hgr hlh
     go_wp2
     refine bodyPost_ret (v := .agg #[.int .i64 0, .int .i64 0, .slice av nv cv, .slice none 0 0]) (by simp [results, Tryz.results9, go_sem, s0, s1, s2, s3, n3, n4]) rfl ?_
     obtain ⟨m, gf, sf⟩ := HLP.out.finish HG.out HGR.out
     refine ⟨m, .slice av nv cv, .slice none 0 0, _, lh, by rw [HDR.out _ HR.out]; rfl, gf, by rw [HDR.out _ HR.out]; exact HLH.out, by rw [HDR.out _ HR.out]; exact sf.rdS, by rw [HDR.out _ HR.out]; exact RdS.none _ _⟩
end Go.Proofs.YtpigipgoopeeoaaGreatDoor
