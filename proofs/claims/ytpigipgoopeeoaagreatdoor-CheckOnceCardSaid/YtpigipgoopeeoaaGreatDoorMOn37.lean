import Derived.Test.YtpigipgoopeeoaaGreatDoorMOn36
set_option linter.unusedVariables false
set_option linter.unusedSimpArgs false
namespace Go.Proofs.YtpigipgoopeeoaaGreatDoor
open Go.RowKit
def DoQ (g : Nat) (l : List Vs) (r : Rqt) (w : World) (e : Ending) (w' : World) : Prop :=
 Mod (fun k => k = g) w w' ∧ ∃ vv vl v' l', e = .returned (.agg #[.int .i64 ((doG (l.map Vs.x) r).2.e : Nat), .int .i64 ((doG (l.map Vs.x) r).2.at_ : Nat), vv, vl]) ∧ GrAt w' g v' l' ∧ l'.map Vs.x = (doG (l.map Vs.x) r).1 ∧
   Seg w' 77 3 vv (doG (l.map Vs.x) r).2.vals.length (vvcells (doG (l.map Vs.x) r).2.vals) ∧ Seg w' 32 1 vl (doG (l.map Vs.x) r).2.list.length ((doG (l.map Vs.x) r).2.list.map (keyV .u32))
theorem DoQ.stay {g : Nat} {v vl : Value} {l : List Vs} {r : Rqt} {w w' : World} {z i : Nat} {li : List Nat} (hg : GrAt w g v l) (m : Mod (fun _ => False) w w') (he : doG (l.map Vs.x) r = (l.map Vs.x, ⟨z, i, [], li⟩)) (hl : Seg w' 32 1 vl li.length (li.map (keyV .u32))) :
   DoQ g l r w (.returned (.agg #[.int .i64 (z : Int), .int .i64 (i : Int), .slice none 0 0, vl])) w' := by
 refine ⟨m.mono (fun _ _ f => f.elim), .slice none 0 0, vl, v, l, by rw [he], hg.keep m, by rw [he], by rw [he]; exact Seg.nil _ _ _, by rw [he]; exact hl⟩
set_option maxRecDepth 100000 in
set_option maxHeartbeats 4000000 in
theorem do_noneQ (g : Nat) (gv : Value) (l : List Vs) (r : Rqt) (vo : Value) (w : World) (hg : GrAt w g gv l) (ho : ORd w vo r.ops) (hc : checkR r = 0) (hk : r.kind ≠ 1) (hf : findV (l.map Vs.x) r.v = none) :
   Calls Tryz.prog 9 #[.pointer (some ⟨g, 0, none⟩), rqV r vo] w (DoQ g l r w) := by
 obtain ⟨kind, ops, v, k, d⟩ := r
 have HE : Hid (doG (l.map Vs.x) ⟨kind, ops, v, k, d⟩ = (l.map Vs.x, ⟨6, 0, [], []⟩)) := Lib.hid (by unfold doG; rw [if_neg (by simpa using hc), if_neg hk, hf]; rfl)
 have HO := Lib.hid ho
 have HG := Lib.hid hg
 obtain ⟨a, c, rfl, -⟩ := ho.row.shape
 obtain ⟨n, hn⟩ : ∃ n, n = ops.length := ⟨_, rfl⟩
 simp only [rqV, ← hn] at HO hk hf ⊢
 have HS := Lib.hid (DoAt.start w (.int .u8 (kind : Int)) (.slice a n c) (.int .u32 (v : Int)) (.int .i64 k) (.int .i64 d))
 have HCK := Lib.hid (dcheck_any ⟨kind, ops, v, k, d⟩ (.slice a n c) _ (HO.out.keep HS.out.mod))
 simp only [rqV] at HCK
 rw [hc] at HCK
 have HAT : Hid (∀ w', Mod (fun _ => False) w w' → Calls Tryz.prog 23 #[.pointer (some ⟨g, 0, none⟩), .int .u32 (v : Int)] w' fun e w'' => e = .returned (.int .i64 (-1)) ∧ Mod (fun _ => False) w' w'') := Lib.hid (fun w' m => by
   have h := at_any g gv l v w' (HG.out.keep m)
   rw [find_none hf] at h
   exact h)
 have hk1 : ((kind : Int) != 1) = true := by simp; omega
 clear hn ho hc hg hf hk
 go_enter Tryz.func9, Tryz.ntmps9
 go_wp2_with (first
   | (go_at_call 23; refine (HAT.out _ HD1.out.mod).mono ?_; (rintro e w2 ⟨rfl, hm2⟩); have HD2 := Lib.hid (HD1.out.next hm2 (fun _ f => f.elim)); replace r0 := hm2.cell r0; replace r1 := hm2.cell r1; replace r2 := hm2.cell r2; replace r3 := hm2.cell r3; obtain ⟨-, -, -, -, f0, f1, f2, f3, zr⟩ := HD2.out.retf; clear hm2)
   | (go_at_call 20; refine HCK.out.mono ?_; (rintro e w1 ⟨rfl, hm1⟩); have HD1 := Lib.hid (HS.out.next hm1 (fun _ f => f.elim)); obtain ⟨r0, r1, r2, r3, -⟩ := HD1.out.retf; obtain ⟨b0, b1, b2, b3, b4, zb⟩ := HD1.out.boxf; clear hm1))
 refine bodyPost_ret (v := .agg #[.int .i64 6, .int .i64 0, .slice none 0 0, .slice none 0 0]) (by simp [results, Tryz.results9, go_sem, r0, r1, r2, r3]) rfl ?_
 exact DoQ.stay HG.out (HD2.out.finish _ _ _ _).1 HE.out (Seg.nil _ _ _)
set_option maxRecDepth 100000 in
set_option maxHeartbeats 4000000 in
theorem do_3Q (g : Nat) (gv : Value) (l : List Vs) (r : Rqt) (vo : Value) (w : World) (hg : GrAt w g gv l) (ho : ORd w vo r.ops) (hc : checkR r = 0) (hk : r.kind = 3) (x : Vtx) (hf : findV (l.map Vs.x) r.v = some x) :
   Calls Tryz.prog 9 #[.pointer (some ⟨g, 0, none⟩), rqV r vo] w (DoQ g l r w) := by
 obtain ⟨kind, ops, v, k, d⟩ := r
 simp only at hk hf
 subst hk
 have HE : Hid (doG (l.map Vs.x) ⟨3, ops, v, k, d⟩ = (l.map Vs.x, ⟨0, 0, [], []⟩)) := Lib.hid (by unfold doG; rw [if_neg (by simpa using hc), hf]; simp)
 have HO := Lib.hid ho
 have HG := Lib.hid hg
 obtain ⟨a, c, rfl, -⟩ := ho.row.shape
 obtain ⟨n, hn⟩ : ∃ n, n = ops.length := ⟨_, rfl⟩
 simp only [rqV, ← hn] at HO ⊢
 have HS := Lib.hid (DoAt.start w (.int .u8 3) (.slice a n c) (.int .u32 (v : Int)) (.int .i64 k) (.int .i64 d))
 have HCK := Lib.hid (dcheck_any ⟨3, ops, v, k, d⟩ (.slice a n c) _ (HO.out.keep HS.out.mod))
 simp only [rqV] at HCK
 rw [hc] at HCK
 obtain ⟨i, s, hi, -, -, -⟩ := find_some hf
 have HAT : Hid (∀ w', Mod (fun _ => False) w w' → Calls Tryz.prog 23 #[.pointer (some ⟨g, 0, none⟩), .int .u32 (v : Int)] w' fun e w'' => e = .returned (.int .i64 (i : Int)) ∧ Mod (fun _ => False) w' w'') := Lib.hid (fun w' m => by
   have h := at_any g gv l v w' (HG.out.keep m)
   rw [hi] at h
   exact h)
 clear hn ho hc hg hf hi
 go_enter Tryz.func9, Tryz.ntmps9
 go_wp2_with (first
   | (go_at_call 23; refine (HAT.out _ HD1.out.mod).mono ?_; (rintro e w2 ⟨rfl, hm2⟩); have HD2 := Lib.hid (HD1.out.next hm2 (fun _ f => f.elim)); replace r0 := hm2.cell r0; replace r1 := hm2.cell r1; replace r2 := hm2.cell r2; replace r3 := hm2.cell r3; replace b0 := hm2.cell b0; obtain ⟨-, -, -, -, f0, f1, f2, f3, zr⟩ := HD2.out.retf; clear hm2)
   | (go_at_call 20; refine HCK.out.mono ?_; (rintro e w1 ⟨rfl, hm1⟩); have HD1 := Lib.hid (HS.out.next hm1 (fun _ f => f.elim)); obtain ⟨r0, r1, r2, r3, -⟩ := HD1.out.retf; obtain ⟨b0, b1, b2, b3, b4, zb⟩ := HD1.out.boxf; clear hm1))
 refine bodyPost_ret (v := .agg #[.int .i64 0, .int .i64 0, .slice none 0 0, .slice none 0 0]) (by simp [results, Tryz.results9, go_sem, r0, r1, r2, r3]) rfl ?_
 exact DoQ.stay HG.out (HD2.out.finish _ _ _ _).1 HE.out (Seg.nil _ _ _)
set_option maxRecDepth 100000 in
set_option maxHeartbeats 4000000 in
theorem do_2Q (g : Nat) (gv : Value) (l : List Vs) (r : Rqt) (vo : Value) (w : World) (hg : GrAt w g gv l) (ht : Tame l) (ho : ORd w vo r.ops) (hc : checkR r = 0) (hk : r.kind = 2) (x : Vtx) (hf : findV (l.map Vs.x) r.v = some x) :
   Calls Tryz.prog 9 #[.pointer (some ⟨g, 0, none⟩), rqV r vo] w (DoQ g l r w) := by
 obtain ⟨kind, ops, v, k, d⟩ := r
 simp only at hk hf
 subst hk
 obtain ⟨K, rfl, hK⟩ : ∃ K : Nat, k = (K : Int) ∧ K ≤ 8 := by
   have h := hc
   rw [checkR_2] at h
   unfold checkO at h
   split at h
   · cases h
   · exact ⟨k.toNat, by omega, by omega⟩
 obtain ⟨i, s, hi, his, -, -⟩ := find_some hf
 have hil : i < l.length := (List.getElem?_eq_some_iff.1 his).1
 have HE : Hid (doG (l.map Vs.x) ⟨2, ops, v, (K : Int), d⟩ = (l.map Vs.x, ⟨0, 0, [], withU l v K⟩)) := Lib.hid (by
   unfold doG
   rw [if_neg (by simpa using hc), hf, withU_near ht.rise ⟨i, hi, hil⟩]
   simp)
 have HO := Lib.hid ho
 have HG := Lib.hid hg
 obtain ⟨a, c, rfl, -⟩ := ho.row.shape
 obtain ⟨n, hn⟩ : ∃ n, n = ops.length := ⟨_, rfl⟩
 simp only [rqV, ← hn] at HO ⊢
 have HS := Lib.hid (DoAt.start w (.int .u8 2) (.slice a n c) (.int .u32 (v : Int)) (.int .i64 (K : Int)) (.int .i64 d))
 have HCK := Lib.hid (dcheck_any ⟨2, ops, v, (K : Int), d⟩ (.slice a n c) _ (HO.out.keep HS.out.mod))
 simp only [rqV] at HCK
 rw [hc] at HCK
 have HAT : Hid (∀ w', Mod (fun _ => False) w w' → Calls Tryz.prog 23 #[.pointer (some ⟨g, 0, none⟩), .int .u32 (v : Int)] w' fun e w'' => e = .returned (.int .i64 (i : Int)) ∧ Mod (fun _ => False) w' w'') := Lib.hid (fun w' m => by
   have h := at_any g gv l v w' (HG.out.keep m)
   rw [hi] at h
   exact h)
 have HWI : Hid (∀ w', Mod (fun _ => False) w w' → Calls Tryz.prog 24 #[.pointer (some ⟨g, 0, none⟩), .int .u32 (v : Int), .int .i64 (K : Int)] w' fun e w'' => ∃ vo, e = .returned vo ∧ SegN w' w'' vo (withU l v K)) := Lib.hid (fun w' m => within_any g gv l v K w' (HG.out.keep m) ht.len hK ⟨i, hi, hil⟩)
 clear hn ho hc hg hf hi hK his hil ht
 go_enter Tryz.func9, Tryz.ntmps9
 go_wp2_with (first
   | (go_at_call 24; refine (HWI.out _ HD2.out.mod).mono ?_; (rintro e w3 ⟨vo, rfl, hs3⟩); have HS3 := Lib.hid hs3; have HD3 := Lib.hid (HD2.out.next hs3.mod (fun _ f => f.elim)); replace r0 := hs3.mod.cell r0; replace r1 := hs3.mod.cell r1; replace r2 := hs3.mod.cell r2; replace r3 := hs3.mod.cell r3; obtain ⟨-, -, -, -, f0, f1, f2, f3, zr⟩ := HD3.out.retf; (obtain ⟨a3, c3, n3, rfl⟩ : ∃ a c n, vo = .slice a n c := (by obtain ⟨a, c, e, _⟩ := hs3.seg.shape; exact ⟨_, _, _, e⟩)); clear hs3)
   | (go_at_call 23; refine (HAT.out _ HD1.out.mod).mono ?_; (rintro e w2 ⟨rfl, hm2⟩); have HD2 := Lib.hid (HD1.out.next hm2 (fun _ f => f.elim)); replace r0 := hm2.cell r0; replace r1 := hm2.cell r1; replace r2 := hm2.cell r2; replace r3 := hm2.cell r3; replace b0 := hm2.cell b0; replace b2 := hm2.cell b2; replace b3 := hm2.cell b3; clear hm2)
   | (go_at_call 20; refine HCK.out.mono ?_; (rintro e w1 ⟨rfl, hm1⟩); have HD1 := Lib.hid (HS.out.next hm1 (fun _ f => f.elim)); obtain ⟨r0, r1, r2, r3, -⟩ := HD1.out.retf; obtain ⟨b0, b1, b2, b3, b4, zb⟩ := HD1.out.boxf; clear hm1))
 refine bodyPost_ret (v := .agg #[.int .i64 0, .int .i64 0, .slice none 0 0, .slice a3 n3 c3]) (by simp [results, Tryz.results9, go_sem, r0, r1, r2, r3]) rfl ?_
 exact DoQ.stay HG.out (HD3.out.finish _ _ _ _).1 HE.out (HD3.out.list _ _ _ _ HS3.out.seg (by decide))
set_option maxRecDepth 100000 in
set_option maxHeartbeats 8000000 in
theorem do_1Q (g : Nat) (gv : Value) (l : List Vs) (r : Rqt) (vo : Value) (w : World) (hg : GrAt w g gv l) (hgood : Good (l.map Vs.x)) (ho : ORd w vo r.ops) (hc : checkR r = 0) (hk : r.kind = 1) :
   Calls Tryz.prog 9 #[.pointer (some ⟨g, 0, none⟩), rqV r vo] w (DoQ g l r w) := by
 obtain ⟨kind, ops, v, k, d⟩ := r
 simp only at hk
 subst hk
 have HOK := Lib.hid (checkR_tx hc rfl)
 have HDF : Hid (okRun (l.map Vs.x) ops = none → doG (l.map Vs.x) ⟨1, ops, v, k, d⟩ = (l.map Vs.x, ⟨(failG (l.map Vs.x) 0 ops).1, (failG (l.map Vs.x) 0 ops).2, [], []⟩)) := Lib.hid (fun h => by unfold doG; rw [if_neg (by simpa using hc)]; simp only [if_true]; rw [h])
 have HDR : Hid (∀ p, okRun (l.map Vs.x) ops = some p → doG (l.map Vs.x) ⟨1, ops, v, k, d⟩ = (p.1, ⟨0, 0, p.2, []⟩)) := Lib.hid (fun p h => by unfold doG; rw [if_neg (by simpa using hc)]; simp only [if_true]; rw [h])
 have HO := Lib.hid ho
 have HG := Lib.hid hg
 have HGD := Lib.hid hgood
 obtain ⟨a, c, rfl, hc1, hc2, -⟩ := ho.row.shape
 obtain ⟨n, hn⟩ : ∃ n, n = ops.length := ⟨_, rfl⟩
 have HN := Lib.hid hn
 simp only at hc1
 simp only [rqV, ← hn] at HO hc1 ⊢
 have HS := Lib.hid (DoAt.start w (.int .u8 1) (.slice a n c) (.int .u32 (v : Int)) (.int .i64 k) (.int .i64 d))
 have HCK := Lib.hid (dcheck_any ⟨1, ops, v, k, d⟩ (.slice a n c) _ (HO.out.keep HS.out.mod))
 simp only [rqV] at HCK
 rw [hc] at HCK
 have hn6 : n ≤ 6 := by rw [hn]; exact HOK.out.2.2
 have HCP : Hid (∀ w', Mod (fun _ => False) w w' → Calls Tryz.prog 25 #[.pointer (some ⟨g, 0, none⟩)] w' fun e w'' => Mod (fun _ => False) w' w'' ∧ ∃ g' v' l', e = .returned (.pointer (some ⟨g', 0, none⟩)) ∧ GrAt w'' g' v' l' ∧ l'.map Vs.x = l.map Vs.x ∧ w'.heap.size ≤ g') := Lib.hid (fun w' m => by
   have ht := hgood.tame
   exact copy_any g gv l w' (HG.out.keep m) (by have := ht.len; omega) (fun x hx => by have := ht.each x hx; exact ⟨by omega, by omega⟩))
 obtain ⟨i0, hi, hz0, hz1, hz2⟩ := info_parts infoValue
 have HI : Hid (Tryz.prog.info? 77 = some i0 ∧ i0.zero = some (.agg #[.int .u8 0, .int .i64 0, zval]) ∧ i0.size = 3 ∧ i0.bytes = 32) := ⟨hi, hz0, hz1, hz2⟩
 clear hi hz0 hz1 hz2
 clear hn ho hc hg hgood
 go_enter Tryz.func9, Tryz.ntmps9
 go_wp2_with (first
   | (go_at_call 25; refine (HCP.out _ HD1.out.mod).mono ?_; (rintro e w2 ⟨hm2, hb, v2, l2, rfl, hg2, hl2, hlo2⟩); have HLP0 := Lib.hid (DoLp.start ops HD1.out hm2 hg2 hl2 hlo2); replace b1 := hm2.cell b1; have zb2 := Nat.lt_of_lt_of_le zb hm2.size; clear hm2 hg2 hl2 hlo2 b0 b2 b3 b4)
   | (go_at_call 20; refine HCK.out.mono ?_; (rintro e w1 ⟨rfl, hm1⟩); have HD1 := Lib.hid (HS.out.next hm1 (fun _ f => f.elim)); obtain ⟨b0, b1, b2, b3, b4, zb⟩ := HD1.out.boxf; clear hm1))
 go_loopw [46] (fun i wr => ∃ (q : Nat) (L' : Gr) (vals : List Val) (vv : Value), i = .int .i64 (q : Int) ∧ q ≤ n ∧ DoLp w (.int .u8 1) (.slice a n c) (.int .u32 (v : Int)) (.int .i64 k) (.int .i64 d) hb w2.heap.size (l.map Vs.x) ops q L' vals vv wr) (fun i _ => n - (intOf i).toNat)
 case atStart => exact ⟨0, _, _, _, rfl, Nat.zero_le _, HLP0.out⟩
 case round =>
   obtain ⟨q, L', vals, vv, rfl, hq, hlp⟩ := hrel
   have HLP := Lib.hid hlp
   obtain ⟨av, cv, hvv, -⟩ := hlp.seg.shape
   subst hvv
   obtain ⟨vh, lh, hgr, hlh⟩ := hlp.gr
   have HGR := Lib.hid hgr
   have HLH := Lib.hid hlh
   obtain ⟨nv, hnv⟩ : ∃ nv, nv = vals.length := ⟨_, rfl⟩
   have HNV := Lib.hid hnv
   have HVL : Hid (nv ≤ q) := Lib.hid (by rw [hnv]; exact hlp.len)
   rw [← hnv] at HLP
   clear hlp HLP0 hnv
   by_cases hqn : q < n
   · obtain ⟨o, ho⟩ : ∃ o, ops[q]? = some o := ⟨_, List.getElem?_eq_getElem (by rw [← HN.out]; exact hqn)⟩
     obtain ⟨bl, offl, e0, hbl, r0, r1, r2, r3, r4, r5, r6⟩ := HO.out.ent ho rfl
     replace r0 := HLP.out.at_.mod.cell r0
     replace r1 := HLP.out.at_.mod.cell r1
     replace r2 := HLP.out.at_.mod.cell r2
     replace r3 := HLP.out.at_.mod.cell r3
     replace r4 := HLP.out.at_.mod.cell r4
     replace r5 := HLP.out.at_.mod.cell r5
     replace r6 := HLP.out.at_.mod.cell r6
     have zbl : bl < wr.heap.size := Nat.lt_of_lt_of_le hbl HLP.out.at_.mod.size
     have HOO := Lib.hid ho
     have HFO := Lib.hid (HO.out.fits o (List.mem_of_getElem? ho))
     have HOKO := Lib.hid (HOK.out.1 o (List.mem_of_getElem? ho))
     have HGD2 : Hid (Good (lh.map Vs.x)) := Lib.hid (by rw [hlh]; exact Good.run (us := []) (vs := vals) HGD.out (fun o ho => HOK.out.1 o (List.mem_of_mem_take ho)) HLP.out.run)
     obtain ⟨ez, G, vs1, hon⟩ : ∃ ez G vs1, oneG L' o = ⟨ez, G, vs1⟩ := ⟨_, _, _, rfl⟩
     have HON := Lib.hid hon
     have HV1 : Hid (vs1.length ≤ 1) := Lib.hid (by have h := one_vals L' o; rw [hon] at h; exact h)
     subst e0
     obtain ⟨kind, oa, ob, okey, ⟨vk, vn, vs⟩⟩ := o
     simp only at r0 r1 r2 r3 r4 r5 r6
     obtain ⟨n1, hn1⟩ : ∃ n1, n1 = vs1.length := ⟨_, rfl⟩
     have HN1 := Lib.hid hn1
     have HMQ : Hid (Mod (fun _ => False) wr (wr.alloc (.cells #[.int .u8 (kind : Int), .int .u32 (oa : Int), .int .u32 (ob : Int), .int .u8 (okey : Int), .int .u8 (vk : Int), .int .i64 vn, .string vs] 79))) := Lib.hid ((Mod.refl _ _).alloc _)
     have HONE : Hid (Calls Tryz.prog 26 #[.pointer (some ⟨hb, 0, none⟩), .agg #[.int .u8 (kind : Int), .int .u32 (oa : Int), .int .u32 (ob : Int), .int .u8 (okey : Int), .int .u8 (vk : Int), .int .i64 vn, .string vs]] (wr.alloc (.cells #[.int .u8 (kind : Int), .int .u32 (oa : Int), .int .u32 (ob : Int), .int .u8 (okey : Int), .int .u8 (vk : Int), .int .i64 vn, .string vs] 79)) fun e w5 => Mod (fun k => k = hb) (wr.alloc (.cells #[.int .u8 (kind : Int), .int .u32 (oa : Int), .int .u32 (ob : Int), .int .u8 (okey : Int), .int .u8 (vk : Int), .int .i64 vn, .string vs] 79)) w5 ∧ ∃ vo v5 l5, e = .returned (.tuple #[.int .i64 (ez : Int), vo]) ∧ GrAt w5 hb v5 l5 ∧ l5.map Vs.x = G ∧ RdS w5 3 vo n1 (vvcells vs1)) := Lib.hid (by
       have h := one_any hb vh lh ⟨kind, oa, ob, okey, ⟨vk, vn, vs⟩⟩ (wr.alloc (.cells #[.int .u8 (kind : Int), .int .u32 (oa : Int), .int .u32 (ob : Int), .int .u8 (okey : Int), .int .u8 (vk : Int), .int .i64 vn, .string vs] 79)) (hgr.keep HMQ.out) HGD2.out.tame HFO.out HOKO.out
       unfold OneP at h
       rw [hlh, hon] at h
       rw [hn1]
       exact h)
     clear ho hbl hgr hlh hon hn1
     by_cases hz : ez = 0
     · subst hz
       go_wp2_with (first
         | (at_builtin; refine wpList_append_pat rfl (.tmp 63) (.tmp 64) 36 rfl i0 _ 3 32 Tryz.underlying36 HI.out.1 HI.out.2.1 HI.out.2.2.1 HI.out.2.2.2 rfl (by decide) rfl HSG5.out _ n1 _ rfl HSRC.out (by have := HVL.out; have := HV1.out; have := HN1.out; unfold maxLen; omega) (by have := HVL.out; have := HV1.out; have := HN1.out; omega) valP HPT5.out (fun j u hu => valP_cells (vals ++ vs1) j u (by rw [vv_append]; exact hu)) valP_zero ?_; intro v6 w6 hs6 hp6 hg6 ho6; have HAP2 := Lib.hid (HLP.out.app HOO.out HON.out HMQ.out HM5.out HG5.out HL5.out (by rw [← HNV.out, ← HN1.out]; exact hs6) hp6 hg6 ho6); (obtain ⟨a6, c6, n6, rfl⟩ : ∃ a c n, v6 = .slice a n c := (by obtain ⟨a, c, e, _⟩ := hs6.shape; exact ⟨_, _, _, e⟩)); have p6 := cell_of_row HAP2.out.1 2; have p6f := free_of_row HAP2.out.1 2; have z6 := lt_of_block HAP2.out.1; simp at p6; clear hs6 hp6 hg6 ho6)
         | (go_at_call 26; refine HONE.out.mono ?_; (rintro e w5 ⟨hm5, vo, v5, l5, rfl, hg5, hl5, hv5⟩); have HM5 := Lib.hid hm5; have HG5 := Lib.hid hg5; have HL5 := Lib.hid hl5; have HSRC := Lib.hid (hv5.src (vv_ones vs1)); (obtain ⟨a5, c5, rfl, -⟩ := hv5.shape); have HMID := Lib.hid (HLP.out.mid HMQ.out hm5); have HSG5 : Hid (Seg w5 77 3 (.slice av nv cv) nv (vvcells vals)) := Lib.hid (by rw [HNV.out]; have h := HMID.out.2.1; rw [← HNV.out] at h ⊢; exact h); have HPT5 := Lib.hid HMID.out.2.2; have p5 := cell_of_row HMID.out.1 2; have p5f := free_of_row HMID.out.1 2; have z5 := lt_of_block HMID.out.1; simp at p5; clear hm5 hg5 hl5 hv5))
       go_roundw
       case rel => exact ⟨q + 1, G, vals ++ vs1, _, by go_num, by omega, HAP2.out.2⟩
       case measure => simp [intOf]; omega
     · have hz' : ((ez : Int) != 0) = true := by simp [hz]
       have HE : Hid (doG (l.map Vs.x) ⟨1, ops, v, k, d⟩ = (l.map Vs.x, ⟨ez, q, [], []⟩)) := Lib.hid (by
         obtain ⟨h1, h2⟩ := okRun_fail HLP.out.run HOO.out (by rw [HON.out]; exact hz)
         rw [HDF.out h1, h2, HON.out])
       go_wp2_with (go_at_call 26; refine HONE.out.mono ?_; (rintro e w5 ⟨hm5, vo, v5, l5, rfl, hg5, hl5, hv5⟩); (obtain ⟨a5, c5, rfl, -⟩ := hv5.shape); have HD5 := Lib.hid ((HLP.out.at_.next HMQ.out (fun _ f => f.elim)).next hm5 (fun k e => by have := HLP.out.hlo; omega)); obtain ⟨s0, s1, s2, s3, f0, f1, f2, f3, zr⟩ := HD5.out.retf; clear hm5 hg5 hl5 hv5)
       refine bodyPost_ret (v := .agg #[.int .i64 (ez : Int), .int .i64 (q : Int), .slice none 0 0, .slice none 0 0]) (by simp [results, Tryz.results9, go_sem, s0, s1, s2, s3]) rfl ?_
       exact DoQ.stay HG.out (HD5.out.finish _ _ _ _).1 HE.out (Seg.nil _ _ _)
   · have HR : Hid (okRun (l.map Vs.x) ops = some (L', vals)) := Lib.hid (by
       have h := HLP.out.run
       rwa [List.take_of_length_le (by have := HN.out; omega)] at h)
     obtain rfl : q = n := by omega
     obtain ⟨ah, ch, nh, rfl⟩ : ∃ a c n, vh = .slice a n c := by
       obtain ⟨a, c, e, _⟩ := hgr.lst.row.shape
       exact ⟨_, _, _, e⟩
     have h0 := cell_of_row hgr.box 0
     have zh := lt_of_block hgr.box
     have hgb := HLP.out.at_.mod.heap HG.out.box (fun f => f)
     have g0 := cell_of_row hgb 0
     have g0f := free_of_row hgb 0
     have zg := lt_of_block hgb
     have a0 := cell_of_row HLP.out.abx 0
     have a1 := cell_of_row HLP.out.abx 1
     have a2 := cell_of_row HLP.out.abx 2
     have a3 := cell_of_row HLP.out.abx 3
     have za := lt_of_block HLP.out.abx
     obtain ⟨s0, s1, s2, s3, f0, f1, f2, f3, zr⟩ := HLP.out.at_.retf
     simp at h0 g0 a0 a1 a2 a3
     have e1 : g < w.heap.size := lt_of_block HG.out.box
     have e2 := HLP.out.hlo
     have e3 := HLP.out.alo
     have n1 : g ≠ hb := by omega
     have n2 : g ≠ w2.heap.size := by omega
     have n3 : g ≠ w.heap.size + 1 := by omega
     have n4 : w.heap.size + 1 ≠ g := by omega
     have n5 : w2.heap.size ≠ g := by omega
     have n6 : hb ≠ g := by omega
     clear e1 e2 e3 hgb hgr hlh
     go_wp2
     refine bodyPost_ret (v := .agg #[.int .i64 0, .int .i64 0, .slice av nv cv, .slice none 0 0]) (by simp [results, Tryz.results9, go_sem, s0, s1, s2, s3, n3, n4]) rfl ?_
     obtain ⟨m, gf, sf⟩ := HLP.out.finish HG.out HGR.out
     refine ⟨m, .slice av nv cv, .slice none 0 0, _, lh, by rw [HDR.out _ HR.out]; rfl, gf, by rw [HDR.out _ HR.out]; exact HLH.out, by rw [HDR.out _ HR.out]; exact sf, by rw [HDR.out _ HR.out]; exact Seg.nil _ _ _⟩
structure RDq (gr : Nat) (L : Gr) (r : Rqt) (vv vl : Value) (wB w4 : World) : Prop where
 mod : Mod (fun k => k = gr) wB w4
 rf : ∃ gv l, GrAt w4 gr gv l ∧ l.map Vs.x = (doG L r).1
 vals : Seg w4 77 3 vv (doG L r).2.vals.length (vvcells (doG L r).2.vals)
 list : Seg w4 32 1 vl (doG L r).2.list.length ((doG L r).2.list.map (keyV .u32))
theorem DoQ.rdq {g : Nat} {l : List Vs} {r : Rqt} {w : World} {e : Ending} {w' : World} (h : DoQ g l r w e w') : ∃ vv vl, e = .returned (.agg #[.int .i64 ((doG (l.map Vs.x) r).2.e : Nat), .int .i64 ((doG (l.map Vs.x) r).2.at_ : Nat), vv, vl]) ∧ RDq g (l.map Vs.x) r vv vl w w' := by
 obtain ⟨m, vv, vl, v', l', he, hg, hl, hv, hli⟩ := h
 exact ⟨vv, vl, he, m, ⟨v', l', hg, hl⟩, hv, hli⟩
theorem rdq_any (gr : Nat) (L : Gr) (r : Rqt) (vo : Value) (w : World) (h : ∃ gv l, GrAt w gr gv l ∧ l.map Vs.x = L) (hL : Good L) (ho : ORd w vo r.ops) :
   Calls Tryz.prog 9 #[.pointer (some ⟨gr, 0, none⟩), rqV r vo] w fun e w' => ∃ vv vl, e = .returned (.agg #[.int .i64 ((doG L r).2.e : Nat), .int .i64 ((doG L r).2.at_ : Nat), vv, vl]) ∧ RDq gr L r vv vl w w' := by
 obtain ⟨gv, l, h1, h2⟩ := h
 subst h2
 by_cases hc : checkR r = 0
 · by_cases hk : r.kind = 1
   · exact (do_1Q gr gv l r vo w h1 hL ho hc hk).mono (fun _ _ h => h.rdq)
   · cases hf : findV (l.map Vs.x) r.v with
     | none => exact (do_noneQ gr gv l r vo w h1 ho hc hk hf).mono (fun _ _ h => h.rdq)
     | some x =>
       by_cases h2 : r.kind = 2
       · exact (do_2Q gr gv l r vo w h1 hL.tame ho hc h2 x hf).mono (fun _ _ h => h.rdq)
       · have h3 : r.kind = 3 := by
           unfold checkR at hc
           split at hc
           · cases hc
           · omega
         exact (do_3Q gr gv l r vo w h1 ho hc h3 x hf).mono (fun _ _ h => h.rdq)
 · refine (do_bad (.pointer (some ⟨gr, 0, none⟩)) r vo w ho hc).mono ?_
   rintro e w' ⟨rfl, m⟩
   exact (DoQ.stay (z := checkR r) (i := 0) (li := []) h1 m (by unfold doG; rw [if_pos hc]) (Seg.nil _ _ _)).rdq
open Go.RowKit Go.Maps
structure Cm.Own (w wr : World) (c : Cm) : Prop where
 nm : c.x.nm.ok
 v : c.x.r.v < 4294967296
 ops : ORd w c.vo c.x.r.ops
 vals : Seg wr 77 3 c.vv c.x.vals.length (vvcells c.x.vals)
 list : Seg wr 32 1 c.vl c.x.list.length (c.x.list.map (keyV .u32))
def Else (w wr : World) (S : Nat → Prop) : Prop := ∀ b, S b → w.heap.size ≤ b ∧ (b < wr.heap.size → ∃ cs t f, wr.heap[b]? = some (.cells cs t f) ∧ t ≠ 77 ∧ t ≠ 32)
theorem seg_else {w wr : World} {S : Nat → Prop} (hS : Else w wr S) {e : TypeId} (he : e = 77 ∨ e = 32) {size n : Nat} {v : Value} {xs : List Value} (h : Seg wr e size v n xs) : ∀ b, v.ownBlock = some b → ¬ S b := by
 intro b hb s
 rcases h.2.2 with ⟨rfl, _⟩ | ⟨g, off, cap, cur, rfl, hg, _⟩
 · simp [Value.ownBlock] at hb
 · simp [Value.ownBlock] at hb
   subst hb
   obtain ⟨cs, t, f, hc, h1, h2⟩ := (hS _ s).2 (lt_of_block hg)
   rw [hg] at hc
   injection hc with hc
   injection hc with _ hc _
   rcases he with rfl | rfl
   · exact h1 hc.symm
   · exact h2 hc.symm
theorem Cm.Own.mod {w wr w' : World} {c : Cm} {S : Nat → Prop} (h : c.Own w wr) (m : Mod S wr w') (hS : Else w wr S) : c.Own w w' :=
 ⟨h.nm, h.v, h.ops, h.vals.mod m (seg_else hS (.inl rfl) h.vals), h.list.mod m (seg_else hS (.inr rfl) h.list)⟩
theorem else_false (w wr : World) : Else w wr (fun _ => False) := fun _ f => f.elim
theorem Cm.Own.rd {w wr : World} {c : Cm} (h : c.Own w wr) (m : Mod (fun _ => False) w wr) : c.Rd wr := ⟨h.nm, h.v, h.ops.keep m, h.vals.rdS, h.list.rdS⟩
def plainP (j : Nat) (u : Value) : Prop := (∀ b, u ≠ .bool b) ∧ ∀ s, u ≠ .string s
theorem noRow_plain {cur : Array Value} (h : ∀ (j : Nat) (u : Value), cur[j]? = some u → plainP j u) : NoRow cur :=
 ⟨fun j n => .inr (fun b e => (h _ _ e).1 b rfl), fun j k n m s ⟨_, _, h3⟩ => (h _ _ h3).2 s rfl⟩
theorem plain_zero {cells : Array Value} (hc : ∀ u ∈ cells, plainP 0 u) (k q size j : Nat) (u : Value) (h : (Builtin.zeroCells cells k)[j]? = some u) : plainP (q * size + j) u := by
 unfold Builtin.zeroCells at h
 rw [Array.getElem?_map, Option.map_eq_some_iff] at h
 obtain ⟨i, hi, rfl⟩ := h
 have hik : i < k * cells.size := by
   have h1 := (Array.getElem?_eq_some_iff.1 hi)
   obtain ⟨h1, h2⟩ := h1
   simp at h1 h2
   omega
 have hpos : 0 < cells.size := by
   rcases Nat.eq_zero_or_pos cells.size with h0 | h0
   · rw [h0] at hik; omega
   · exact h0
 have hs : i % cells.size < cells.size := Nat.mod_lt _ hpos
 have hm := hc _ (Array.getElem_mem hs)
 rw [getElem!_pos cells _ hs]
 exact ⟨fun b => hm.1 b, fun s => hm.2 s⟩
def Cm.Sl (c : Cm) : Prop := (∃ a n k, c.vo = .slice a n k) ∧ (∃ a n k, c.vv = .slice a n k) ∧ ∃ a n k, c.vl = .slice a n k
theorem Cm.Own.sl {w wr : World} {c : Cm} (h : c.Own w wr) : c.Sl := by
 obtain ⟨a, k, e, _⟩ := h.ops.row.shape
 obtain ⟨a1, k1, e1, _⟩ := h.vals.shape
 obtain ⟨a2, k2, e2, _⟩ := h.list.shape
 exact ⟨⟨_, _, _, e⟩, ⟨_, _, _, e1⟩, ⟨_, _, _, e2⟩⟩
theorem Cm.Sl.c11 {c : Cm} (h : c.Sl) : ∀ u ∈ c.c11, plainP 0 u := by
 obtain ⟨⟨_, _, _, e1⟩, ⟨_, _, _, e2⟩, ⟨_, _, _, e3⟩⟩ := h
 intro u hu
 simp only [Cm.c11, e1, e2, e3, List.mem_cons, List.mem_nil_iff, or_false] at hu
 rcases hu with rfl | rfl | rfl | rfl | rfl | rfl | rfl | rfl | rfl | rfl | rfl <;> exact ⟨fun b h => (by cases h), fun s h => (by cases h)⟩
theorem Cm.Sl.c13 {c : Cm} (h : c.Sl) : ∀ u ∈ c.c13, plainP 0 u := by
 obtain ⟨⟨_, _, _, e1⟩, ⟨_, _, _, e2⟩, ⟨_, _, _, e3⟩⟩ := h
 intro u hu
 simp only [Cm.c13, e1, e2, e3, List.mem_cons, List.mem_nil_iff, or_false] at hu
 rcases hu with rfl | rfl | rfl | rfl | rfl | rfl | rfl | rfl | rfl | rfl | rfl | rfl | rfl <;> exact ⟨fun b h => (by cases h), fun s h => (by cases h)⟩
theorem plain_rows {cells : Cm → List Value} {l : List Cm} (h : ∀ c ∈ l, ∀ u ∈ cells c, plainP 0 u) : ∀ u ∈ l.flatMap cells, plainP 0 u := by
 intro u hu
 obtain ⟨c, hc, hu⟩ := List.mem_flatMap.1 hu
 exact h c hc u hu
theorem plain_at {l : List Value} (h : ∀ u ∈ l, plainP 0 u) : ∀ (j : Nat) (u : Value), l[j]? = some u → plainP j u := fun j u hj => ⟨fun b => (h u (List.mem_of_getElem? hj)).1 b, fun s => (h u (List.mem_of_getElem? hj)).2 s⟩
structure Hw (w : World) (gr : Nat) (u u' : Value) (ms rs : List Cm) (L : Gr) (wr : World) : Prop where
 mod : Mod (fun _ => False) w wr
 rf : ∃ gv l, GrAt wr gr gv l ∧ l.map Vs.x = L
 good : Good L
 lo : w.heap.size ≤ gr
 row : Seg wr 42 11 u ms.length (ms.flatMap Cm.c11)
 row' : Seg wr 44 13 u' rs.length (rs.flatMap Cm.c13)
 own : ∀ c ∈ ms, c.Own w wr
 own' : ∀ c ∈ rs, c.Own w wr
 oa : ∀ b, u.ownBlock = some b → w.heap.size ≤ b
 oa' : ∀ b, u'.ownBlock = some b → w.heap.size ≤ b
 pat : PatB plainP wr u
 pat' : PatB plainP wr u'
section
variable {w wr wx : World} {gr : Nat} {u u' : Value} {ms rs : List Cm} {L : Gr}
theorem Hw.keep (h : Hw w gr u u' ms rs L wr) (m : Mod (fun _ => False) wr wx) : Hw w gr u u' ms rs L wx :=
 ⟨h.mod.trans m, rf_kept h.rf (.mod m), h.good, h.lo, h.row.mod m (fun _ _ f => f), h.row'.mod m (fun _ _ f => f), fun c hc => (h.own c hc).mod m (else_false _ _), fun c hc => (h.own' c hc).mod m (else_false _ _), h.oa, h.oa', h.pat.mod m (fun _ _ f => f), h.pat'.mod m (fun _ _ f => f)⟩
theorem Hw.crd (h : Hw w gr u u' ms rs L wr) : CRd Cm.c11 11 wr u ms := ⟨h.row.rdS, fun c hc => (h.own c hc).rd h.mod⟩
theorem Hw.gr_box (h : Hw w gr u u' ms rs L wr) : ∃ cs, wr.heap[gr]? = some (.cells cs 28 (0, 0)) := by
 obtain ⟨gv, l, hg, -⟩ := h.rf
 exact ⟨_, hg.box⟩
theorem seg_blk {wr : World} {e : TypeId} {size n : Nat} {v : Value} {xs : List Value} (h : Seg wr e size v n xs) {b : Nat} (hb : v.ownBlock = some b) : ∃ cs, wr.heap[b]? = some (.cells cs e (0, 0)) := by
 rcases h.2.2 with ⟨rfl, _⟩ | ⟨g, off, cap, cur, rfl, hg, _⟩
 · simp [Value.ownBlock] at hb
 · simp [Value.ownBlock] at hb; subst hb; exact ⟨_, hg⟩
theorem Hw.else_gr (h : Hw w gr u u' ms rs L wr) : Else w wr (fun k => k = gr) := by
 rintro b rfl
 obtain ⟨cs, hc⟩ := h.gr_box
 exact ⟨h.lo, fun _ => ⟨_, _, _, hc, by decide, by decide⟩⟩
theorem Hw.else_u (h : Hw w gr u u' ms rs L wr) : Else w wr (fun k => u.ownBlock = some k) := by
 intro b hb
 obtain ⟨cs, hc⟩ := seg_blk h.row hb
 exact ⟨h.oa b hb, fun _ => ⟨_, _, _, hc, by decide, by decide⟩⟩
theorem seg_ne {wr : World} {e t : TypeId} {size n b : Nat} {v : Value} {xs : List Value} {cs : Array Value} {f : Nat × Nat} (h : Seg wr e size v n xs) (hb : wr.heap[b]? = some (.cells cs t f)) (hne : e ≠ t) : v.ownBlock ≠ some b := by
 intro e'
 obtain ⟨cs', hc⟩ := seg_blk h e'
 rw [hb] at hc
 injection hc with hc
 injection hc with _ hc _
 exact hne hc.symm
theorem Hw.do {r : Rqt} {vv vl : Value} (h : Hw w gr u u' ms rs L wr) (d : RDq gr L r vv vl wr wx) : Hw w gr u u' ms rs (doG L r).1 wx := by
 obtain ⟨cs, hc⟩ := h.gr_box
 refine ⟨h.mod.trans' d.mod (fun i hi e => by have := h.lo; omega), d.rf, Good.do h.good r, h.lo, h.row.mod d.mod (fun b hb e => ?_), h.row'.mod d.mod (fun b hb e => ?_), fun c hc => (h.own c hc).mod d.mod h.else_gr, fun c hc => (h.own' c hc).mod d.mod h.else_gr, h.oa, h.oa', h.pat.mod d.mod (fun b hb e => ?_), h.pat'.mod d.mod (fun b hb e => ?_)⟩
 · subst e; exact seg_ne h.row hc (by decide) hb
 · subst e; exact seg_ne h.row' hc (by decide) hb
 · subst e; exact seg_ne h.row hc (by decide) hb
 · subst e; exact seg_ne h.row' hc (by decide) hb
theorem grAt_own {gr : Nat} {L : Gr} {v : Value} {e : TypeId} {size n : Nat} {xs : List Value} (hr : ∃ gv l, GrAt wr gr gv l ∧ l.map Vs.x = L) (hs : Seg wr e size v n xs) (hp : PatB plainP wr v) (he : e ≠ 28) (m : Mod (fun k => v.ownBlock = some k) wr wx) : ∃ gv l, GrAt wx gr gv l ∧ l.map Vs.x = L := by
 obtain ⟨gv, l, hg, hl⟩ := hr
 rcases hs.2.2 with ⟨rfl, _⟩ | ⟨g, off, cap, cur, rfl, hgc, _⟩
 · exact ⟨gv, l, hg.keep (m.mono (fun i _ h => by simp [Value.ownBlock] at h)), hl⟩
 · obtain ⟨_, cur', t', hc, hpl⟩ := hp g off n cap rfl
   have m' : Mod (fun k => k = g) wr wx := m.mono (fun i _ h => by simp [Value.ownBlock] at h; exact h.symm)
   refine ⟨gv, l, ⟨m'.heap hg.box (fun e' => ?_), hg.lst.offC hc (noRow_plain hpl) m'⟩, hl⟩
   have hb := hg.box
   rw [e', hgc] at hb
   injection hb with hb
   injection hb with _ hb _
   exact he hb
theorem Hw.appC {w5 w3 : World} {v3 : Value} {c : Cm} (h : Hw w gr u u' ms rs L w5) (hc : c.Own w w5) (hs : Seg w3 42 11 v3 (ms.length + 1) (ms.flatMap Cm.c11 ++ c.c11)) (hp : PatB plainP w3 v3) (hg : w5.grownBy w3 u.ownBlock) (ho : v3.ownBlock = u.ownBlock ∨ v3.ownBlock = some w5.heap.size) : Hw w gr v3 u' (ms ++ [c]) rs L w3 := by
 have m := mod_grown hg
 refine ⟨h.mod.grown hg (fun b hb hlt => by have := h.oa b hb; omega), grAt_own h.rf h.row h.pat (by decide) m, h.good, h.lo, by rw [List.length_append, List.flatMap_append]; simpa using hs, h.row'.mod m (fun b hb e => ?_), fun d hd => ?_, fun d hd => (h.own' d hd).mod m h.else_u, fun b hb => ?_, h.oa', hp, h.pat'.mod m (fun b hb e => ?_)⟩
 · obtain ⟨cs, hcs⟩ := seg_blk h.row e
   exact seg_ne h.row' hcs (by decide) hb
 · rcases List.mem_append.1 hd with hd | hd
   · exact (h.own d hd).mod m h.else_u
   · rw [List.mem_singleton] at hd; rw [hd]; exact hc.mod m h.else_u
 · rcases ho with e | e
   · exact h.oa b (e ▸ hb)
   · rw [e] at hb; injection hb with hb
     have := h.mod.size; omega
 · obtain ⟨cs, hcs⟩ := seg_blk h.row e
   exact seg_ne h.row' hcs (by decide) hb
theorem flat_set11 : ∀ (l : List Cm) (i j : Nat) (c : Cm) (u : Value), l[i]? = some c → j < 11 → ∀ d : Cm, d.c11 = c.c11.set j u → (l.flatMap Cm.c11).set (i * 11 + j) u = (l.set i d).flatMap Cm.c11
 | [], i, j, c, u, h, _, _, _ => by simp at h
 | x :: r, 0, j, c, u, h, hj, d, hd => by
   simp at h; subst h
   have hl : x.c11.length = 11 := rfl
   rw [List.flatMap_cons, Nat.zero_mul, Nat.zero_add, List.set_append_left _ _ (by rw [hl]; exact hj), List.set_cons_zero, List.flatMap_cons, hd]
 | x :: r, i + 1, j, c, u, h, hj, d, hd => by
   have hl : x.c11.length = 11 := rfl
   rw [List.flatMap_cons, List.set_append_right _ _ (by rw [hl]; omega), hl, show (i + 1) * 11 + j - 11 = i * 11 + j by omega, List.set_cons_succ, List.flatMap_cons, flat_set11 r i j c u (by simpa using h) hj d hd]
theorem Hw.turn {g off cap n : Nat} (h : Hw w gr (.slice (some ⟨g, off, none⟩) n cap) u' ms rs L wr) {i : Nat} {c : Cm} (hc : ms[i]? = some c) (hn : n = ms.length) (z : Int) :
   wr.cell? ⟨g, off + i * 11 + 8, none⟩ = some (.int .i64 c.x.p) ∧ wr.frozen? ⟨g, off + i * 11 + 8, none⟩ = false ∧ g < wr.heap.size ∧
     CRd Cm.c11 11 (wr.setCell ⟨g, off + i * 11 + 8, none⟩ (.int .i64 z)) (.slice (some ⟨g, off, none⟩) n cap) (ms.set i { c with x := { c.x with p := z } }) ∧
     CRd Cm.c13 13 (wr.setCell ⟨g, off + i * 11 + 8, none⟩ (.int .i64 z)) u' rs ∧ Mod (fun _ => False) w (wr.setCell ⟨g, off + i * 11 + 8, none⟩ (.int .i64 z)) := by
 subst hn
 have hi := (List.getElem?_eq_some_iff.1 hc).1
 have hlt : i * 11 + 8 < ms.length * 11 := by omega
 obtain ⟨g', off', cap', e, h1, h2, h3, h4⟩ := h.row.open (by omega)
 injection e with e1 _ e3
 injection e1 with e1
 injection e1 with e1 e2 _
 subst e1 e2 e3
 have hcell := (h4 _ hlt).1
 have hfr := (h4 _ hlt).2
 rw [← Nat.add_assoc] at hcell hfr
 have hx : (ms.flatMap Cm.c11)[i * 11 + 8]? = some (.int .i64 c.x.p) := by rw [flat_get Cm.c11 (fun _ => rfl) ms i 8 c hc (by omega)]; rfl
 have m : Mod (fun k => Value.ownBlock (.slice (some ⟨g, off, none⟩) ms.length cap) = some k) wr (wr.setCell ⟨g, off + i * 11 + 8, none⟩ (.int .i64 z)) := (Mod.refl (fun k => Value.ownBlock (.slice (some ⟨g, off, none⟩) ms.length cap) = some k) wr).setCell (p := ⟨g, off + i * 11 + 8, none⟩) (fun _ => rfl) _
 have m0 : Mod (fun _ => False) w (wr.setCell ⟨g, off + i * 11 + 8, none⟩ (.int .i64 z)) := h.mod.trans' m (fun b hb e => by have := h.oa b e; omega)
 have hs := h.row.set hlt (.int .i64 z) rfl
 rw [← Nat.add_assoc, flat_set11 ms i 8 c (.int .i64 z) hc (by omega) { c with x := { c.x with p := z } } rfl] at hs
 refine ⟨hcell.trans hx, hfr, h3, ⟨by rw [List.length_set]; exact hs.rdS, fun d hd => ?_⟩, ⟨(h.row'.mod m (fun b hb e => ?_)).rdS, fun d hd => ((h.own' d hd).mod m h.else_u).rd m0⟩, m0⟩
 · have key : ∀ d ∈ ms, d.Rd (wr.setCell ⟨g, off + i * 11 + 8, none⟩ (.int .i64 z)) := fun d hd => ((h.own d hd).mod m h.else_u).rd m0
   rcases List.mem_or_eq_of_mem_set hd with hd | hd
   · exact key d hd
   · have := key c (List.mem_of_getElem? hc)
     rw [hd]
     exact ⟨this.nm, this.v, this.ops, this.vals, this.list⟩
 · obtain ⟨cs, hcs⟩ := seg_blk h.row e
   exact seg_ne h.row' hcs (by decide) hb
end
end Go.Proofs.YtpigipgoopeeoaaGreatDoor
