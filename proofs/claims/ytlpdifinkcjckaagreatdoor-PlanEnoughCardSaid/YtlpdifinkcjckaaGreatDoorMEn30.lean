import Derived.Test.YtlpdifinkcjckaaGreatDoorMEn29
set_option linter.unusedVariables false
set_option linter.unusedSimpArgs false
namespace Go.Proofs.YtlpdifinkcjckaaGreatDoor
open Go.RowKit Go.Maps
def DoA (g bm : Nat) (ns : List Node) (r : Rqt) (w : World) (e : Ending) (w' : World) : Prop :=
 ∃ vv vl ns', e = .returned (.agg #[.int .i64 ((doG (ns.map Node.x) r).2.e : Nat), .int .i64 ((doG (ns.map Node.x) r).2.at_ : Nat), vv, vl]) ∧ Turned g bm ns (doG (ns.map Node.x) r).1 (fun _ => False) w w' ns' ∧
   Seg w' 68 3 vv (doG (ns.map Node.x) r).2.vals.length (vvcells (doG (ns.map Node.x) r).2.vals) ∧ Seg w' 27 1 vl (doG (ns.map Node.x) r).2.list.length ((doG (ns.map Node.x) r).2.list.map (keyV .u32)) ∧ (∀ b, vv.ownBlock = some b → w.heap.size ≤ b) ∧ (∀ b, vl.ownBlock = some b → w.heap.size ≤ b) ∧ PatB valP w' vv
theorem DoA.stay {g bm : Nat} {vl : Value} {ns : List Node} {r : Rqt} {w w' : World} {z i : Nat} {li : List Nat} (hp : PG w g bm ns) (m : Mod (fun _ => False) w w') (he : doG (ns.map Node.x) r = (ns.map Node.x, ⟨z, i, [], li⟩)) (hl : Seg w' 27 1 vl li.length (li.map (keyV .u32))) (hn : ∀ b, vl.ownBlock = some b → w.heap.size ≤ b) :
   DoA g bm ns r w (.returned (.agg #[.int .i64 (z : Int), .int .i64 (i : Int), .slice none 0 0, vl])) w' := by
 refine ⟨.slice none 0 0, vl, ns, by rw [he], by rw [he]; exact Turned.idle hp m _, by rw [he]; exact Seg.nil _ _ _, by rw [he]; exact hl, fun b hb => by simp [Value.ownBlock] at hb, hn, PatB.nil _ _⟩
set_option maxRecDepth 100000 in
set_option maxHeartbeats 4000000 in
theorem gdo_bad (gv : Value) (r : Rqt) (vo : Value) (w : World) (ho : ORd w vo r.ops) (hc : checkR r ≠ 0) :
   Calls Tryz.prog 10 #[gv, rqV r vo] w fun e w' => e = .returned (.agg #[.int .i64 (checkR r : Nat), .int .i64 0, .slice none 0 0, .slice none 0 0]) ∧ Mod (fun _ => False) w w' := by
 obtain ⟨kind, ops, v, k, d⟩ := r
 obtain ⟨cr, hcr⟩ : ∃ cr, cr = checkR ⟨kind, ops, v, k, d⟩ := ⟨_, rfl⟩
 rw [← hcr] at hc ⊢
 have HO := Lib.hid ho
 obtain ⟨a, c, rfl, -⟩ := ho.row.shape
 obtain ⟨n, hn⟩ : ∃ n, n = ops.length := ⟨_, rfl⟩
 simp only [rqV, ← hn] at HO ⊢
 have HS := Lib.hid (DoAt.start w (.int .u8 (kind : Int)) (.slice a n c) (.int .u32 (v : Int)) (.int .i64 k) (.int .i64 d))
 have HCK := Lib.hid (gcheck_any ⟨kind, ops, v, k, d⟩ (.slice a n c) _ (HO.out.keep HS.out.mod))
 simp only [rqV] at HCK
 rw [← hcr] at HCK
 have hcr' : ((cr : Int) != 0) = true := by simp [hc]
 clear hn hcr ho hc
 go_enter Tryz.func10, Tryz.ntmps10
 go_wp2_with (go_at_call 32; refine HCK.out.mono ?_; (rintro e w1 ⟨rfl, hm1⟩); have HD1 := Lib.hid (HS.out.next hm1 (fun _ f => f.elim)); obtain ⟨r0, r1, r2, r3, f0, f1, f2, f3, zr⟩ := HD1.out.retf; obtain ⟨b0, b1, b2, b3, b4, zb⟩ := HD1.out.boxf; clear hm1)
 refine bodyPost_ret (v := .agg #[.int .i64 (cr : Int), .int .i64 0, .slice none 0 0, .slice none 0 0]) (by simp [results, Tryz.results10, go_sem, r0, r1, r2, r3]) rfl ?_
 exact ⟨rfl, (HD1.out.finish _ _ _ _).1⟩
set_option maxRecDepth 100000 in
set_option maxHeartbeats 4000000 in
theorem gdo_none (g bm : Nat) (ns : List Node) (r : Rqt) (vo : Value) (w : World) (hp : PG w g bm ns) (ho : ORd w vo r.ops) (hc : checkR r = 0) (hk : r.kind ≠ 1) (hvb : r.v < 4294967296) (hf : findN ns r.v = none) :
   Calls Tryz.prog 10 #[.pointer (some ⟨g, 0, none⟩), rqV r vo] w (DoA g bm ns r w) := by
 obtain ⟨kind, ops, v, k, d⟩ := r
 simp only at hk hf hvb
 have HE : Hid (doG (ns.map Node.x) ⟨kind, ops, v, k, d⟩ = (ns.map Node.x, ⟨6, 0, [], []⟩)) := Lib.hid (by unfold doG; rw [if_neg (by simpa using hc), if_neg hk, findN_map, hf]; rfl)
 have HP := Lib.hid hp
 have HVB := Lib.hid hvb
 have HF := Lib.hid hf
 have g0 := cell_of_row hp.cell 0
 have zg := lt_of_block hp.cell
 simp at g0
 have HO := Lib.hid ho
 obtain ⟨a, c, rfl, -⟩ := ho.row.shape
 obtain ⟨n, hn⟩ : ∃ n, n = ops.length := ⟨_, rfl⟩
 simp only [rqV, ← hn] at HO ⊢
 have HS := Lib.hid (DoAt.start w (.int .u8 (kind : Int)) (.slice a n c) (.int .u32 (v : Int)) (.int .i64 k) (.int .i64 d))
 have HCK := Lib.hid (gcheck_any ⟨kind, ops, v, k, d⟩ (.slice a n c) _ (HO.out.keep HS.out.mod))
 simp only [rqV] at HCK
 rw [hc] at HCK
 have hk1 : ((kind : Int) == 1) = false := by simp; omega
 clear hn ho hc hp hf hk hvb
 go_enter Tryz.func10, Tryz.ntmps10
 go_wp2_with (go_at_call 32; refine HCK.out.mono ?_; (rintro e w1 ⟨rfl, hm1⟩); have HD1 := Lib.hid (HS.out.next hm1 (fun _ f => f.elim)); obtain ⟨r0, r1, r2, r3, f0, f1, f2, f3, zr⟩ := HD1.out.retf; obtain ⟨b0, b1, b2, b3, b4, zb⟩ := HD1.out.boxf; clear hm1; have g0 := HD1.out.mod.cell g0; have zg : g < w1.heap.size := Nat.lt_of_lt_of_le zg HD1.out.mod.size; have la := HP.out.nm.look HD1.out.mod.drew HVB.out; rw [HF.out] at la; simp only [ptrN] at la)
 go_region
 all_goals
   go_wp2
   refine bodyPost_ret (v := .agg #[.int .i64 6, .int .i64 0, .slice none 0 0, .slice none 0 0]) (by simp [results, Tryz.results10, go_sem, r0, r1, r2, r3]) rfl ?_
   exact DoA.stay HP.out ((HD1.out.next ((Mod.refl (fun _ => False) _).drew) (fun _ f => f.elim)).finish _ _ _ _).1 HE.out (Seg.nil _ _ _) (fun b hb => by simp [Value.ownBlock] at hb)
set_option maxRecDepth 100000 in
set_option maxHeartbeats 4000000 in
theorem gdo_3 (g bm : Nat) (ns : List Node) (r : Rqt) (vo : Value) (w : World) (hp : PG w g bm ns) (ho : ORd w vo r.ops) (hc : checkR r = 0) (hk : r.kind = 3) (hvb : r.v < 4294967296) (x : Node) (hf : findN ns r.v = some x) :
   Calls Tryz.prog 10 #[.pointer (some ⟨g, 0, none⟩), rqV r vo] w (DoA g bm ns r w) := by
 obtain ⟨kind, ops, v, k, d⟩ := r
 simp only at hk hf hvb
 subst hk
 have HE : Hid (doG (ns.map Node.x) ⟨3, ops, v, k, d⟩ = (ns.map Node.x, ⟨0, 0, [], []⟩)) := Lib.hid (by unfold doG; rw [if_neg (by simpa using hc), findN_map, hf]; simp)
 have HP := Lib.hid hp
 have HVB := Lib.hid hvb
 have HF := Lib.hid hf
 have g0 := cell_of_row hp.cell 0
 have zg := lt_of_block hp.cell
 simp at g0
 have HO := Lib.hid ho
 obtain ⟨a, c, rfl, -⟩ := ho.row.shape
 obtain ⟨n, hn⟩ : ∃ n, n = ops.length := ⟨_, rfl⟩
 simp only [rqV, ← hn] at HO ⊢
 have HS := Lib.hid (DoAt.start w (.int .u8 3) (.slice a n c) (.int .u32 (v : Int)) (.int .i64 k) (.int .i64 d))
 have HCK := Lib.hid (gcheck_any ⟨3, ops, v, k, d⟩ (.slice a n c) _ (HO.out.keep HS.out.mod))
 simp only [rqV] at HCK
 rw [hc] at HCK
 clear hn ho hc hp hf hvb
 go_enter Tryz.func10, Tryz.ntmps10
 go_wp2_with (go_at_call 32; refine HCK.out.mono ?_; (rintro e w1 ⟨rfl, hm1⟩); have HD1 := Lib.hid (HS.out.next hm1 (fun _ f => f.elim)); obtain ⟨r0, r1, r2, r3, f0, f1, f2, f3, zr⟩ := HD1.out.retf; obtain ⟨b0, b1, b2, b3, b4, zb⟩ := HD1.out.boxf; clear hm1; have g0 := HD1.out.mod.cell g0; have zg : g < w1.heap.size := Nat.lt_of_lt_of_le zg HD1.out.mod.size; have la := HP.out.nm.look HD1.out.mod.drew HVB.out; rw [HF.out] at la; simp only [ptrN] at la)
 go_region
 all_goals
   go_wp2
   refine bodyPost_ret (v := .agg #[.int .i64 0, .int .i64 0, .slice none 0 0, .slice none 0 0]) (by simp [results, Tryz.results10, go_sem, r0, r1, r2, r3]) rfl ?_
   exact DoA.stay HP.out ((HD1.out.next ((Mod.refl (fun _ => False) _).drew) (fun _ f => f.elim)).finish _ _ _ _).1 HE.out (Seg.nil _ _ _) (fun b hb => by simp [Value.ownBlock] at hb)
set_option maxRecDepth 100000 in
set_option maxHeartbeats 4000000 in
theorem gdo_2 (g bm : Nat) (ns : List Node) (r : Rqt) (vo : Value) (w : World) (hp : PG w g bm ns) (hL : Good (ns.map Node.x)) (ho : ORd w vo r.ops) (hc : checkR r = 0) (hk : r.kind = 2) (hvb : r.v < 4294967296) (x : Node) (hf : findN ns r.v = some x) :
   Calls Tryz.prog 10 #[.pointer (some ⟨g, 0, none⟩), rqV r vo] w (DoA g bm ns r w) := by
 obtain ⟨kind, ops, v, k, d⟩ := r
 simp only at hk hf hvb
 subst hk
 obtain ⟨K, rfl, hK⟩ : ∃ K : Nat, k = (K : Int) ∧ K ≤ 8 := by
   have h := hc
   rw [checkR_2] at h
   unfold checkO at h
   split at h
   · cases h
   · exact ⟨k.toNat, by omega, by omega⟩
 have HE : Hid (doG (ns.map Node.x) ⟨2, ops, v, (K : Int), d⟩ = (ns.map Node.x, ⟨0, 0, [], withinG (ns.map Node.x) v K⟩)) := Lib.hid (by unfold doG; rw [if_neg (by simpa using hc), findN_map, hf]; simp)
 have HP := Lib.hid hp
 have HVB := Lib.hid hvb
 have HF := Lib.hid hf
 have HHO : Hid (∀ w', Mod (fun _ => False) w w' → Calls Tryz.prog 34 #[.pointer (some ⟨g, 0, none⟩), .int .u32 (v : Int), .int .i64 (K : Int)] w' fun e w'' => ∃ vo, e = .returned vo ∧ SegN w' w'' vo (withinG (ns.map Node.x) v K)) := Lib.hid (fun w' m => hops_any g bm ns v K w' (hp.keep m) hL (by
   obtain ⟨h1, h2⟩ := findN_mem hf
   exact ⟨x.x, List.mem_map_of_mem h1, h2⟩) hK)
 have g0 := cell_of_row hp.cell 0
 have zg := lt_of_block hp.cell
 simp at g0
 have HO := Lib.hid ho
 obtain ⟨a, c, rfl, -⟩ := ho.row.shape
 obtain ⟨n, hn⟩ : ∃ n, n = ops.length := ⟨_, rfl⟩
 simp only [rqV, ← hn] at HO ⊢
 have HS := Lib.hid (DoAt.start w (.int .u8 2) (.slice a n c) (.int .u32 (v : Int)) (.int .i64 (K : Int)) (.int .i64 d))
 have HCK := Lib.hid (gcheck_any ⟨2, ops, v, (K : Int), d⟩ (.slice a n c) _ (HO.out.keep HS.out.mod))
 simp only [rqV] at HCK
 rw [hc] at HCK
 clear hn ho hc hp hf hvb hL hK
 go_enter Tryz.func10, Tryz.ntmps10
 go_wp2_with (go_at_call 32; refine HCK.out.mono ?_; (rintro e w1 ⟨rfl, hm1⟩); have HD1 := Lib.hid (HS.out.next hm1 (fun _ f => f.elim)); obtain ⟨r0, r1, r2, r3, f0, f1, f2, f3, zr⟩ := HD1.out.retf; obtain ⟨b0, b1, b2, b3, b4, zb⟩ := HD1.out.boxf; clear hm1; have g0 := HD1.out.mod.cell g0; have zg : g < w1.heap.size := Nat.lt_of_lt_of_le zg HD1.out.mod.size; have la := HP.out.nm.look HD1.out.mod.drew HVB.out; rw [HF.out] at la; simp only [ptrN] at la)
 go_region
 all_goals
   have HD2 := Lib.hid (HD1.out.next ((Mod.refl (fun _ => False) w1).drew) (fun _ f => f.elim))
   go_wp2_with (go_at_call 34; refine (HHO.out _ HD2.out.mod).mono ?_; (rintro e w3 ⟨vo, rfl, hs3⟩); have HS3 := Lib.hid hs3; have HD3 := Lib.hid (HD2.out.next hs3.mod (fun _ f => f.elim)); clear r0 r1 r2 r3 f0 f1 f2 f3 zr; obtain ⟨r0, r1, r2, r3, f0, f1, f2, f3, zr⟩ := HD3.out.retf; (obtain ⟨a3, c3, n3, rfl⟩ : ∃ a c n, vo = .slice a n c := (by obtain ⟨a, c, e, _⟩ := hs3.seg.shape; exact ⟨_, _, _, e⟩)); clear hs3)
   refine bodyPost_ret (v := .agg #[.int .i64 0, .int .i64 0, .slice none 0 0, .slice a3 n3 c3]) (by simp [results, Tryz.results10, go_sem, r0, r1, r2, r3]) rfl ?_
   exact DoA.stay HP.out (HD3.out.finish _ _ _ _).1 HE.out (HD3.out.list _ _ _ _ HS3.out.seg (by decide)) (fun b hb => Nat.le_trans HD2.out.mod.size (HS3.out.own b hb))
set_option maxRecDepth 100000 in
set_option maxHeartbeats 4000000 in
theorem gdo_1 (g bm : Nat) (ns : List Node) (r : Rqt) (vo : Value) (w : World) (hp : PG w g bm ns) (hL : Fair (ns.map Node.x)) (ho : ORd w vo r.ops) (hc : checkR r = 0) (hk : r.kind = 1) (hg : ErrT w) :
   Calls Tryz.prog 10 #[.pointer (some ⟨g, 0, none⟩), rqV r vo] w (DoA g bm ns r w) := by
 obtain ⟨kind, ops, v, k, d⟩ := r
 simp only at hk
 subst hk
 have HOK := Lib.hid (checkR_tx hc rfl)
 have HDF : Hid (okRun (ns.map Node.x) ops = none → doG (ns.map Node.x) ⟨1, ops, v, k, d⟩ = (ns.map Node.x, ⟨(failG (ns.map Node.x) 0 ops).1, (failG (ns.map Node.x) 0 ops).2, [], []⟩)) := Lib.hid (fun h => by unfold doG; rw [if_neg (by simpa using hc)]; simp only [if_true]; rw [h])
 have HDR : Hid (∀ p, okRun (ns.map Node.x) ops = some p → doG (ns.map Node.x) ⟨1, ops, v, k, d⟩ = (p.1, ⟨0, 0, p.2, []⟩)) := Lib.hid (fun p h => by unfold doG; rw [if_neg (by simpa using hc)]; simp only [if_true]; rw [h])
 have HP := Lib.hid hp
 have g0 := cell_of_row hp.cell 0
 have zg := lt_of_block hp.cell
 simp at g0
 have HO := Lib.hid ho
 obtain ⟨a, c, rfl, -⟩ := ho.row.shape
 obtain ⟨n, hn⟩ : ∃ n, n = ops.length := ⟨_, rfl⟩
 simp only [rqV, ← hn] at HO ⊢
 have HS := Lib.hid (DoAt.start w (.int .u8 1) (.slice a n c) (.int .u32 (v : Int)) (.int .i64 k) (.int .i64 d))
 have HCK := Lib.hid (gcheck_any ⟨1, ops, v, k, d⟩ (.slice a n c) _ (HO.out.keep HS.out.mod))
 simp only [rqV] at HCK
 rw [hc] at HCK
 have HTR : Hid (∀ w', Mod (fun _ => False) w w' → Calls Tryz.prog 33 #[.pointer (some ⟨g, 0, none⟩), .slice a n c] w' (TransP g bm ns ops w')) := Lib.hid (fun w' m => transact_any ops _ g bm ns w' (hp.keep m) hL (HO.out.keep m) HOK.out.1 HOK.out.2.2 (hg.keep m (fun f => f)))
 clear hn ho hc hp hL hg
 go_enter Tryz.func10, Tryz.ntmps10
 go_wp2_with (first
   | (go_at_call 33; refine (HTR.out _ HD1.out.mod).mono ?_; (rintro e w3 ⟨L3, ns3, ez, pos3, vals3, vv3, rfl, ht3, hs3, ho3, hpt3, hq3⟩); have HT3 := Lib.hid ht3; have HS3 := Lib.hid hs3; have HQ3 := Lib.hid hq3; have HN3 := Lib.hid ho3; have HPT3 := Lib.hid hpt3; have hrb := (HP.out.keep HD1.out.mod).nm.box ht3.mod HD1.out.ret; have HRB := Lib.hid hrb; clear r0 r1 r2 r3 f0 f1 f2 f3 zr; have r0 := cell_of_row hrb 0; have r1 := cell_of_row hrb 1; have r2 := cell_of_row hrb 2; have r3 := cell_of_row hrb 3; have f0 := free_of_row hrb 0; have f1 := free_of_row hrb 1; have f2 := free_of_row hrb 2; have f3 := free_of_row hrb 3; have zr := lt_of_block hrb; simp at r0 r1 r2 r3; (obtain ⟨a3, c3, n3, rfl⟩ : ∃ a c n, vv3 = .slice a n c := (by obtain ⟨a, c, e, _⟩ := hs3.shape; exact ⟨_, _, _, e⟩)); clear ht3 hs3 ho3 hpt3 hq3 hrb)
   | (go_at_call 32; refine HCK.out.mono ?_; (rintro e w1 ⟨rfl, hm1⟩); have HD1 := Lib.hid (HS.out.next hm1 (fun _ f => f.elim)); obtain ⟨r0, r1, r2, r3, f0, f1, f2, f3, zr⟩ := HD1.out.retf; obtain ⟨b0, b1, b2, b3, b4, zb⟩ := HD1.out.boxf; clear hm1))
 refine bodyPost_ret (v := .agg #[.int .i64 (ez : Int), .int .i64 (pos3 : Int), .slice a3 n3 c3, .slice none 0 0]) (by simp [results, Tryz.results10, go_sem, r0, r1, r2, r3]) rfl ?_
 obtain ⟨ht, m⟩ := ret_turned (HT3.out.keep HD1.out.mod (Mod.refl _ _)) HRB.out (Nat.le_succ _) (.int .i64 (ez : Int)) (.int .i64 (pos3 : Int)) (.slice a3 n3 c3) (.slice none 0 0)
 have hs := HS3.out.mod m (HS3.out.off_box HRB.out (by decide))
 rcases HQ3.out with ⟨h1, h2, h3⟩ | ⟨h1, h2, h3, h4⟩
 · subst h2 h3
   have he := HDR.out _ h1
   refine ⟨.slice a3 n3 c3, .slice none 0 0, ns3, by rw [he], by rw [he]; exact ht, by rw [he]; exact hs, by rw [he]; exact Seg.nil _ _ _, fun b hb => Nat.le_trans HD1.out.mod.size (HN3.out b hb), fun b hb => by simp [Value.ownBlock] at hb, HPT3.out.mod m (HS3.out.off_box HRB.out (by decide))⟩
 · subst h2 h3
   have he := HDF.out h1
   rw [h4] at he
   refine ⟨.slice a3 n3 c3, .slice none 0 0, ns3, by rw [he], by rw [he]; exact ht, by rw [he]; exact hs, by rw [he]; exact Seg.nil _ _ _, fun b hb => Nat.le_trans HD1.out.mod.size (HN3.out b hb), fun b hb => by simp [Value.ownBlock] at hb, HPT3.out.mod m (HS3.out.off_box HRB.out (by decide))⟩
theorem gdo_any (g bm : Nat) (ns : List Node) (r : Rqt) (vo : Value) (w : World) (hp : PG w g bm ns) (hL : Good (ns.map Node.x)) (ho : ORd w vo r.ops) (hvb : r.v < 4294967296) (hg : ErrT w) :
   Calls Tryz.prog 10 #[.pointer (some ⟨g, 0, none⟩), rqV r vo] w (DoA g bm ns r w) := by
 by_cases hc : checkR r = 0
 · by_cases h1 : r.kind = 1
   · exact gdo_1 g bm ns r vo w hp hL.fair ho hc h1 hg
   · cases hf : findN ns r.v with
     | none => exact gdo_none g bm ns r vo w hp ho hc h1 hvb hf
     | some x =>
       by_cases h2 : r.kind = 2
       · exact gdo_2 g bm ns r vo w hp hL ho hc h2 hvb x hf
       · have h3 : r.kind = 3 := by
           apply Classical.byContradiction
           intro h3
           apply absurd hc
           unfold checkR
           rw [if_pos (by omega)]
           omega
         exact gdo_3 g bm ns r vo w hp ho hc h3 hvb x hf
 · refine (gdo_bad _ r vo w ho hc).mono ?_
   rintro e w' ⟨rfl, m⟩
   exact DoA.stay hp m (by unfold doG; rw [if_pos hc]) (Seg.nil _ _ _) (fun b hb => by simp [Value.ownBlock] at hb)
open Go.RowKit
theorem infoOp : (Tryz.prog.info? 82).map (fun i => (i.zero, i.size, i.bytes)) = some (some (.agg #[.int .u8 0, .int .u32 0, .int .u32 0, .int .u8 0, .int .u8 0, .int .i64 0, zval]), 7, 48) := by kernel_rfl
theorem fresh_segG {w w2 : World} {t : TypeId} {size : Nat} {v : Value} {n n0 : Nat} {xs : List Value} (hn : w.heap.size = n0)
   (hs : Seg w2 t size v (0 + n) ([] ++ xs)) (hg : (w.alloc (.cells #[] t)).grownBy w2 (Value.ownBlock (.slice (some ⟨n0, 0, none⟩) 0 0)))
   (ho : v.ownBlock = Value.ownBlock (.slice (some ⟨n0, 0, none⟩) 0 0) ∨ v.ownBlock = some (w.alloc (.cells #[] t)).heap.size) : Seg w2 t size v n xs ∧ Mod (fun _ => False) w w2 ∧ ∀ b, v.ownBlock = some b → n0 ≤ b := by
 subst hn
 refine ⟨by simpa using hs, ((Mod.refl _ w).alloc _).grown hg (fun b hb hlt => ?_), fun b hb => ?_⟩
 · simp [Value.ownBlock] at hb; omega
 · rcases ho with e | e
   · rw [e] at hb; simp [Value.ownBlock] at hb; omega
   · rw [e] at hb; simp at hb; omega
theorem empty7 (w : World) (t : TypeId) {n0 : Nat} (hn : w.heap.size = n0) : Seg (w.alloc (.cells #[] t)) t 7 (.slice (some ⟨n0, 0, none⟩) 0 0) 0 [] := by
 subst hn
 have := Seg.lit (e := t) (size := 7) w #[] 0 rfl (by decide) (by simp)
 exact this
theorem ocells_ones (l : List Opr) : ∀ u ∈ ocells l, u.oneCell' = true := by
 intro u hu
 unfold ocells at hu
 obtain ⟨x, _, hx⟩ := List.mem_flatMap.1 hu
 simp [Opr.cells, Val.cells] at hx
 rcases hx with rfl | rfl | rfl | rfl | rfl | rfl | rfl <;> rfl
set_option maxRecDepth 100000 in
set_option maxHeartbeats 2000000 in
theorem twinreq_new (r : Rqt) (vo : Value) (w : World) (ho : ORd w vo r.ops) (hn : r.ops.length * 48 ≤ 140737488355328) :
   Calls Tryz.prog 11 #[rqV r vo] w fun e w' => ∃ vo', e = .returned (rqV r vo') ∧ Mod (fun _ => False) w w' ∧ Seg w' 82 7 vo' r.ops.length (ocells r.ops) ∧ ∀ b, vo'.ownBlock = some b → w.heap.size ≤ b := by
 obtain ⟨kind, ops, v, k, d⟩ := r
 have HF := Lib.hid ho.fits
 have HR := Lib.hid ho.row
 obtain ⟨a, c, rfl, -⟩ := ho.row.shape
 obtain ⟨n, hnn⟩ : ∃ n, n = ops.length := ⟨_, rfl⟩
 have HN := Lib.hid hnn
 simp only [rqV, ← hnn] at HR hn ⊢
 have HB := Lib.hid hn
 obtain ⟨i0, hi, hz0, hz1, hz2⟩ := info_parts infoOp
 have HI : Hid (Tryz.prog.info? 82 = some i0 ∧ i0.zero = some (.agg #[.int .u8 0, .int .u32 0, .int .u32 0, .int .u8 0, .int .u8 0, .int .i64 0, zval]) ∧ i0.size = 7 ∧ i0.bytes = 48) := ⟨hi, hz0, hz1, hz2⟩
 clear hi hz0 hz1 hz2 ho hnn hn
 go_enter Tryz.func11, Tryz.ntmps11
 go_upto_region 1 with fail
 obtain ⟨W1, hW1⟩ : ∃ W1, W1 = (w.alloc (.cells #[.int .u8 (kind : Int), .slice a n c, .int .u32 (v : Int), .int .i64 k, .int .i64 d] 29)).alloc (.cells #[.int .u8 0, .slice none 0 0, .int .u32 0, .int .i64 0, .int .i64 0] 29) := ⟨_, rfl⟩
 have hm1 : Mod (fun _ => False) w W1 := by rw [hW1]; exact ((Mod.refl _ _).alloc _).alloc _
 have hb1 : W1.heap[w.heap.size]? = some (.cells #[.int .u8 (kind : Int), .slice a n c, .int .u32 (v : Int), .int .i64 k, .int .i64 d] 29 (0, 0)) := by rw [hW1]; exact heap_alloc_old (heap_alloc_new' w _)
 have hr1 : W1.heap[w.heap.size + 1]? = some (.cells #[.int .u8 0, .slice none 0 0, .int .u32 0, .int .i64 0, .int .i64 0] 29 (0, 0)) := by
   rw [hW1]
   have h := heap_alloc_new' (w.alloc (.cells #[.int .u8 (kind : Int), .slice a n c, .int .u32 (v : Int), .int .i64 k, .int .i64 d] 29)) (.cells #[.int .u8 0, .slice none 0 0, .int .u32 0, .int .i64 0, .int .i64 0] 29)
   simpa using h
 have hz1 : W1.heap.size = w.heap.size + 1 + 1 := by rw [hW1]; simp
 rw [← hW1]
 have HM1 := Lib.hid hm1
 have HB1 := Lib.hid hb1
 have HT1 := Lib.hid hr1
 have HE := Lib.hid (empty7 W1 82 rfl)
 have HR0 := Lib.hid ((HR.out.keep hm1).keep ((Mod.refl _ _).alloc (.cells #[] 82)))
 have HZ := Lib.hid hz1
 have b1 := cell_of_row hb1 1
 have zb := lt_of_block hb1
 simp at b1
 clear hW1 hm1 hb1 hr1 hz1
 go_wp2_with (at_builtin; refine wpList_append_seg rfl (.tmp 3) (.tmp 5) 23 rfl i0 _ 7 48 Tryz.underlying23 HI.out.1 HI.out.2.1 HI.out.2.2.1 HI.out.2.2.2 rfl (by decide) rfl HE.out _ n _ rfl (HR0.out.src (ocells_ones _)) (by have := HB.out; unfold maxLen; omega) (by have := HB.out; omega) ?_; intro v3 w3 hs3 hg3 ho3; (obtain ⟨hsg, hmd, hown⟩ := fresh_segG rfl hs3 hg3 ho3); (obtain ⟨a3, c3, rfl, -⟩ := hsg.shape); have HS3 := Lib.hid (And.intro hsg (And.intro hmd hown)); have hb3 := hmd.heap HB1.out (fun f => f); have hr3 := hmd.heap HT1.out (fun f => f); have y0 := cell_of_row hb3 0; have y1 := cell_of_row hb3 1; have y2 := cell_of_row hb3 2; have y3 := cell_of_row hb3 3; have y4 := cell_of_row hb3 4; have y1f := free_of_row hb3 1; have q0 := cell_of_row hr3 0; have q1 := cell_of_row hr3 1; have q2 := cell_of_row hr3 2; have q3 := cell_of_row hr3 3; have q4 := cell_of_row hr3 4; have q0f := free_of_row hr3 0; have q1f := free_of_row hr3 1; have q2f := free_of_row hr3 2; have q3f := free_of_row hr3 3; have q4f := free_of_row hr3 4; have z1 := lt_of_block hb3; have z2 := lt_of_block hr3; simp at y0 y1 y2 y3 y4 q0 q1 q2 q3 q4; clear hs3 hg3 ho3 hsg hmd hown hb3 hr3)
 refine bodyPost_ret (v := .agg #[.int .u8 (kind : Int), .slice a3 n c3, .int .u32 (v : Int), .int .i64 k, .int .i64 d]) (by simp [results, Tryz.results11, go_sem, q0, q1, q2, q3, q4]) rfl ?_
 have m : Mod (fun k => k = w.heap.size ∨ k = w.heap.size + 1) w3 _ := ((((((Mod.refl (fun k => k = w.heap.size ∨ k = w.heap.size + 1) w3).setCell (p := ⟨w.heap.size, 1, none⟩) (fun _ => .inl rfl) (.slice a3 n c3)).setCell (p := ⟨w.heap.size + 1, 0, none⟩) (fun _ => .inr rfl) (.int .u8 (kind : Int))).setCell (p := ⟨w.heap.size + 1, 1, none⟩) (fun _ => .inr rfl) (.slice a3 n c3)).setCell (p := ⟨w.heap.size + 1, 2, none⟩) (fun _ => .inr rfl) (.int .u32 (v : Int))).setCell (p := ⟨w.heap.size + 1, 3, none⟩) (fun _ => .inr rfl) (.int .i64 k)).setCell (p := ⟨w.heap.size + 1, 4, none⟩) (fun _ => .inr rfl) (.int .i64 d)
 have hs := HS3.out.1.mod m (fun b hb e => by have := HS3.out.2.2 b hb; have := HZ.out; omega)
 refine ⟨.slice a3 n c3, rfl, (HM1.out.trans HS3.out.2.1).trans' m (fun i hi e => by omega), ?_, fun b hb => Nat.le_trans HM1.out.size (HS3.out.2.2 b hb)⟩
 rw [HN.out] at hs ⊢
 exact hs
theorem twinreq_any (r : Rqt) (vo : Value) (w : World) (ho : ORd w vo r.ops) (hn : r.ops.length * 48 ≤ 140737488355328) :
   Calls Tryz.prog 11 #[rqV r vo] w fun e w' => ∃ vo', e = .returned (rqV r vo') ∧ Mod (fun _ => False) w w' ∧ ORd w' vo' r.ops :=
 (twinreq_new r vo w ho hn).mono (fun _ _ ⟨vo', he, hm, hs, _⟩ => ⟨vo', he, hm, hs.rdS, ho.fits⟩)
open Go.RowKit Go.Maps
section
variable {w wx wy : World} {g1 h1 n1 g2 h2 n2 : Nat} {H1 H2 H' : Names} {m m' : Nat}
end
section
variable {w wx wy : World} {o : Array Value} {g1 h1 n1 g2 h2 n2 : Nat} {H1 H2 H' : Names} {m m' : Nat}
end
def gone (id : Nat) : Vtx := ⟨id, false, [], []⟩
open Go.RowKit Go.ChangeShapes Go.WideShapes Go.ChangeAt
structure Qs where
 r : Rqt
 vo : Value
def Qs.cells (q : Qs) : List Value := [.int .u8 (q.r.kind : Int), q.vo, .int .u32 (q.r.v : Int), .int .i64 q.r.k, .int .i64 q.r.dest]
structure Qs.Small (q : Qs) : Prop where
 fits : q.r.Fits
 size : q.r.ops.length * 48 ≤ 140737488355328
structure QRd (w : World) (v : Value) (l : List Qs) : Prop where
 row : RdS w 5 v l.length (l.flatMap Qs.cells)
 each : ∀ q ∈ l, ORd w q.vo q.r.ops
 small : ∀ q ∈ l, q.Small
theorem QRd.keep {w w' : World} {v : Value} {l : List Qs} (h : QRd w v l) (m : Mod (fun _ => False) w w') : QRd w' v l := ⟨h.row.keep m, fun q hq => (h.each q hq).keep m, h.small⟩
theorem QRd.ent {w : World} {v : Value} {l : List Qs} (h : QRd w v l) {i : Nat} {x : Qs} (hi : l[i]? = some x) {a : Option Addr} {n c : Nat} (e : v = .slice a n c) :
   ∃ b off, a = some ⟨b, off, none⟩ ∧ b < w.heap.size ∧ w.cell? ⟨b, off + i * 5, none⟩ = some (.int .u8 (x.r.kind : Int)) ∧ w.cell? ⟨b, off + i * 5 + 1, none⟩ = some x.vo ∧ w.cell? ⟨b, off + i * 5 + 2, none⟩ = some (.int .u32 (x.r.v : Int)) ∧ w.cell? ⟨b, off + i * 5 + 3, none⟩ = some (.int .i64 x.r.k) ∧ w.cell? ⟨b, off + i * 5 + 4, none⟩ = some (.int .i64 x.r.dest) := by
 have g := fun j hj => flat_get Qs.cells (fun _ => rfl) l i j x hi (show j < 5 from hj)
 obtain ⟨a', c', e', -⟩ := h.row.shape
 rw [e] at e'
 injection e' with e1 e2 e3
 rw [e2] at e
 have k : ∀ j u, j < 5 → x.cells[j]? = some u → ∃ b off, a = some ⟨b, off, none⟩ ∧ b < w.heap.size ∧ w.cell? ⟨b, off + (i * 5 + j), none⟩ = some u := fun j u hj hu => h.row.cell a c e (i * 5 + j) u (by rw [g j hj]; exact hu)
 obtain ⟨b, off, ea, hb, h0⟩ := k 0 _ (by omega) rfl
 have r : ∀ j u, j < 5 → x.cells[j]? = some u → w.cell? ⟨b, off + (i * 5 + j), none⟩ = some u := fun j u hj hu => by
   obtain ⟨b1, off1, ea1, _, h1⟩ := k j u hj hu
   rw [ea] at ea1
   injection ea1 with e1; injection e1 with e1 e2
   subst e1 e2
   exact h1
 refine ⟨b, off, ea, hb, h0, ?_, ?_, ?_, ?_⟩
 · rw [Nat.add_assoc]; exact r 1 _ (by omega) rfl
 · rw [Nat.add_assoc]; exact r 2 _ (by omega) rfl
 · rw [Nat.add_assoc]; exact r 3 _ (by omega) rfl
 · rw [Nat.add_assoc]; exact r 4 _ (by omega) rfl
instance : Inhabited Opr := ⟨⟨0, 0, 0, 0, noVal⟩⟩
instance : Inhabited Qs := ⟨⟨⟨0, [], 0, 0, 0⟩, .slice none 0 0⟩⟩
section
variable {H : Type} {enc : TypeId × Value → H} {W : World} {base : Nat} {v : Value} {d : DataW H} {p : List MemPlace}
set_option maxRecDepth 100000 in
theorem in_op (n : Nat) (cs : List Value) (y : DataW H × List MemPlace) (hl : cs.length = 7) (h : DataW.trod enc Tryz.prog W 0 (fun _ => true) true n 82 cs = some y) (hw : okW 82 y.1) : ∃ x : Opr, cs = x.cells ∧ x.Fits := by
 obtain ⟨xs, n', _, _, _, hlen, hf⟩ := DataW.trod_struct Tryz.underlying82 h
 match cs, hl with
 | [c0, c1, c2, c3, c4, c5, c6], _ =>
   have c8 : Tryz.prog.cellsOf 5 = 1 := by kernel_rfl
   have cu : Tryz.prog.cellsOf 27 = 1 := by kernel_rfl
   have cv : Tryz.prog.cellsOf 68 = 3 := by kernel_rfl
   match xs, hlen with
   | [y0, y1, y2, y3, y4], _ =>
     have h0 : DataW.trod enc Tryz.prog W 0 (fun _ => true) true n' 5 ((List.drop 0 [c0, c1, c2, c3, c4, c5, c6]).take (Tryz.prog.cellsOf 5)) = some y0 := hf 0 _ rfl
     have h1 : DataW.trod enc Tryz.prog W 0 (fun _ => true) true n' 27 ((List.drop 1 [c0, c1, c2, c3, c4, c5, c6]).take (Tryz.prog.cellsOf 27)) = some y1 := hf 1 _ rfl
     have h2 : DataW.trod enc Tryz.prog W 0 (fun _ => true) true n' 27 ((List.drop 2 [c0, c1, c2, c3, c4, c5, c6]).take (Tryz.prog.cellsOf 27)) = some y2 := hf 2 _ rfl
     have h3 : DataW.trod enc Tryz.prog W 0 (fun _ => true) true n' 5 ((List.drop 3 [c0, c1, c2, c3, c4, c5, c6]).take (Tryz.prog.cellsOf 5)) = some y3 := hf 3 _ rfl
     have h4 : DataW.trod enc Tryz.prog W 0 (fun _ => true) true n' 68 ((List.drop 4 [c0, c1, c2, c3, c4, c5, c6]).take (Tryz.prog.cellsOf 68)) = some y4 := hf 4 _ rfl
     simp only [c8, cu, cv, List.drop_zero, List.take_succ_cons, List.take_zero, List.drop_succ_cons] at h0 h1 h2 h3 h4
     obtain ⟨a0, e0, _, w0⟩ := DataW.trod_int Tryz.underlying5 h0
     obtain ⟨a1, e1, _, w1⟩ := DataW.trod_int Tryz.underlying27 h1
     obtain ⟨a2, e2, _, w2⟩ := DataW.trod_int Tryz.underlying27 h2
     obtain ⟨a3, e3, _, w3⟩ := DataW.trod_int Tryz.underlying5 h3
     obtain ⟨v, e4, hv⟩ := in_val n' _ _ rfl h4
     simp only [List.cons.injEq, and_true] at e0 e1 e2 e3 e4
     have b0 := bounds_u8 w0
     have b1 := bounds_u32 w1
     have b2 := bounds_u32 w2
     have b3 := bounds_u8 w3
     obtain ⟨k0, rfl⟩ := Int.eq_ofNat_of_zero_le b0.1
     obtain ⟨k1, rfl⟩ := Int.eq_ofNat_of_zero_le b1.1
     obtain ⟨k2, rfl⟩ := Int.eq_ofNat_of_zero_le b2.1
     obtain ⟨k3, rfl⟩ := Int.eq_ofNat_of_zero_le b3.1
     obtain ⟨rfl, rfl, rfl⟩ := e4
     subst e0 e1 e2 e3
     exact ⟨⟨k0, k1, k2, k3, v⟩, rfl, by simp only; omega, by simp only; omega, by simp only; omega, by simp only; omega, hv⟩
set_option maxRecDepth 100000 in
theorem in_req (n : Nat) (cs : List Value) (y : DataW H × List MemPlace) (hl : cs.length = 5) (h : DataW.trod enc Tryz.prog W 0 (fun _ => true) true n 29 cs = some y) (hw : okW 29 y.1) : ∃ q : Qs, cs = q.cells ∧ ORd W q.vo q.r.ops ∧ q.Small := by
 obtain ⟨xs, n', _, hx, _, hlen, hf⟩ := DataW.trod_struct Tryz.underlying29 h
 match cs, hl with
 | [c0, c1, c2, c3, c4], _ =>
   have c8 : Tryz.prog.cellsOf 5 = 1 := by kernel_rfl
   have co : Tryz.prog.cellsOf 23 = 1 := by kernel_rfl
   have cu : Tryz.prog.cellsOf 27 = 1 := by kernel_rfl
   have ci : Tryz.prog.cellsOf 3 = 1 := by kernel_rfl
   match xs, hlen with
   | [y0, y1, y2, y3, y4], _ =>
     have h0 : DataW.trod enc Tryz.prog W 0 (fun _ => true) true n' 5 ((List.drop 0 [c0, c1, c2, c3, c4]).take (Tryz.prog.cellsOf 5)) = some y0 := hf 0 _ rfl
     have h1 : DataW.trod enc Tryz.prog W 0 (fun _ => true) true n' 23 ((List.drop 1 [c0, c1, c2, c3, c4]).take (Tryz.prog.cellsOf 23)) = some y1 := hf 1 _ rfl
     have h2 : DataW.trod enc Tryz.prog W 0 (fun _ => true) true n' 27 ((List.drop 2 [c0, c1, c2, c3, c4]).take (Tryz.prog.cellsOf 27)) = some y2 := hf 2 _ rfl
     have h3 : DataW.trod enc Tryz.prog W 0 (fun _ => true) true n' 3 ((List.drop 3 [c0, c1, c2, c3, c4]).take (Tryz.prog.cellsOf 3)) = some y3 := hf 3 _ rfl
     have h4 : DataW.trod enc Tryz.prog W 0 (fun _ => true) true n' 3 ((List.drop 4 [c0, c1, c2, c3, c4]).take (Tryz.prog.cellsOf 3)) = some y4 := hf 4 _ rfl
     simp only [c8, co, cu, ci, List.drop_zero, List.take_succ_cons, List.take_zero, List.drop_succ_cons] at h0 h1 h2 h3 h4
     have hy : y.1 = .agg ([y0, y1, y2, y3, y4].map (·.1)) := by rw [hx]
     rw [hy] at hw
     have w1 : okW 23 y1.1 := okW_part Tryz.underlying29 hw (j := 1) rfl rfl
     obtain ⟨a0, e0, _, u0⟩ := DataW.trod_int Tryz.underlying5 h0
     obtain ⟨a2, e2, _, u2⟩ := DataW.trod_int Tryz.underlying27 h2
     obtain ⟨a3, e3, _, u3⟩ := DataW.trod_int Tryz.underlying3 h3
     obtain ⟨a4, e4, _, u4⟩ := DataW.trod_int Tryz.underlying3 h4
     obtain ⟨os, ro, go, zo⟩ := in_slice Tryz.underlying23 (size := 7) (by kernel_rfl) (by omega) Opr.cells opr_cells Opr.Fits in_op h1 w1
     simp only [List.cons.injEq, and_true] at e0 e2 e3 e4
     have b0 := bounds_u8 u0
     have b2 := bounds_u32 u2
     have b3 := bounds_i64 u3
     have b4 := bounds_i64 u4
     have bo : Tryz.prog.bytesOf 82 = 48 := by kernel_rfl
     rw [bo] at zo
     have zo' : os.length * 48 ≤ 140737488355328 := Nat.le_trans zo (by decide)
     obtain ⟨k0, rfl⟩ := Int.eq_ofNat_of_zero_le b0.1
     obtain ⟨k2, rfl⟩ := Int.eq_ofNat_of_zero_le b2.1
     subst e0 e2 e3 e4
     exact ⟨⟨⟨k0, os, k2, a3, a4⟩, c1⟩, rfl, ⟨ro, go⟩, ⟨⟨by simp only; omega, by simp only; omega, by simp only; omega, by simp only; omega⟩, zo'⟩⟩
def InReqs (W : World) (v : Value) : Prop := ∃ l, QRd W v l
set_option maxRecDepth 100000 in
theorem in_reqs (hv : Value.okWide Tryz.prog W .any base 22 v) (h : DataW.Trod enc Tryz.prog W 0 (fun _ => true) true 22 v d p) (hs : okW 22 d) : InReqs W v := by
 obtain ⟨a0, len0, cap0, rfl⟩ := okWide_slice Tryz.underlying22 hv
 obtain ⟨fuel, hf⟩ := h
 obtain ⟨l, rl, gl, _⟩ := in_slice Tryz.underlying22 (size := 5) (by kernel_rfl) (by omega) Qs.cells (fun _ => rfl) (fun q => ORd W q.vo q.r.ops ∧ q.Small) in_req (u := .slice a0 len0 cap0) (y := (d, p)) (by simpa [Value.cells] using hf) hs
 exact ⟨l, rl, fun q hq => (gl q hq).1, fun q hq => (gl q hq).2⟩
end
theorem VOwn.off_seg {w : World} {s : Vs} (h : VOwn w s) {v : Value} {size n : Nat} {xs : List Value} (hs : Seg w 47 size v n xs) : VOff (fun k => v.ownBlock = some k) s := by
 have key : ∀ b, v.ownBlock = some b → ∃ cur, w.heap[b]? = some (.cells cur 47 (0, 0)) := by
   intro b hb
   rcases hs.2.2 with ⟨rfl, _⟩ | ⟨g, off, cap, cur, rfl, hg, _⟩
   · simp [Value.ownBlock] at hb
   · simp [Value.ownBlock] at hb; subst hb; exact ⟨_, hg⟩
 have two : ∀ {t : TypeId} {u : Value} {m : Nat} {ys : List Value}, Seg w t 4 u m ys → t ≠ 47 → ∀ b, u.ownBlock = some b → ¬ v.ownBlock = some b := by
   intro t u m ys hu ht b hb e
   obtain ⟨cur, hc⟩ := key b e
   rcases hu.2.2 with ⟨rfl, _⟩ | ⟨g, off, cap, cur2, rfl, hg, _⟩
   · simp [Value.ownBlock] at hb
   · simp [Value.ownBlock] at hb
     subst hb
     rw [hc] at hg
     injection hg with hg
     injection hg with _ h2
     exact ht h2.symm
 exact ⟨two h.props (by decide), two h.halves (by decide)⟩
theorem VOwn.off_box {w : World} {s : Vs} (h : VOwn w s) {g : Nat} {cs : Array Value} {t : TypeId} (hg : w.heap[g]? = some (.cells cs t (0, 0))) (h1 : 106 ≠ t) (h2 : 109 ≠ t) : VOff (fun k => k = g) s := ⟨h.props.off_box hg h1, h.halves.off_box hg h2⟩
theorem LOwn.off_box {w : World} {v : Value} {l : List Vs} (h : LOwn w v l) {g : Nat} {cs : Array Value} {t : TypeId} (hg : w.heap[g]? = some (.cells cs t (0, 0))) (h0 : 47 ≠ t) (h1 : 106 ≠ t) (h2 : 109 ≠ t) : LOff (fun k => k = g) v l := ⟨h.row.off_box hg h0, fun s hs => (h.each s hs).off_box hg h1 h2⟩
theorem own_snoc {w wy : World} {v v' : Value} {l : List Vs} {s : Vs} (h : LOwn w v l) (hv : VOwn w s) (hs : Seg wy 47 4 v' (l.length + 1) (vcells l ++ s.cells)) (hg : w.grownBy wy v.ownBlock) : LOwn wy v' (l ++ [s]) := by
 have hm := mod_grown hg
 have he : ∀ t ∈ l ++ [s], VOwn wy t := fun t ht => by
   rcases List.mem_append.1 ht with ht | ht
   · exact (h.each t ht).mod hm (h.apart t ht)
   · rw [List.mem_singleton] at ht; subst ht; exact hv.mod hm (hv.off_seg h.row)
 have hs' : Seg wy 47 4 v' (l ++ [s]).length (vcells (l ++ [s])) := by rw [vcells_snoc, List.length_append]; exact hs
 exact ⟨hs', he, fun t ht => (he t ht).off_seg hs'⟩
end Go.Proofs.YtlpdifinkcjckaaGreatDoor
