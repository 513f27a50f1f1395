import Derived.Test.YtlpdifinkcjckaaGreatDoorMEn34
set_option linter.unusedVariables false
set_option linter.unusedSimpArgs false
namespace Go.Proofs.YtlpdifinkcjckaaGreatDoor
open Go.RowKit Go.Maps
theorem runA_enough {L : Gr} (hL : Fair L) {ops : List Opr} (hc : checkR (txq ops) = 0) : planE (wantV L ops) ops = 0 ∧ runA (wantV L ops) ops = (doG L (txq ops)).2 ∧ runO (wantV L ops) ops = planOut (wantV L ops) ops := by
 have h := enough_E hL hc
 refine ⟨h, ?_, ?_⟩
 · unfold runA; rw [if_pos h, (enough_do hL hc).1]
 · unfold runO; rw [if_pos h]
theorem wantV_len (L : Gr) (ops : List Opr) : (wantV L ops).length = (wantsP ops).length := by unfold wantV; simp
theorem wantV_get {L : Gr} {ops : List Opr} {i : Nat} {x : Wt} (h : (wantsP ops)[i]? = some x) : (wantV L ops)[i]? = some (tellV L x.1) := by unfold wantV; simp [h]
theorem Kept.wrd {w w' : World} (h : Kept w w') {v : Value} {l : List Wt} (hr : WRd w v l) : WRd w' v l := ⟨h.rds hr.row, hr.fits⟩
def toldB (O : List Vtx) (v k : Nat) : Bool := (O.take k).any (fun x => x.id == v)
theorem toldB_succ {O : List Vtx} {v k : Nat} {x : Vtx} (h : O[k]? = some x) : toldB O v (k + 1) = (toldB O v k || x.id == v) := by
 obtain ⟨h1, h2⟩ := List.getElem?_eq_some_iff.1 h
 unfold toldB
 rw [List.take_succ_eq_append_getElem h1, h2, List.any_append]
 simp
theorem toldB_all {O : List Vtx} {v k : Nat} (h : O.length ≤ k) : toldB O v k = true ↔ ∃ x ∈ O, x.id = v := by
 unfold toldB
 rw [List.take_of_length_le h, List.any_eq_true]
 simp
set_option maxRecDepth 100000 in
set_option maxHeartbeats 8000000 in
theorem penough_main (vs vo : Value) (rs : List Qs) (ops : List Opr) (w : World) (hs : QRd w vs rs) (ho : ORd w vo ops) (h48 : ops.length * 48 ≤ 140737488355328) (hg : ErrT w) :
   Calls Tryz.prog 3 #[vs, vo] w fun e w' => e = .returned (.bool true) ∧ Mod (fun _ => False) w w' := by
 have HAW := Lib.hid (pawake_any w hg)
 have HE := Lib.hid hg
 have HRS := Lib.hid hs
 have HB48 := Lib.hid h48
 obtain ⟨as_, cs_, rfl, hcs, hcs2, -⟩ := hs.row.shape
 obtain ⟨n, hn⟩ : ∃ n, n = rs.length := ⟨_, rfl⟩
 rw [← hn] at HRS hcs ⊢
 have HN := Lib.hid hn
 obtain ⟨ao, co, rfl, hco, hco2, -⟩ := ho.row.shape
 obtain ⟨no, hno⟩ : ∃ n, n = ops.length := ⟨_, rfl⟩
 have HNO := Lib.hid hno
 rw [← hno] at ho hco ⊢
 have HO := Lib.hid ho
 have HOP : Hid (∀ w', Mod (fun _ => False) w w' → Calls Tryz.prog 13 #[.slice ao no co] w' fun e w'' => ∃ a c, e = .returned (.slice a no c) ∧ Mod (fun _ => False) w' w'' ∧ ORd w'' (.slice a no c) ops) := Lib.hid (fun w' m => by
   have h := ops18_any ops _ w' (HO.out.keep m) HB48.out
   rw [← HNO.out] at h
   exact h)
 obtain ⟨ck, hck⟩ : ∃ c, c = checkR (txq ops) := ⟨_, rfl⟩
 obtain ⟨ws, hws⟩ : ∃ l, l = wantsR ops := ⟨_, rfl⟩
 obtain ⟨m, hm⟩ : ∃ m, m = ws.length := ⟨_, rfl⟩
 have HCK := Lib.hid hck
 have HWS0 := Lib.hid hws
 have HML := Lib.hid hm
 have HPW : Hid (∀ v w', ORd w' v ops → Calls Tryz.prog 12 #[v] w' fun e w'' => ∃ a c, e = .returned (.tuple #[.slice a m c, .int .i64 (ck : Int)]) ∧ WSeg w' w'' (.slice a m c) ws) := Lib.hid (fun v w' h => (wants_any ops v w' h).mono (by
   rintro e w'' ⟨v, rfl, h⟩
   rw [← hws] at h
   rw [← hck]
   obtain ⟨a, c, rfl, -⟩ := h.seg.shape
   rw [← hm] at h ⊢
   exact ⟨a, c, rfl, h⟩))
 have HM40 : Hid (m ≤ 40) := Lib.hid (by
   rw [hm, hws]
   unfold wantsR
   split
   · rename_i h; exact wants_short (checkR_tx h rfl).1
   · simp)
 obtain ⟨i0, hi, hz0, hz1, hz2⟩ := info_parts infoVtx
 have HI : Hid (Tryz.prog.info? 47 = some i0 ∧ i0.zero = some (.agg #[.int .u32 0, .bool false, .slice none 0 0, .slice none 0 0]) ∧ i0.size = 4 ∧ i0.bytes = 56) := ⟨hi, hz0, hz1, hz2⟩
 clear hi hz0 hz1 hz2 hs ho hn hno h48 hg hck hws hm
 go_enter Tryz.func3, Tryz.ntmps3
 go_wp2_with (first
   | (go_at_call 9; refine (snew_any w w1 HM1.out).mono ?_; (rintro e w2 ⟨rfl, hm2, hst, hz2⟩); have HST0 := Lib.hid hst; clear hm2 hst hz2)
   | (go_at_call 8; refine HAW.out.mono ?_; (rintro e w1 ⟨rfl, hm1⟩); have HM1 := Lib.hid hm1; clear hm1))
 go_loopw [30] (fun i wr => ∃ k : Nat, i = .int .i64 (k : Int) ∧ k ≤ n ∧ ∃ L, GSt w (w1.heap.size + 1) w1.heap.size L wr) (fun i _ => n - (intOf i).toNat)
 case atStart => exact ⟨0, rfl, Nat.zero_le _, _, HST0.out⟩
 case round =>
   obtain ⟨k, rfl, hk, L, hst⟩ := hrel
   have HST := Lib.hid hst
   clear hst HST0
   by_cases hkn : k < n
   · skip
     obtain ⟨q, hq⟩ : ∃ q, rs[k]? = some q := ⟨_, List.getElem?_eq_getElem (by rw [← HN.out]; exact hkn)⟩
     obtain ⟨bl, offl, e0, hbl, r0, r1, r2, r3, r4⟩ := HRS.out.ent hq rfl
     replace r0 := HST.out.mod.cell r0
     replace r1 := HST.out.mod.cell r1
     replace r2 := HST.out.mod.cell r2
     replace r3 := HST.out.mod.cell r3
     replace r4 := HST.out.mod.cell r4
     have zbl : bl < wr.heap.size := Nat.lt_of_lt_of_le hbl HST.out.mod.size
     have HOR := Lib.hid (HRS.out.each q (List.mem_of_getElem? hq))
     have HSM := Lib.hid (HRS.out.small q (List.mem_of_getElem? hq))
     clear hq hbl
     subst e0
     obtain ⟨⟨kind, opq, qv, kk, dd⟩, qo⟩ := q
     obtain ⟨aq, cq, hqe, -⟩ := HOR.out.row.shape
     simp only at hqe HOR r0 r1 r2 r3 r4
     subst hqe
     obtain ⟨nq, hnq⟩ : ∃ n, n = opq.length := ⟨_, rfl⟩
     rw [← hnq] at r1 HOR
     have HMQ : Hid (Mod (fun _ => False) wr (wr.alloc (.cells #[.int .u8 (kind : Int), .slice aq nq cq, .int .u32 (qv : Int), .int .i64 kk, .int .i64 dd] 29))) := Lib.hid ((Mod.refl _ _).alloc _)
     have HTQ : Hid (∀ w', Mod (fun _ => False) wr w' → Calls Tryz.prog 11 #[.agg #[.int .u8 (kind : Int), .slice aq nq cq, .int .u32 (qv : Int), .int .i64 kk, .int .i64 dd]] w' fun e w'' => ∃ a c, e = .returned (.agg #[.int .u8 (kind : Int), .slice a nq c, .int .u32 (qv : Int), .int .i64 kk, .int .i64 dd]) ∧ Mod (fun _ => False) w' w'' ∧ ORd w'' (.slice a nq c) opq) := Lib.hid (fun w' mm => (twinreq_any ⟨kind, opq, qv, kk, dd⟩ (.slice aq nq cq) w' (HOR.out.keep (HST.out.mod.trans mm)) HSM.out.size).mono (by
       rintro e w'' ⟨v, rfl, h1, h2⟩
       obtain ⟨a, c, rfl, -⟩ := h2.row.shape
       simp only at h2
       rw [← hnq] at h2
       simp only [rqV, ← hnq]
       exact ⟨a, c, rfl, h1, h2⟩))
     have HDO : Hid (∀ a c w', Mod (fun _ => False) wr w' → ORd w' (.slice a nq c) opq → Calls Tryz.prog 10 #[.pointer (some ⟨w1.heap.size + 1, 0, none⟩), .agg #[.int .u8 (kind : Int), .slice a nq c, .int .u32 (qv : Int), .int .i64 kk, .int .i64 dd]] w' fun e w'' => ∃ ze za vv vl, e = .returned (.agg #[.int .i64 ze, .int .i64 za, vv, vl]) ∧ ∃ L', GSt w (w1.heap.size + 1) w1.heap.size L' w'') := Lib.hid (fun a c w' mm ho => (sgdo_any (w1.heap.size + 1) w1.heap.size L ⟨kind, opq, qv, kk, dd⟩ (.slice a nq c) w w' (HST.out.keep mm) ho HSM.out.fits.v HE.out).mono (by
       rintro e w'' ⟨vv, vl, rfl, hs⟩
       exact ⟨_, _, vv, vl, rfl, _, hs.st⟩))
     have HSQ := Lib.hid (HST.out.keep HMQ.out)
     clear hnq
     by_cases hlim : k < 50
     · have hlim' : (k : Int) < 50 := by omega
       go_wp2_with (first
         | (go_at_call 10; go_loud (refine (HDO.out _ _ _ HM4.out HO4.out).mono ?_; (rintro e w5 ⟨ze, za, vv, vl, rfl, L5, hst5⟩); have HS5 := Lib.hid hst5; clear hst5))
         | (go_at_call 11; go_loud (refine (HTQ.out _ HMQ.out).mono ?_; (rintro e w4 ⟨a4, c4, rfl, hm4, ho4⟩); have HM4 := Lib.hid (HMQ.out.trans hm4); have HO4 := Lib.hid ho4; clear hm4 ho4)))
       go_roundw
       case rel => exact ⟨k + 1, by go_num, by omega, _, HS5.out⟩
       case measure => simp [intOf]; omega
     · have hlim' : ¬ (k : Int) < 50 := by omega
       go_wp2
       go_roundw
       case rel => exact ⟨k + 1, by go_num, by omega, _, HSQ.out⟩
       case measure => simp [intOf]; omega
   · clear HRS HN
     have hm40 : m ≤ 40 := HM40.out
     by_cases hck0 : ck = 0
     · have HC0 : Hid (checkR (txq ops) = 0) := Lib.hid (by rw [← HCK.out, hck0])
       have HWP : Hid (ws = wantsP ops) := Lib.hid (by rw [HWS0.out]; unfold wantsR; rw [if_pos HC0.out])
       subst hck0
       have HL := Lib.hid HST.out.good.fair
       go_wp2_with (first
         | (go_at_call 12; go_loud (refine (HPW.out _ _ HO2.out).mono ?_; (rintro e w3 ⟨a3, c3, rfl, hws3⟩); have HM3 : Hid (Mod (fun _ => False) wr w3) := Lib.hid (HM2.out.trans hws3.mod); have HWR : Hid (WRd w3 (.slice a3 m c3) ws) := Lib.hid (by have h := hws3.rd; exact h); clear hws3))
         | (go_at_call 13; go_loud (refine (HOP.out _ HST.out.mod).mono ?_; (rintro e w2 ⟨a2, c2, rfl, hm2, ho2⟩); have HM2 := Lib.hid hm2; have HO2 := Lib.hid ho2; clear hm2 ho2)))
       have HG3 := Lib.hid (HST.out.keep HM3.out)
       clear HST HM3
       obtain ⟨W, hW⟩ : ∃ W, W = wantV L ops := ⟨_, rfl⟩
       have HW := Lib.hid hW
       have HWL : Hid (W.length = m) := Lib.hid (by rw [hW, wantV_len, ← HWP.out, HML.out])
       have HWG : Hid (∀ (i : Nat) (x : Wt), ws[i]? = some x → W[i]? = some (tellV L x.1)) := Lib.hid (fun i x hx => by rw [HWP.out] at hx; rw [hW]; exact wantV_get hx)
       clear hW
       go_loopw [55, 10] (fun i u wx => ∃ (j : Nat) (bl : List Vs), i = .int .i64 (j : Int) ∧ j ≤ m ∧ BfAt w3 u bl wx ∧ bl.map Vs.x = W.take j) (fun i _ _ => m - (intOf i).toNat)
       case atStart => exact ⟨0, [], rfl, Nat.zero_le _, BfAt.start _, by simp⟩
       case round =>
         obtain ⟨wx, hwx⟩ : ∃ wx : World, wx = wr := ⟨_, rfl⟩
         subst hwx
         obtain ⟨j, bl, rfl, hj, hbf, hbx⟩ := hrel
         have HBF := Lib.hid hbf
         have HBX := Lib.hid hbx
         have HBL : Hid (bl.length = j) := Lib.hid (by have := congrArg List.length hbx; rw [List.length_map, List.length_take] at this; have := HWL.out; omega)
         obtain ⟨ab, cb, hcb, hcb2, hub⟩ : ∃ a c, j ≤ c ∧ c ≤ 9223372036854775807 ∧ _ = Value.slice a j c := by
           obtain ⟨a, c, e, h1, h2, _⟩ := hbf.la.row.rdS.shape
           rw [HBL.out] at e h1
           exact ⟨a, c, h1, h2, e⟩
         subst hub
         clear hbf hbx
         by_cases hjm : j < m
         · obtain ⟨x, hx⟩ : ∃ x, ws[j]? = some x := ⟨_, List.getElem?_eq_getElem (by rw [← HML.out]; exact hjm)⟩
           obtain ⟨bi, offi, e0, hbi, r0, r1⟩ := HWR.out.ent hx rfl
           subst e0
           replace r0 := HBF.out.mod.cell r0
           replace r1 := HBF.out.mod.cell r1
           have zbi : bi < wx.heap.size := Nat.lt_of_lt_of_le hbi HBF.out.mod.size
           have HTK : Hid (W.take (j + 1) = W.take j ++ [tellV L x.1]) := Lib.hid (by
             obtain ⟨h1, h2⟩ := List.getElem?_eq_some_iff.1 (HWG.out j x hx)
             rw [List.take_succ_eq_append_getElem h1, h2])
           have hxf := (HWR.out.fits x (List.mem_of_getElem? hx)).1
           obtain ⟨xv, xm⟩ := x
           simp only at r0 r1 hxf HTK
           have HMB : Hid (Mod (fun _ => False) wx (wx.alloc (.cells #[.int .u32 (xv : Int), .int .u8 (xm : Int)] 43))) := Lib.hid ((Mod.refl _ _).alloc _)
           have HVX : Hid (∀ w', Mod (fun _ => False) wx w' → Calls Tryz.prog 14 #[.pointer (some ⟨w1.heap.size + 1, 0, none⟩), .int .u32 (xv : Int)] w' (Twins w' (tellV L xv))) := Lib.hid (fun w' mm => svertex_any _ _ L xv w w' (HG3.out.keep (HBF.out.mod.trans mm)) hxf)
           clear hx hbi hxf
           generalize tellV L xv = tv at HVX HTK
           obtain ⟨id, there, xs, ys⟩ := tv
           go_wp2_with (first
             | (at_builtin; refine wpList_append_seg rfl (.tmp 59) (.tmp 64) 41 rfl i0 _ 4 56 Tryz.underlying41 HI.out.1 HI.out.2.1 HI.out.2.2.1 HI.out.2.2.2 rfl (by decide) rfl (HBL.out ▸ HB5.out.la.row) _ 1 _ rfl HSR.out (by have := HM40.out; unfold maxLen; omega) (by have := HM40.out; omega) ?_; intro v3 w6 hs3 hg3 ho3; have H3 := Lib.hid (HB5.out.next HV5.out (by rw [HBL.out]; exact hs3) hg3 ho3); (obtain ⟨a7, c7, n7, rfl⟩ : ∃ a c n, v3 = .slice a n c := (by obtain ⟨a, c, e, _⟩ := hs3.shape; exact ⟨_, _, _, e⟩)); clear hs3 hg3 ho3)
             | (go_at_call 14; go_loud (refine (HVX.out _ HMB.out).mono ?_; (rintro e w4 ⟨vp4, vh4, rfl, hm4, hn4⟩); (obtain ⟨a5, c5, n5, rfl⟩ : ∃ a c n, vp4 = .slice a n c := (by obtain ⟨a, c, e, _⟩ := hn4.props.shape; exact ⟨_, _, _, e⟩)); (obtain ⟨a6, c6, n6, rfl⟩ : ∃ a c n, vh4 = .slice a n c := (by obtain ⟨a, c, e, _⟩ := hn4.halves.shape; exact ⟨_, _, _, e⟩)); have HB5 := Lib.hid ((HBF.out.keep (HMB.out.trans hm4)).keep ((Mod.refl (fun _ => False) w4).alloc (.cells #[.int .u32 (id : Int), .bool there, .slice a5 n5 c5, .slice a6 n6 c6] 47))); have HV5 := Lib.hid (hn4.vown.mod ((Mod.refl (fun _ => False) w4).alloc (.cells #[.int .u32 (id : Int), .bool there, .slice a5 n5 c5, .slice a6 n6 c6] 47)) ⟨fun _ _ f => f, fun _ _ f => f⟩); have HSR := Lib.hid (src_cells (w := w4) rfl (size := 4) 47 #[.int .u32 (id : Int), .bool there, .slice a5 n5 c5, .slice a6 n6 c6] rfl (by simp [Value.oneCell'])); clear hm4 hn4)))
           go_roundw
           case rel => exact ⟨j + 1, bl ++ [⟨⟨id, there, xs, ys⟩, .slice a5 n5 c5, .slice a6 n6 c6⟩], by go_num, by omega, H3.out, by rw [List.map_append, HBX.out, HTK.out]; rfl⟩
           case measure => simp [intOf]; omega
         · obtain rfl : m = j := by omega
           replace HBX : Hid (bl.map Vs.x = W) := Lib.hid (by have h := HBX.out; rwa [List.take_of_length_le (by have := HWL.out; omega)] at h)
           obtain ⟨A, hA⟩ : ∃ A, A = (doG L (txq ops)).2 := ⟨_, rfl⟩
           obtain ⟨L', hL'⟩ : ∃ L', L' = (doG L (txq ops)).1 := ⟨_, rfl⟩
           obtain ⟨O, hO⟩ : ∃ O, O = planOut (wantV L ops) ops := ⟨_, rfl⟩
           have HEN : Hid (∀ x ∈ ws, (∀ v ∈ O, v.id = x.1 → v = tellV L' x.1 ∧ x.2 = 2) ∧ ((∃ v ∈ O, v.id = x.1) ↔ tellV L x.1 ≠ tellV L' x.1)) := Lib.hid (by
             rw [HWP.out, hO, hL']
             exact fun x hx => enough_out HL.out HC0.out hx)
           have HRN : Hid (∀ v u w', Mod (fun _ => False) wx w' → LRd w' v bl → ORd w' u ops → Calls Tryz.prog 15 #[v, u] w' (RunS A O 0 w')) := Lib.hid (fun v u w' mm h1 h2 => by
             obtain ⟨z1, z2, z3⟩ := runA_enough HL.out HC0.out
             have h := prun_any bl v ops u w' h1 (by have := HBL.out; have := HM40.out; omega) h2 (HE.out.keep (HG3.out.mod.trans (HBF.out.mod.trans mm)) (fun f => f))
             rw [HBX.out, HW.out] at h
             refine h.mono (fun e w'' h => ?_)
             have h := h.same
             rw [z1, z2, z3, ← hA, ← hO] at h
             exact h)
           have HDO : Hid (∀ a c w', Mod (fun _ => False) wx w' → ORd w' (.slice a no c) ops → Calls Tryz.prog 10 #[.pointer (some ⟨w1.heap.size + 1, 0, none⟩), .agg #[.int .u8 1, .slice a no c, .int .u32 0, .int .i64 0, .int .i64 0]] w' fun e w'' => ∃ av nv cv al nl cl, e = .returned (.agg #[.int .i64 (A.e : Nat), .int .i64 (A.at_ : Nat), .slice av nv cv, .slice al nl cl]) ∧ GSt w (w1.heap.size + 1) w1.heap.size L' w'' ∧ Kept w' w'' ∧ RdS w'' 3 (.slice av nv cv) A.vals.length (vvcells A.vals) ∧ RdS w'' 1 (.slice al nl cl) A.list.length (A.list.map (keyV .u32))) := Lib.hid (fun a c w' mm ho => (sgdo_any (w1.heap.size + 1) w1.heap.size L (txq ops) (.slice a no c) w w' (HG3.out.keep (HBF.out.mod.trans mm)) ho (show (0 : Nat) < 4294967296 by decide) HE.out).mono (by
             rintro e w'' ⟨vv, vl, rfl, hs⟩
             rw [← hA]
             have h1 := hs.vals.rdS
             have h2 := hs.list.rdS
             have h3 := hs.st
             rw [← hA] at h1 h2
             rw [← hL'] at h3
             obtain ⟨av, cv, rfl, -⟩ := h1.shape
             obtain ⟨al, cl, rfl, -⟩ := h2.shape
             exact ⟨av, _, cv, al, _, cl, rfl, h3, hs.kept, h1, h2⟩))
           clear hA hL' hO
           obtain ⟨ae, aat, vals, list⟩ := A
           unfold RunS at HRN
           simp only at HRN HDO
           go_upto_region 21 with (first
             | (go_at_call 10; go_loud (refine (HDO.out _ _ _ HM6.out HO6.out).mono ?_; (rintro e w7 ⟨av2, nv2, cv2, al2, nl2, cl2, rfl, hg7, hk7, hv7, hl7⟩); have HG7 := Lib.hid hg7; have HK7 := Lib.hid hk7; have HV7 := Lib.hid hv7; have HL7 := Lib.hid hl7; clear hg7 hk7 hv7 hl7))
             | (go_at_call 13; (refine (HOP.out _ (HG3.out.mod.trans (HBF.out.mod.trans HMA.out))).mono ?_); (rintro e w6 ⟨a6, c6, rfl, hm6, ho6⟩); have HM56 : Hid (Mod (fun _ => False) w5 w6) := Lib.hid (((Mod.refl _ _).alloc _).trans hm6); have HM6 : Hid (Mod (fun _ => False) wx w6) := Lib.hid (HMA.out.trans hm6); have HA6 := Lib.hid (hm6.heap HBA.out (fun f => f)); have HO6 := Lib.hid ho6; clear hm6 ho6)
             | (go_at_call 15; go_loud (refine (HRN.out _ _ _ HM4.out (HBF.out.la.rd.keep HM4.out) HO4.out).mono ?_; (rintro e w5 ⟨hm5, av, nv, cv, al, nl, cl, ac, nc, cc, cs, rfl, hvv, hvl, hcs, hcx⟩); have HMA := Lib.hid ((HM4.out.trans hm5).alloc (.cells #[.int .i64 (ae : Int), .int .i64 (aat : Int), .slice av nv cv, .slice al nl cl] 34)); have HBA := Lib.hid (heap_alloc_new' w5 (.cells #[.int .i64 (ae : Int), .int .i64 (aat : Int), .slice av nv cv, .slice al nl cl] 34)); have HVV := Lib.hid hvv; have HVL := Lib.hid hvl; have HCS := Lib.hid hcs; have HCX := Lib.hid hcx; clear hm5 hvv hvl hcs hcx))
             | (go_at_call 13; go_loud (refine (HOP.out _ (HG3.out.mod.trans HBF.out.mod)).mono ?_; (rintro e w4 ⟨a4, c4, rfl, hm4, ho4⟩); have HM4 := Lib.hid hm4; have HO4 := Lib.hid ho4; clear hm4 ho4)))
           obtain ⟨w8, hw8⟩ : ∃ W, W = w7.alloc (.cells #[.int .i64 (ae : Int), .int .i64 (aat : Int), .slice av2 nv2 cv2, .slice al2 nl2 cl2] 34) := ⟨_, rfl⟩
           have HM78 : Hid (Mod (fun _ => False) w7 w8) := Lib.hid (by rw [hw8]; exact (Mod.refl _ _).alloc _)
           have hb8 : w8.heap[w7.heap.size]? = some (.cells #[.int .i64 (ae : Int), .int .i64 (aat : Int), .slice av2 nv2 cv2, .slice al2 nl2 cl2] 34 (0, 0)) := by rw [hw8]; exact heap_alloc_new' _ _
           rw [← hw8]
           clear hw8
           have HK8 := Lib.hid (HK7.out.then HM78.out)
           have ha8 := HK8.out.box HA6.out
           have HG8 := Lib.hid (HG7.out.keep HM78.out)
           have HV8 := Lib.hid (HK8.out.lrd (HBF.out.la.rd.keep HM6.out))
           have HC8 := Lib.hid (HK8.out.lrd (HCS.out.keep HM56.out))
           have HW8 := Lib.hid (HK8.out.wrd (HWR.out.keep (HBF.out.mod.trans HM6.out)))
           have HVV8 := Lib.hid (HK8.out.rds (HVV.out.keep HM56.out))
           have HVL8 := Lib.hid (HK8.out.rds (HVL.out.keep HM56.out))
           have HVV9 := Lib.hid (HV7.out.keep HM78.out)
           have HVL9 := Lib.hid (HL7.out.keep HM78.out)
           have p0 := cell_of_row ha8 0
           have p1 := cell_of_row ha8 1
           have p2 := cell_of_row ha8 2
           have p3 := cell_of_row ha8 3
           have s0 := cell_of_row hb8 0
           have s1 := cell_of_row hb8 1
           have s2 := cell_of_row hb8 2
           have s3 := cell_of_row hb8 3
           have za8 := lt_of_block ha8
           have zb8 := lt_of_block hb8
           simp at p0 p1 p2 p3 s0 s1 s2 s3
           clear ha8 hb8 HG7 HK7 HK8 HV7 HL7 HVV HVL HCS HA6 HBA HMA HM6 HM56 HO6 HM4 HO4 HDO HRN HG3 HWR HM78 HBF HI
           have HQA : Hid (∀ z, Mod (fun _ => False) w8 z → Calls Tryz.prog 16 #[.agg #[.int .i64 (ae : Int), .int .i64 (aat : Int), .slice av nv cv, .slice al nl cl], .agg #[.int .i64 (ae : Int), .int .i64 (aat : Int), .slice av2 nv2 cv2, .slice al2 nl2 cl2]] z fun e w'' => e = .returned (.bool true) ∧ Mod (fun _ => False) z w'') := Lib.hid (fun z mm => by
             have h := anssame_any (ae : Int) (aat : Int) (ae : Int) (aat : Int) vals vals list list (.slice av nv cv) (.slice al nl cl) (.slice av2 nv2 cv2) (.slice al2 nl2 cl2) z (HVV8.out.keep mm) (HVV9.out.keep mm) (HVL8.out.keep mm) (HVL9.out.keep mm)
             simp only [and_self, decide_true] at h
             exact h)
           obtain ⟨nq8, hnq8⟩ : ∃ n, n = cs.length := ⟨_, rfl⟩
           have HNC : Hid (nc = cs.length) := Lib.hid (by obtain ⟨a9, c9, e9, -⟩ := HC8.out.row.shape; injection e9 with _ e9 _)
           have hncl : nc ≤ 9223372036854775807 := by obtain ⟨a9, c9, e9, h9, h8, -⟩ := HC8.out.row.shape; injection e9 with _ e9 _; omega
           have HNO2 : Hid (O.length = nc) := Lib.hid (by rw [← HCX.out, List.length_map, HNC.out])
           clear hnq8 nq8
           go_wp2_with (go_at_call 16; go_loud (refine (HQA.out _ (by (repeat (with_reducible (first | exact Mod.refl _ _ | refine Mod.drew ?_ | refine Mod.alloc ?_ _))); done)).mono ?_; (rintro e w9 ⟨rfl, hm9⟩); have HM9 : Hid (Mod (fun _ => False) w8 w9) := Lib.hid (Mod.trans (by (repeat (with_reducible (first | exact Mod.refl _ _ | refine Mod.drew ?_ | refine Mod.alloc ?_ _))); done) hm9); clear hm9))
           clear p0 p1 p2 p3 s0 s1 s2 s3 za8 zb8 HQA HVV8 HVL8 HVV9 HVL9
           go_loopw [90] (fun i wr => ∃ j : Nat, i = .int .i64 (j : Int) ∧ j ≤ m ∧ Mod (fun _ => False) w8 wr) (fun i _ => m - (intOf i).toNat)
           case atStart => exact ⟨0, rfl, Nat.zero_le _, HM9.out⟩
           case round =>
             obtain ⟨wy, hwy⟩ : ∃ wy : World, wy = wr := ⟨_, rfl⟩
             subst hwy
             obtain ⟨j, rfl, hj, hmj⟩ := hrel
             have HJ := Lib.hid hmj
             clear hmj
             by_cases hjm : j < m
             · obtain ⟨x, hx⟩ : ∃ x, ws[j]? = some x := ⟨_, List.getElem?_eq_getElem (by rw [← HML.out]; exact hjm)⟩
               obtain ⟨bi, offi, e0, hbi, r0, r1⟩ := HW8.out.ent hx rfl
               subst e0
               replace r0 := HJ.out.cell r0
               replace r1 := HJ.out.cell r1
               have zbi : bi < wy.heap.size := Nat.lt_of_lt_of_le hbi HJ.out.size
               have hxf := (HW8.out.fits x (List.mem_of_getElem? hx)).1
               obtain ⟨hen1, hen2⟩ := HEN.out x (List.mem_of_getElem? hx)
               obtain ⟨xv, xm⟩ := x
               simp only at r0 r1 hxf hen1 hen2
               have HMB : Hid (Mod (fun _ => False) wy (wy.alloc (.cells #[.int .u32 (xv : Int), .int .u8 (xm : Int)] 43))) := Lib.hid ((Mod.refl _ _).alloc _)
               have HBW : Hid ((wy.alloc (.cells #[.int .u32 (xv : Int), .int .u8 (xm : Int)] 43)).heap[wy.heap.size]? = some (.cells #[.int .u32 (xv : Int), .int .u8 (xm : Int)] 43 (0, 0))) := Lib.hid (heap_alloc_new' _ _)
               have HVX : Hid (∀ w', Mod (fun _ => False) wy w' → Calls Tryz.prog 14 #[.pointer (some ⟨w1.heap.size + 1, 0, none⟩), .int .u32 (xv : Int)] w' (Twins w' (tellV L' xv))) := Lib.hid (fun w' mm => svertex_any _ _ L' xv w w' (HG8.out.keep (HJ.out.trans mm)) hxf)
               have HEN1 := Lib.hid hen1
               have HEN2 := Lib.hid hen2
               have hidx := tellV_id L' xv
               clear hx hbi hxf hen1 hen2
               obtain ⟨tn, htn⟩ : ∃ t, t = tellV L' xv := ⟨_, rfl⟩
               rw [← htn] at HVX HEN1 HEN2 hidx
               clear htn
               obtain ⟨id, there, xs, ys⟩ := tn
               simp only at HVX hidx
               subst hidx
               go_wp2_with (go_at_call 14; go_loud (refine (HVX.out _ HMB.out).mono ?_; (rintro e w4 ⟨vp4, vh4, rfl, hm4, hn4⟩); (obtain ⟨a5, c5, n5, rfl⟩ : ∃ a c n, vp4 = .slice a n c := (by obtain ⟨a, c, e, _⟩ := hn4.props.shape; exact ⟨_, _, _, e⟩)); (obtain ⟨a6, c6, n6, rfl⟩ : ∃ a c n, vh4 = .slice a n c := (by obtain ⟨a, c, e, _⟩ := hn4.halves.shape; exact ⟨_, _, _, e⟩)); have HM4 : Hid (Mod (fun _ => False) wy w4) := Lib.hid (HMB.out.trans hm4); have HBW4 := Lib.hid (hm4.heap HBW.out (fun f => f)); have HVN := Lib.hid hn4.rd; clear hm4 hn4))
               go_loopw [100, 20] (fun i t wr => ∃ k : Nat, i = .int .i64 (k : Int) ∧ k ≤ nc ∧ t = .bool (toldB O id k) ∧ Mod (fun _ => False) w4 wr ∧ wr.heap[w4.heap.size]? = some (.cells #[.int .u32 (id : Int), .bool there, .slice a5 n5 c5, .slice a6 n6 c6] 47 (0, 0))) (fun i _ _ => nc - (intOf i).toNat)
               case atStart => exact ⟨0, rfl, Nat.zero_le _, rfl, (Mod.refl _ _).alloc _, heap_alloc_new' _ _⟩
               case round =>
                 obtain ⟨wa, hwa⟩ : ∃ wa : World, wa = wr := ⟨_, rfl⟩
                 subst hwa
                 obtain ⟨k, rfl, hk, rfl, hma, hna⟩ := hrel
                 have HMA := Lib.hid hma
                 have HNA := Lib.hid hna
                 have HMX : Hid (Mod (fun _ => False) w8 wa) := Lib.hid (HJ.out.trans (HM4.out.trans hma))
                 clear hma hna
                 by_cases hkc : k < nc
                 · obtain ⟨s, hs⟩ : ∃ s, cs[k]? = some s := ⟨_, List.getElem?_eq_getElem (by rw [← HNC.out]; exact hkc)⟩
                   obtain ⟨bs, offs, e1, hbs, q0, q1, q2, q3⟩ := HC8.out.ent hs rfl
                   subst e1
                   replace q0 := HMX.out.cell q0
                   replace q1 := HMX.out.cell q1
                   replace q2 := HMX.out.cell q2
                   replace q3 := HMX.out.cell q3
                   have zbs : bs < wa.heap.size := Nat.lt_of_lt_of_le hbs HMX.out.size
                   have hsO : O[k]? = some s.x := by rw [← HCX.out, List.getElem?_map, hs]; rfl
                   have HTS := Lib.hid (toldB_succ (v := id) hsO)
                   have HSM := Lib.hid (HEN1.out s.x (List.mem_of_getElem? hsO))
                   have HVS := Lib.hid ((HC8.out.at hs).keep HMX.out)
                   clear hs hbs hsO
                   obtain ⟨sx, svp, svh⟩ := s
                   obtain ⟨vi, vt, vps, vhs⟩ := sx
                   simp only at q0 q1 q2 q3 HTS HSM HVS
                   obtain ⟨ap9, np9, cp9, rfl⟩ : ∃ a n c, svp = Value.slice a n c := by obtain ⟨a, c, e, _⟩ := HVS.out.props.shape; exact ⟨_, _, _, e⟩
                   obtain ⟨ah9, nh9, ch9, rfl⟩ : ∃ a n c, svh = Value.slice a n c := by obtain ⟨a, c, e, _⟩ := HVS.out.halves.shape; exact ⟨_, _, _, e⟩
                   by_cases hid : vi = id
                   · obtain ⟨hsx, hxm⟩ := HSM.out hid
                     injection hsx with e1 e2 e3 e4
                     subst e1 e2 e3 e4
                     have hx1 : ((xm : Int) != 2) = false := by simp [hxm]
                     clear hxm
                     have HSV : Hid (∀ w', Mod (fun _ => False) wa w' → Calls Tryz.prog 17 #[.agg #[.int .u32 (vi : Int), .bool vt, .slice ap9 np9 cp9, .slice ah9 nh9 ch9], .agg #[.int .u32 (vi : Int), .bool vt, .slice a5 n5 c5, .slice a6 n6 c6]] w' fun e w'' => e = .returned (.bool true) ∧ Mod (fun _ => False) w' w'') := Lib.hid (fun w' mm => by
                       have h := vsame_any ⟨vi, vt, vps, vhs⟩ ⟨vi, vt, vps, vhs⟩ (.slice ap9 np9 cp9) (.slice ah9 nh9 ch9) (.slice a5 n5 c5) (.slice a6 n6 c6) w' (HVS.out.keep mm) (HVN.out.keep (HMA.out.trans mm))
                       have e : decide ((⟨vi, vt, vps, vhs⟩ : Vtx) = ⟨vi, vt, vps, vhs⟩) = true := decide_eq_true rfl
                       rw [e] at h
                       exact h)
                     have hbw := (HMA.out).heap HBW4.out (fun f => f)
                     have hbn := HNA.out
                     have b0 := cell_of_row hbw 0
                     have b1 := cell_of_row hbw 1
                     have zb := lt_of_block hbw
                     have d0 := cell_of_row hbn 0
                     have d1 := cell_of_row hbn 1
                     have d2 := cell_of_row hbn 2
                     have d3 := cell_of_row hbn 3
                     have zd := lt_of_block hbn
                     simp at b0 b1 d0 d1 d2 d3
                     clear hbw hbn
                     go_wp2_with (go_at_call 17; go_loud (refine (HSV.out _ (by (repeat (with_reducible (first | exact Mod.refl _ _ | refine Mod.drew ?_ | refine Mod.alloc ?_ _))); done)).mono ?_; (rintro e w10 ⟨rfl, hm10⟩); have HM10 : Hid (Mod (fun _ => False) wa w10) := Lib.hid (Mod.trans (by (repeat (with_reducible (first | exact Mod.refl _ _ | refine Mod.drew ?_ | refine Mod.alloc ?_ _))); done) hm10); have c1 := HM10.out.cell b1; have zw := Nat.lt_of_lt_of_le zb HM10.out.size; clear hm10))
                     go_roundw
                     case rel => exact ⟨k + 1, by go_num, by omega, by rw [HTS.out]; simp, HMA.out.trans HM10.out, HM10.out.heap HNA.out (fun f => f)⟩
                     case measure => simp [intOf]; omega
                   · have hidi : ((vi : Int) == (id : Int)) = false := by simp; omega
                     have hidj : ¬ (vi : Int) = (id : Int) := by omega
                     have hbw := (HMA.out).heap HBW4.out (fun f => f)
                     have hbn := HNA.out
                     have b0 := cell_of_row hbw 0
                     have b1 := cell_of_row hbw 1
                     have zb := lt_of_block hbw
                     have d0 := cell_of_row hbn 0
                     have d1 := cell_of_row hbn 1
                     have d2 := cell_of_row hbn 2
                     have d3 := cell_of_row hbn 3
                     have zd := lt_of_block hbn
                     simp at b0 b1 d0 d1 d2 d3
                     clear hbw hbn
                     go_wp2
                     go_roundw
                     case rel => exact ⟨k + 1, by go_num, by omega, by rw [HTS.out]; simp [hid], HMA.out.alloc _, heap_alloc_old HNA.out⟩
                     case measure => simp [intOf]; omega
                 · obtain rfl : nc = k := by omega
                   have HTT : Hid (toldB O id nc = true ↔ tellV L id ≠ ⟨id, there, xs, ys⟩) := Lib.hid ((toldB_all (Nat.le_of_eq HNO2.out)).trans HEN2.out)
                   generalize toldB O id nc = T at HTT
                   go_wp2_with fail
                   go_loopw [121] (fun i wr => ∃ k : Nat, i = .int .i64 (k : Int) ∧ k ≤ m ∧ Mod (fun _ => False) wa wr) (fun i _ => m - (intOf i).toNat)
                   case atStart => exact ⟨0, rfl, Nat.zero_le _, Mod.refl _ _⟩
                   case round =>
                     obtain ⟨wb, hwb⟩ : ∃ wb : World, wb = wr := ⟨_, rfl⟩
                     subst hwb
                     obtain ⟨k, rfl, hk2, hmb⟩ := hrel
                     have HMY := Lib.hid hmb
                     have HMZ : Hid (Mod (fun _ => False) w8 wb) := Lib.hid (HMX.out.trans hmb)
                     have HM4B : Hid (Mod (fun _ => False) w4 wb) := Lib.hid (HMA.out.trans hmb)
                     clear hmb
                     by_cases hkm : k < m
                     · obtain ⟨s, hs⟩ : ∃ s, bl[k]? = some s := ⟨_, List.getElem?_eq_getElem (by rw [HBL.out]; exact hkm)⟩
                       obtain ⟨y, hy⟩ : ∃ y, ws[k]? = some y := ⟨_, List.getElem?_eq_getElem (by rw [← HML.out]; exact hkm)⟩
                       have hsx : s.x = tellV L y.1 := by
                         have h := HWG.out k y hy
                         rw [← HBX.out, List.getElem?_map, hs] at h
                         injection h
                       have HSX : Hid (s.x.id = id → s.x = tellV L id) := Lib.hid (fun e => by rw [hsx, tellV_id] at e; rw [hsx, e])
                       obtain ⟨bs, offs, e1, hbs, q0, q1, q2, q3⟩ := HV8.out.ent hs rfl
                       subst e1
                       replace q0 := HMZ.out.cell q0
                       replace q1 := HMZ.out.cell q1
                       replace q2 := HMZ.out.cell q2
                       replace q3 := HMZ.out.cell q3
                       have zbs : bs < wb.heap.size := Nat.lt_of_lt_of_le hbs HMZ.out.size
                       have HVS := Lib.hid ((HV8.out.at hs).keep HMZ.out)
                       clear hs hbs hy hsx
                       obtain ⟨sx, svp, svh⟩ := s
                       obtain ⟨vi, vt, vps, vhs⟩ := sx
                       simp only at q0 q1 q2 q3 HSX HVS
                       obtain ⟨ap9, np9, cp9, rfl⟩ : ∃ a n c, svp = Value.slice a n c := by obtain ⟨a, c, e, _⟩ := HVS.out.props.shape; exact ⟨_, _, _, e⟩
                       obtain ⟨ah9, nh9, ch9, rfl⟩ : ∃ a n c, svh = Value.slice a n c := by obtain ⟨a, c, e, _⟩ := HVS.out.halves.shape; exact ⟨_, _, _, e⟩
                       by_cases hid : vi = id
                       · subst hid
                         have HSY := Lib.hid (HSX.out rfl)
                         have HSV : Hid (∀ w', Mod (fun _ => False) wb w' → Calls Tryz.prog 17 #[.agg #[.int .u32 (vi : Int), .bool vt, .slice ap9 np9 cp9, .slice ah9 nh9 ch9], .agg #[.int .u32 (vi : Int), .bool there, .slice a5 n5 c5, .slice a6 n6 c6]] w' fun e w'' => e = .returned (.bool (!T)) ∧ Mod (fun _ => False) w' w'') := Lib.hid (fun w' mm => by
                           have h := vsame_any ⟨vi, vt, vps, vhs⟩ ⟨vi, there, xs, ys⟩ (.slice ap9 np9 cp9) (.slice ah9 nh9 ch9) (.slice a5 n5 c5) (.slice a6 n6 c6) w' (HVS.out.keep mm) (HVN.out.keep (HM4B.out.trans mm))
                           have e : decide ((⟨vi, vt, vps, vhs⟩ : Vtx) = ⟨vi, there, xs, ys⟩) = !T := by
                             have ht := HTT.out
                             rw [← HSY.out] at ht
                             cases T <;> simp at ht ⊢ <;> exact ht
                           rw [e] at h
                           exact h)
                         have hbw := (HM4B.out).heap HBW4.out (fun f => f)
                         have hbn := HMY.out.heap HNA.out (fun f => f)
                         have b0 := cell_of_row hbw 0
                         have b1 := cell_of_row hbw 1
                         have zb := lt_of_block hbw
                         have d0 := cell_of_row hbn 0
                         have d1 := cell_of_row hbn 1
                         have d2 := cell_of_row hbn 2
                         have d3 := cell_of_row hbn 3
                         have zd := lt_of_block hbn
                         simp at b0 b1 d0 d1 d2 d3
                         clear hbw hbn
                         cases T with
                         | true =>
                           go_wp2_with (go_at_call 17; go_loud (refine (HSV.out _ (by (repeat (with_reducible (first | exact Mod.refl _ _ | refine Mod.drew ?_ | refine Mod.alloc ?_ _))); done)).mono ?_; (rintro e w10 ⟨rfl, hm10⟩); have HM10 : Hid (Mod (fun _ => False) wb w10) := Lib.hid (Mod.trans (by (repeat (with_reducible (first | exact Mod.refl _ _ | refine Mod.drew ?_ | refine Mod.alloc ?_ _))); done) hm10); clear hm10))
                           go_roundw
                           case rel => exact ⟨k + 1, by go_num, by omega, HMY.out.trans HM10.out⟩
                           case measure => simp [intOf]; omega
                         | false =>
                           go_wp2_with (go_at_call 17; go_loud (refine (HSV.out _ (by (repeat (with_reducible (first | exact Mod.refl _ _ | refine Mod.drew ?_ | refine Mod.alloc ?_ _))); done)).mono ?_; (rintro e w10 ⟨rfl, hm10⟩); have HM10 : Hid (Mod (fun _ => False) wb w10) := Lib.hid (Mod.trans (by (repeat (with_reducible (first | exact Mod.refl _ _ | refine Mod.drew ?_ | refine Mod.alloc ?_ _))); done) hm10); clear hm10))
                           go_roundw
                           case rel => exact ⟨k + 1, by go_num, by omega, HMY.out.trans HM10.out⟩
                           case measure => simp [intOf]; omega
                       · have hidi : ((vi : Int) == (id : Int)) = false := by simp; omega
                         have hidj : ¬ (vi : Int) = (id : Int) := by omega
                         have hbw := (HM4B.out).heap HBW4.out (fun f => f)
                         have hbn := HMY.out.heap HNA.out (fun f => f)
                         have b0 := cell_of_row hbw 0
                         have b1 := cell_of_row hbw 1
                         have zb := lt_of_block hbw
                         have d0 := cell_of_row hbn 0
                         have d1 := cell_of_row hbn 1
                         have d2 := cell_of_row hbn 2
                         have d3 := cell_of_row hbn 3
                         have zd := lt_of_block hbn
                         simp at b0 b1 d0 d1 d2 d3
                         clear hbw hbn
                         go_wp2
                         go_roundw
                         case rel => exact ⟨k + 1, by go_num, by omega, HMY.out.alloc _⟩
                         case measure => simp [intOf]; omega
                     · go_wp2_with fail
                       go_roundw
                       case rel => exact ⟨j + 1, by go_num, by omega, HMZ.out⟩
                       case measure => simp [intOf]; omega
             · go_wp2
               go_ret
               exact ⟨rfl, HG8.out.mod.trans HJ.out⟩
     · have HZ : Hid (m = 0) := Lib.hid (by rw [HML.out, HWS0.out]; unfold wantsR; rw [if_neg (by rw [← HCK.out]; exact hck0)]; rfl)
       have hck1 : ((ck : Int) == 0) = false := by simp; omega
       have hck2 : ¬ (ck : Int) = 0 := by omega
       obtain rfl : m = 0 := HZ.out
       go_wp2_with (first
         | (go_at_call 12; go_loud (refine (HPW.out _ _ HO2.out).mono ?_; (rintro e w3 ⟨a3, c3, rfl, hws3⟩); have HM3 : Hid (Mod (fun _ => False) wr w3) := Lib.hid (HM2.out.trans hws3.mod); clear hws3))
         | (go_at_call 13; go_loud (refine (HOP.out _ HST.out.mod).mono ?_; (rintro e w2 ⟨a2, c2, rfl, hm2, ho2⟩); have HM2 := Lib.hid hm2; have HO2 := Lib.hid ho2; clear hm2 ho2)))
       go_ret
       exact ⟨rfl, HST.out.mod.trans HM3.out⟩
end Go.Proofs.YtlpdifinkcjckaaGreatDoor
