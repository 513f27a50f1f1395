import Derived.Test.YtpigipgoopeeoaaGreatDoorMCVer04
set_option linter.unusedVariables false
set_option linter.unusedSimpArgs false
namespace Go.Proofs.YtpigipgoopeeoaaGreatDoor
open Go.RowKit Go.Maps
def refV : Option (Nat × Nat) → Value
 | none => .tuple #[.int .i64 0, .int .i64 0]
 | some (k, i) => .tuple #[.int .i64 (k : Int), .int .i64 (i : Int)]
structure RSt (w : World) (gr : Nat) (L : Gr) (wr : World) : Prop where
 mod : Mod (fun _ => False) w wr
 rf : ∃ gv l, GrAt wr gr gv l ∧ l.map Vs.x = L
 good : Good L
 lo : w.heap.size ≤ gr
theorem RSt.keep {w wr wx : World} {gr : Nat} {L : Gr} (h : RSt w gr L wr) (m : Mod (fun _ => False) wr wx) : RSt w gr L wx := ⟨h.mod.trans m, rf_kept h.rf (.mod m), h.good, h.lo⟩
theorem RSt.lt {w wr : World} {gr : Nat} {L : Gr} (h : RSt w gr L wr) : gr < wr.heap.size := by
 obtain ⟨gv, l, hg, -⟩ := h.rf
 exact lt_of_block hg.box
theorem RSt.do {w wr wx : World} {gr : Nat} {L : Gr} {r : Rqt} {vv vl : Value} (h : RSt w gr L wr) (d : RDo gr L r vv vl wr wx) : RSt w gr (doG L r).1 wx :=
 ⟨h.mod.trans' d.mod (fun i hi e => by have := h.lo; omega), d.rf, Good.do h.good r, h.lo⟩
theorem RDo.box {wr wx : World} {gr : Nat} {L : Gr} {r : Rqt} {vv vl : Value} (d : RDo gr L r vv vl wr wx) {b : Nat} {o : Obj} (h : wr.heap[b]? = some o) (hne : b ≠ gr) : wx.heap[b]? = some o := d.mod.heap h hne
set_option maxRecDepth 100000 in
set_option maxHeartbeats 16000000 in
theorem rverify_any (v u : Value) (l rs : List Cm) (w : World) (hv : CRd Cm.c11 11 w v l) (hu : CRd Cm.c13 13 w u rs) :
   Calls Tryz.prog 14 #[v, u] w fun e w' => e = .returned (refV (verdict (l.map Cm.x) (rs.map Cm.x))) ∧ Mod (fun _ => False) w w' := by
 have HV := Lib.hid hv
 have HU := Lib.hid hu
 have HVD : Hid (verdict (l.map Cm.x) (rs.map Cm.x) = pick4 (firstI l.length (ansBad (l.map Cm.x))) (firstI l.length (numBad2 (l.map Cm.x))) (firstR (repA (l.map Cm.x)) (rs.map Cm.x)) (firstR (repB (l.map Cm.x)) (rs.map Cm.x))) := Lib.hid (by unfold verdict; rw [num_first, List.length_map])
 have HFD : Hid (∀ c0 s0 w', Mod (fun _ => False) w w' → Calls Tryz.prog 39 #[v, .int .u8 ((c0 : Nat) : Int), .int .u32 ((s0 : Nat) : Int)] w' fun e w'' => e = .returned (.int .i64 (placeZ (placeOf (l.map Cm.x) (c0, s0)))) ∧ Mod (fun _ => False) w' w'') := Lib.hid (fun c0 s0 w' m => find_any v l c0 s0 w' (hv.keep m))
 obtain ⟨a, c, rfl, hc1, hc2, -⟩ := hv.row.shape
 obtain ⟨a', c', rfl, hc1', hc2', -⟩ := hu.row.shape
 obtain ⟨m, hm⟩ : ∃ m, m = l.length := ⟨_, rfl⟩
 obtain ⟨m', hm'⟩ : ∃ m, m = rs.length := ⟨_, rfl⟩
 have HML := Lib.hid hm
 have HML' := Lib.hid hm'
 rw [← hm] at HV hc1 HVD HFD ⊢
 rw [← hm'] at HU hc1' ⊢
 have HST0 : Hid (RSt w w.heap.size [] (w.alloc (.cells #[.slice none 0 0] 28))) := Lib.hid ⟨(Mod.refl _ _).alloc _, ⟨_, [], ⟨heap_alloc_new' _ _, ⟨RdS.none _ _, by simp⟩⟩, rfl⟩, Good.nil, Nat.le_refl _⟩
 clear hv hu hm hm'
 go_enter Tryz.func14, Tryz.ntmps14
 go_wp2
 go_loopw [22] (fun i wr => ∃ k : Nat, i = .int .i64 (k : Int) ∧ k ≤ m ∧ RSt w w.heap.size (graphTo (l.map Cm.x) k) wr ∧ ∀ j, j < k → ansBad (l.map Cm.x) j = false) (fun i _ => m - (intOf i).toNat)
 case atStart => exact ⟨0, rfl, Nat.zero_le _, HST0.out, fun j hj => by omega⟩
 case round =>
   obtain ⟨k, rfl, hk, hst, hok⟩ := hrel
   have HST := Lib.hid hst
   have HOK := Lib.hid hok
   have HK := Lib.hid hst.mod
   clear hst hok HST0
   by_cases hkm : k < m
   · skip
     obtain ⟨x, hx⟩ : ∃ x, l[k]? = some x := ⟨_, List.getElem?_eq_getElem (by rw [← HML.out]; exact hkm)⟩
     obtain ⟨b, off, e1, hb, hcs⟩ := CRd.ent (cells := Cm.c11) (size := 11) (fun _ => rfl) (by decide) HV.out hx rfl
     obtain rfl := e1
     have hxx : (l.map Cm.x)[k]? = some x.x := by rw [List.getElem?_map, hx]; rfl
     have HXX := Lib.hid hxx
     have HRX := Lib.hid ((HV.out.at hx).keep HK.out)
     have hcs : ∀ j, j < 11 → ∀ u, x.c11[j]? = some u → wr.cell? ⟨b, off + (k * 11 + j), none⟩ = some u := fun j hj u hu => HK.out.cell ((hcs j hj).trans hu)
     obtain ⟨ao, co, hvo⟩ := HRX.out.vo_eq
     obtain ⟨av, cv, hvv⟩ := HRX.out.vv_eq
     obtain ⟨al, cl, hvl⟩ := HRX.out.vl_eq
     obtain ⟨ag, hag⟩ : ∃ a, a = doG (graphTo (l.map Cm.x) k) x.x.r := ⟨_, rfl⟩
     obtain ⟨bad, hbad⟩ : ∃ b, b = x.x.ansIs ag.2 := ⟨_, rfl⟩
     have HBAD : Hid (ansBad (l.map Cm.x) k = !bad) := Lib.hid (by rw [ansBad_at hxx, hbad, hag])
     have HNX : Hid (graphTo (l.map Cm.x) (k + 1) = ag.1) := Lib.hid (by rw [graphTo_succ hxx, hag])
     have HDO : Hid (∀ w', Mod (fun _ => False) wr w' → Calls Tryz.prog 9 #[.pointer (some ⟨w.heap.size, 0, none⟩), rqV x.x.r x.vo] w' fun e w'' => ∃ a1 c1 n1 a2 c2 n2, e = .returned (.agg #[.int .i64 (ag.2.e : Nat), .int .i64 (ag.2.at_ : Nat), .slice a1 n1 c1, .slice a2 n2 c2]) ∧ RSt w w.heap.size ag.1 w'' ∧ Mod (fun k => k = w.heap.size) w' w'' ∧ RdS w'' 3 (.slice a1 n1 c1) ag.2.vals.length (vvcells ag.2.vals) ∧ RdS w'' 1 (.slice a2 n2 c2) ag.2.list.length (ag.2.list.map (keyV .u32))) := Lib.hid (fun w' mm => (rdo_any w.heap.size (graphTo (l.map Cm.x) k) x.x.r x.vo w' (HST.out.keep mm).rf HST.out.good (HRX.out.keep mm).ops).mono (by
       rintro e w'' ⟨vv, vl, rfl, hd⟩
       have h1 := hd.vals
       have h2 := hd.list
       have h3 := (HST.out.keep mm).do hd
       rw [← hag] at h1 h2 h3 ⊢
       obtain ⟨a1, c1, rfl, -⟩ := h1.shape
       obtain ⟨a2, c2, rfl, -⟩ := h2.shape
       exact ⟨a1, c1, _, a2, c2, _, rfl, h3, hd.mod, h1, h2⟩))
     have HSA : Hid (∀ vv' vl' w', Mod (fun _ => False) w w' → RdS w' 3 vv' ag.2.vals.length (vvcells ag.2.vals) → RdS w' 1 vl' ag.2.list.length (ag.2.list.map (keyV .u32)) → Calls Tryz.prog 19 #[.agg #[.int .i64 (ag.2.e : Nat), .int .i64 (ag.2.at_ : Nat), vv', vl'], .agg #[.int .i64 x.x.e, .int .i64 x.x.p, x.vv, x.vl]] w' fun en w'' => en = .returned (.bool bad) ∧ Mod (fun _ => False) w' w'') := Lib.hid (fun vv' vl' w' mm h1 h2 => by rw [hbad]; exact anssame_any _ _ _ _ _ x.x.vals _ x.x.list vv' vl' x.vv x.vl w' h1 ((HV.out.at hx).keep mm).vals h2 ((HV.out.at hx).keep mm).list)
     clear hag hbad
     clear hx hxx
     obtain ⟨⟨xc, xq, ⟨kind, ops, rv, rk, rd⟩, ae, ap, vals, list, fr, to_⟩, vo, vv, vl⟩ := x
     simp only at hvo hvv hvl
     subst hvo hvv hvl
     obtain ⟨no, hno⟩ : ∃ n, n = ops.length := ⟨_, rfl⟩
     obtain ⟨nv, hnv⟩ : ∃ n, n = vals.length := ⟨_, rfl⟩
     obtain ⟨nl, hnl⟩ : ∃ n, n = list.length := ⟨_, rfl⟩
     simp only [Cm.c11, ← hno, ← hnv, ← hnl] at hcs
     have p0 := hcs 0 (by omega) _ rfl
     have p1 := hcs 1 (by omega) _ rfl
     have p2 := hcs 2 (by omega) _ rfl
     have p3 := hcs 3 (by omega) _ rfl
     have p4 := hcs 4 (by omega) _ rfl
     have p5 := hcs 5 (by omega) _ rfl
     have p6 := hcs 6 (by omega) _ rfl
     have p7 := hcs 7 (by omega) _ rfl
     have p8 := hcs 8 (by omega) _ rfl
     have p9 := hcs 9 (by omega) _ rfl
     have p10 := hcs 10 (by omega) _ rfl
     simp only [← Nat.add_assoc, Nat.add_zero] at p0 p1 p2 p3 p4 p5 p6 p7 p8 p9 p10
     have zb := Nat.lt_of_lt_of_le hb HK.out.size
     clear hcs hb
     simp only [rqV, ← hno, ← hnv, ← hnl] at HDO HSA
     clear hno hnv hnl HRX
     obtain ⟨W1, hW1⟩ : ∃ W1, W1 = (wr.alloc (.cells #[.int .u8 (xc : Int), .int .u32 (xq : Int), .int .u8 (kind : Int), .slice ao no co, .int .u32 (rv : Int), .int .i64 rk, .int .i64 rd, .int .i64 ae, .int .i64 ap, .slice av nv cv, .slice al nl cl] 42)) := ⟨_, rfl⟩
     have HM1 : Hid (Mod (fun _ => False) wr W1) := Lib.hid (by rw [hW1]; exact (Mod.refl _ _).alloc _)
     have HBX : Hid (W1.heap[wr.heap.size]? = some (.cells #[.int .u8 (xc : Int), .int .u32 (xq : Int), .int .u8 (kind : Int), .slice ao no co, .int .u32 (rv : Int), .int .i64 rk, .int .i64 rd, .int .i64 ae, .int .i64 ap, .slice av nv cv, .slice al nl cl] 42 (0, 0))) := Lib.hid (by rw [hW1]; exact heap_alloc_new' _ _)
     have hne : ¬ wr.heap.size = w.heap.size := by have := HST.out.lt; omega
     have HNE := Lib.hid hne
     have HKEEP : Hid (∀ w', Mod (fun k => k = w.heap.size) W1 w' → (fun w' : World => w'.cell? ⟨wr.heap.size, 2, none⟩ = some (.int .u8 (kind : Int)) ∧ w'.cell? ⟨wr.heap.size, 3, none⟩ = some (.slice ao no co) ∧ w'.cell? ⟨wr.heap.size, 4, none⟩ = some (.int .u32 (rv : Int)) ∧ w'.cell? ⟨wr.heap.size, 5, none⟩ = some (.int .i64 rk) ∧ w'.cell? ⟨wr.heap.size, 6, none⟩ = some (.int .i64 rd) ∧ w'.cell? ⟨wr.heap.size, 7, none⟩ = some (.int .i64 ae) ∧ w'.cell? ⟨wr.heap.size, 8, none⟩ = some (.int .i64 ap) ∧ w'.cell? ⟨wr.heap.size, 9, none⟩ = some (.slice av nv cv) ∧ w'.cell? ⟨wr.heap.size, 10, none⟩ = some (.slice al nl cl)) w') := Lib.hid (fun w' mm => by
       have h1 := mm.heap HBX.out HNE.out
       exact ⟨cell_of_row h1 2, cell_of_row h1 3, cell_of_row h1 4, cell_of_row h1 5, cell_of_row h1 6, cell_of_row h1 7, cell_of_row h1 8, cell_of_row h1 9, cell_of_row h1 10⟩)
     have HM01 : Hid (Mod (fun k => k = w.heap.size) W1 W1.drew) := Lib.hid (Mod.refl _ _).drew
     obtain ⟨k2, k3, k4, k5, k6, k7, k8, k9, k10⟩ := HKEEP.out W1.drew HM01.out
     have zw : wr.heap.size < W1.heap.size := lt_of_block HBX.out
     go_upto_region 5 with fail
     rw [← hW1]
     clear hW1 p0 p1 p2 p3 p4 p5 p6 p7 p8 p9 p10
     go_wp2_with fail
     go_region_held3 (fun w' => w'.cell? ⟨wr.heap.size, 2, none⟩ = some (.int .u8 (kind : Int)) ∧ w'.cell? ⟨wr.heap.size, 3, none⟩ = some (.slice ao no co) ∧ w'.cell? ⟨wr.heap.size, 4, none⟩ = some (.int .u32 (rv : Int)) ∧ w'.cell? ⟨wr.heap.size, 5, none⟩ = some (.int .i64 rk) ∧ w'.cell? ⟨wr.heap.size, 6, none⟩ = some (.int .i64 rd) ∧ w'.cell? ⟨wr.heap.size, 7, none⟩ = some (.int .i64 ae) ∧ w'.cell? ⟨wr.heap.size, 8, none⟩ = some (.int .i64 ap) ∧ w'.cell? ⟨wr.heap.size, 9, none⟩ = some (.slice av nv cv) ∧ w'.cell? ⟨wr.heap.size, 10, none⟩ = some (.slice al nl cl))
       (first
         | go_keep
         | exact HKEEP.out _ HM4.out
         | exact HKEEP.out _ HM3.out)
       ((first
         | (have hq := HR3.out; go_at_call 19; go_loud (refine (HSA.out _ _ _ HR3.out.1.mod HR3.out.2.1 HR3.out.2.2).mono ?_; (rintro e w4 ⟨rfl, hm4⟩); have HM4 : Hid (Mod (fun k => k = w.heap.size) W1 w4) := Lib.hid (HM3.out.trans (hm4.mono (fun _ _ f => f.elim))); have HR4 := Lib.hid (HR3.out.1.keep hm4); clear hm4 hq))
         | (go_at_call 9; go_loud (refine (HDO.out _ HM1.out.drew).mono ?_; (rintro e w3 ⟨a1, c1, n1, a2, c2, n2, rfl, hs3, hm3, hv3, hl3⟩); have HM3 : Hid (Mod (fun k => k = w.heap.size) W1 w3) := Lib.hid (HM01.out.trans hm3); have HR3 := Lib.hid (And.intro hs3 (And.intro hv3 hl3)); clear hs3 hm3 hv3 hl3))))
     all_goals
       cases bad with
       | true =>
         have HOK2 : Hid (∀ j, j < k + 1 → ansBad (l.map Cm.x) j = false) := Lib.hid (fun j hj => by
           by_cases e : j < k
           · exact HOK.out j e
           · obtain rfl : j = k := by omega
             exact HBAD.out)
         go_wp2
         go_roundw
         case rel => exact ⟨k + 1, by go_num, by omega, by rw [HNX.out]; exact HR4.out, HOK2.out⟩
         case measure => simp [intOf]; omega
       | false =>
         have HR : Hid (verdict (l.map Cm.x) (rs.map Cm.x) = some (1, k)) := Lib.hid (by rw [HVD.out, firstI_some hkm HOK.out HBAD.out]; rfl)
         go_wp2
         refine bodyPost_ret (v := .tuple #[.int .i64 1, .int .i64 (k : Int)]) (by simp [results, Tryz.results14, go_sem]) rfl ⟨by rw [HR.out]; rfl, HR4.out.mod⟩
   · skip
     have HF1 : Hid (firstI m (ansBad (l.map Cm.x)) = none) := Lib.hid (firstI_none (fun i hi => HOK.out i (by omega)))
     replace HVD : Hid (verdict (l.map Cm.x) (rs.map Cm.x) = pick4 none (firstI m (numBad2 (l.map Cm.x))) (firstR (repA (l.map Cm.x)) (rs.map Cm.x)) (firstR (repB (l.map Cm.x)) (rs.map Cm.x))) := Lib.hid (by rw [HVD.out, HF1.out])
     obtain ⟨wa, hwa⟩ : ∃ wa : World, wa = wr := ⟨_, rfl⟩
     subst hwa
     go_wp2
     clear HST HOK HF1 hkm hk
     go_loopw [39] (fun i wr => ∃ k : Nat, i = .int .i64 (k : Int) ∧ k ≤ m ∧ Mod (fun _ => False) w wr ∧ ∀ j, j < k → numBad2 (l.map Cm.x) j = false) (fun i _ => m - (intOf i).toNat)
     case atStart => exact ⟨0, rfl, Nat.zero_le _, HK.out, fun j hj => by omega⟩
     case round =>
       obtain ⟨wo, hwo⟩ : ∃ wo : World, wo = wr := ⟨_, rfl⟩
       subst hwo
       obtain ⟨k2, rfl, hk2, hm2, hok⟩ := hrel
       replace HK := Lib.hid hm2
       have HOK := Lib.hid hok
       clear hm2 hok
       by_cases hkm2 : k2 < m
       · skip
         obtain ⟨x, hx⟩ : ∃ x, l[k2]? = some x := ⟨_, List.getElem?_eq_getElem (by rw [← HML.out]; exact hkm2)⟩
         obtain ⟨b, off, e1, hb, hcs⟩ := CRd.ent (cells := Cm.c11) (size := 11) (fun _ => rfl) (by decide) HV.out hx rfl
         obtain rfl := e1
         have hxx : (l.map Cm.x)[k2]? = some x.x := by rw [List.getElem?_map, hx]; rfl
         have HXX := Lib.hid hxx
         have HRX := Lib.hid ((HV.out.at hx).keep HK.out)
         have hcs : ∀ j, j < 11 → ∀ u, x.c11[j]? = some u → wo.cell? ⟨b, off + (k2 * 11 + j), none⟩ = some u := fun j hj u hu => HK.out.cell ((hcs j hj).trans hu)
         obtain ⟨ao, co, hvo⟩ := HRX.out.vo_eq
         obtain ⟨av, cv, hvv⟩ := HRX.out.vv_eq
         obtain ⟨al, cl, hvl⟩ := HRX.out.vl_eq
         clear hx hxx
         obtain ⟨⟨xc, xq, ⟨kind, ops, rv, rk, rd⟩, ae, ap, vals, list, fr, to_⟩, vo, vv, vl⟩ := x
         simp only at hvo hvv hvl
         subst hvo hvv hvl
         obtain ⟨no, hno⟩ : ∃ n, n = ops.length := ⟨_, rfl⟩
         obtain ⟨nv, hnv⟩ : ∃ n, n = vals.length := ⟨_, rfl⟩
         obtain ⟨nl, hnl⟩ : ∃ n, n = list.length := ⟨_, rfl⟩
         simp only [Cm.c11, ← hno, ← hnv, ← hnl] at hcs
         have p0 := hcs 0 (by omega) _ rfl
         have p1 := hcs 1 (by omega) _ rfl
         have p2 := hcs 2 (by omega) _ rfl
         have p3 := hcs 3 (by omega) _ rfl
         have p4 := hcs 4 (by omega) _ rfl
         have p5 := hcs 5 (by omega) _ rfl
         have p6 := hcs 6 (by omega) _ rfl
         have p7 := hcs 7 (by omega) _ rfl
         have p8 := hcs 8 (by omega) _ rfl
         have p9 := hcs 9 (by omega) _ rfl
         have p10 := hcs 10 (by omega) _ rfl
         simp only [← Nat.add_assoc, Nat.add_zero] at p0 p1 p2 p3 p4 p5 p6 p7 p8 p9 p10
         have zb := Nat.lt_of_lt_of_le hb HK.out.size
         clear hcs hb
         clear hno hnv hnl HRX
         obtain ⟨as_, cs_, hsl, hcut⟩ := HV.out.to11 (k := k2) (by have := HML.out; omega) .i64
         have HCUT := Lib.hid hcut
         have HBW : Hid (Mod (fun _ => False) w (wo.alloc (.cells #[.int .u8 (xc : Int), .int .u32 (xq : Int), .int .u8 (kind : Int), .slice ao no co, .int .u32 (rv : Int), .int .i64 rk, .int .i64 rd, .int .i64 ae, .int .i64 ap, .slice av nv cv, .slice al nl cl] 42))) := Lib.hid (HK.out.alloc _)
         have HTL : Hid ((l.take k2).length = k2) := Lib.hid (by rw [List.length_take]; have := HML.out; omega)
         have HNB : Hid (numBad2 (l.map Cm.x) k2 = ((l.take k2).map Cm.x).any fun y => decide (y.cl = xc) && decide (xq ≤ y.sq)) := Lib.hid (by unfold numBad2; rw [HXX.out, ← List.map_take])
         clear hcut
         go_wp2
         have hbx := heap_alloc_new' wo (.cells #[.int .u8 (xc : Int), .int .u32 (xq : Int), .int .u8 (kind : Int), .slice ao no co, .int .u32 (rv : Int), .int .i64 rk, .int .i64 rd, .int .i64 ae, .int .i64 ap, .slice av nv cv, .slice al nl cl] 42)
         have HBX := Lib.hid hbx
         clear hbx hsl p0 p1 p2 p3 p4 p5 p6 p7 p8 p9 p10
         go_loopw [48] (fun i wy => ∃ q : Nat, i = .int .i64 (q : Int) ∧ q ≤ k2 ∧ Mod (fun _ => False) (wo.alloc (.cells #[.int .u8 (xc : Int), .int .u32 (xq : Int), .int .u8 (kind : Int), .slice ao no co, .int .u32 (rv : Int), .int .i64 rk, .int .i64 rd, .int .i64 ae, .int .i64 ap, .slice av nv cv, .slice al nl cl] 42)) wy ∧ ∀ y ∈ (l.take k2).take q, (decide (y.x.cl = xc) && decide (xq ≤ y.x.sq)) = false) (fun i _ => k2 - (intOf i).toNat)
         case atStart => exact ⟨0, rfl, Nat.zero_le _, Mod.refl _ _, by simp⟩
         case round =>
           obtain ⟨q, rfl, hq, hmq, hokq⟩ := hrel
           have HMQ := Lib.hid hmq
           have HOKQ := Lib.hid hokq
           clear hmq hokq
           have hbx := HMQ.out.heap HBX.out (fun f => f)
           have d0 := cell_of_row hbx 0
           have d1 := cell_of_row hbx 1
           have zd := lt_of_block hbx
           simp at d0 d1
           clear hbx
           by_cases hqk : q < k2
           · obtain ⟨y, hy⟩ : ∃ y, (l.take k2)[q]? = some y := ⟨_, List.getElem?_eq_getElem (by rw [HTL.out]; exact hqk)⟩
             obtain ⟨b2, off2, e2, hb2, hcs⟩ := CRd.ent (cells := Cm.c11) (size := 11) (fun _ => rfl) (by decide) HCUT.out hy rfl
             obtain rfl := e2
             have HRY := Lib.hid (HCUT.out.at hy)
             have HMY : Hid (Mod (fun _ => False) w wr) := Lib.hid (HBW.out.trans HMQ.out)
             have hcs : ∀ j, j < 11 → ∀ u, y.c11[j]? = some u → wr.cell? ⟨b2, off2 + (q * 11 + j), none⟩ = some u := fun j hj u hu => HMY.out.cell ((hcs j hj).trans hu)
             obtain ⟨go, gno, gvo⟩ := HRY.out.vo_eq
             obtain ⟨gv, gnv, gvv⟩ := HRY.out.vv_eq
             obtain ⟨gl, gnl, gvl⟩ := HRY.out.vl_eq
             have HNQ : Hid ((decide (y.x.cl = xc) && decide (xq ≤ y.x.sq)) = false → ∀ z ∈ (l.take k2).take (q + 1), (decide (z.x.cl = xc) && decide (xq ≤ z.x.sq)) = false) := Lib.hid (fun h z hz => by
               rw [take_snoc' hy] at hz
               rcases List.mem_append.1 hz with hz | hz
               · exact HOKQ.out z hz
               · rw [List.mem_singleton] at hz; rw [hz]; exact h)
             have HYES : Hid ((decide (y.x.cl = xc) && decide (xq ≤ y.x.sq)) = true → numBad2 (l.map Cm.x) k2 = true) := Lib.hid (fun h => by
               rw [HNB.out, List.any_eq_true]
               exact ⟨y.x, List.mem_map_of_mem (List.mem_of_getElem? hy), h⟩)
             clear hy HRY
             obtain ⟨⟨yc, yq, ⟨ykind, yops, yrv, yrk, yrd⟩, ye, yp, yvals, ylist, yfr, yto⟩, yvo, yvv, yvl⟩ := y
             simp only at gvo gvv gvl HNQ HYES
             subst gvo gvv gvl
             obtain ⟨yno, hyno⟩ : ∃ n, n = yops.length := ⟨_, rfl⟩
             obtain ⟨ynv, hynv⟩ : ∃ n, n = yvals.length := ⟨_, rfl⟩
             obtain ⟨ynl, hynl⟩ : ∃ n, n = ylist.length := ⟨_, rfl⟩
             simp only [Cm.c11, ← hyno, ← hynv, ← hynl] at hcs
             have p0 := hcs 0 (by omega) _ rfl
             have p1 := hcs 1 (by omega) _ rfl
             have p2 := hcs 2 (by omega) _ rfl
             have p3 := hcs 3 (by omega) _ rfl
             have p4 := hcs 4 (by omega) _ rfl
             have p5 := hcs 5 (by omega) _ rfl
             have p6 := hcs 6 (by omega) _ rfl
             have p7 := hcs 7 (by omega) _ rfl
             have p8 := hcs 8 (by omega) _ rfl
             have p9 := hcs 9 (by omega) _ rfl
             have p10 := hcs 10 (by omega) _ rfl
             simp only [← Nat.add_assoc, Nat.add_zero] at p0 p1 p2 p3 p4 p5 p6 p7 p8 p9 p10
             have zb2 := Nat.lt_of_lt_of_le hb2 HMY.out.size
             clear hcs hb2 hyno hynv hynl
             by_cases h1 : yc = xc
             · by_cases h2 : xq ≤ yq
               · have HR : Hid (verdict (l.map Cm.x) (rs.map Cm.x) = some (2, k2)) := Lib.hid (by rw [HVD.out, firstI_some hkm2 HOK.out (HYES.out (by simp [h1, h2]))]; rfl)
                 have h2i : (xq : Int) ≤ (yq : Int) := by omega
                 subst h1
                 go_wp2
                 refine bodyPost_ret (v := .tuple #[.int .i64 2, .int .i64 (k2 : Int)]) (by simp [results, Tryz.results14, go_sem]) rfl ⟨by rw [HR.out]; rfl, HMY.out.alloc _⟩
               · have HN := Lib.hid (HNQ.out (by simp [h2]))
                 have h2i : ¬ (xq : Int) ≤ (yq : Int) := by omega
                 subst h1
                 go_wp2
                 go_roundw
                 case rel => exact ⟨q + 1, by go_num, by omega, HMQ.out.alloc _, HN.out⟩
                 case measure => simp [intOf]; omega
             · have HN := Lib.hid (HNQ.out (by simp [h1]))
               have g1 : ((yc : Int) == (xc : Int)) = false := by simp; omega
               have g2 : ¬ (yc : Int) = (xc : Int) := by omega
               go_wp2
               go_roundw
               case rel => exact ⟨q + 1, by go_num, by omega, HMQ.out.alloc _, HN.out⟩
               case measure => simp [intOf]; omega
           · have HOK2 : Hid (∀ j, j < k2 + 1 → numBad2 (l.map Cm.x) j = false) := Lib.hid (fun j hj => by
               by_cases e : j < k2
               · exact HOK.out j e
               · obtain rfl : j = k2 := by omega
                 rw [HNB.out, List.any_eq_false]
                 intro y hy
                 obtain ⟨z, hz, rfl⟩ := List.mem_map.1 hy
                 have := HOKQ.out z (by rw [List.take_of_length_le (by rw [HTL.out]; omega)]; exact hz)
                 simpa using this)
             clear d0 d1
             go_wp2
             go_roundw
             case rel => exact ⟨k2 + 1, by go_num, by omega, HBW.out.trans HMQ.out, HOK2.out⟩
             case measure => simp [intOf]; omega
       · skip
         have HF2 : Hid (firstI m (numBad2 (l.map Cm.x)) = none) := Lib.hid (firstI_none (fun i hi => HOK.out i (by omega)))
         replace HVD : Hid (verdict (l.map Cm.x) (rs.map Cm.x) = pick4 none none (firstR (repA (l.map Cm.x)) (rs.map Cm.x)) (firstR (repB (l.map Cm.x)) (rs.map Cm.x))) := Lib.hid (by rw [HVD.out, HF2.out])
         go_wp2
         clear HOK HF2 hkm2 hk2
         go_loopw [69] (fun i wr => ∃ k : Nat, i = .int .i64 (k : Int) ∧ k ≤ m' ∧ Mod (fun _ => False) w wr ∧ ∀ j, j < k → ∀ y, (rs.map Cm.x)[j]? = some y → repA (l.map Cm.x) y = false) (fun i _ => m' - (intOf i).toNat)
         case atStart => exact ⟨0, rfl, Nat.zero_le _, HK.out, fun j hj => by omega⟩
         case round =>
           obtain ⟨wp, hwp⟩ : ∃ wo : World, wo = wr := ⟨_, rfl⟩
           subst hwp
           obtain ⟨k3, rfl, hk3, hm3, hok⟩ := hrel
           replace HK := Lib.hid hm3
           have HOK := Lib.hid hok
           clear hm3 hok
           by_cases hkm3 : k3 < m'
           · skip
             obtain ⟨x, hx⟩ : ∃ x, rs[k3]? = some x := ⟨_, List.getElem?_eq_getElem (by rw [← HML'.out]; exact hkm3)⟩
             obtain ⟨b, off, e1, hb, hcs⟩ := CRd.ent (cells := Cm.c13) (size := 13) (fun _ => rfl) (by decide) HU.out hx rfl
             obtain rfl := e1
             have hxx : (rs.map Cm.x)[k3]? = some x.x := by rw [List.getElem?_map, hx]; rfl
             have HXX := Lib.hid hxx
             have HRX := Lib.hid ((HU.out.at hx).keep HK.out)
             have hcs : ∀ j, j < 13 → ∀ u, x.c13[j]? = some u → wp.cell? ⟨b, off + (k3 * 13 + j), none⟩ = some u := fun j hj u hu => HK.out.cell ((hcs j hj).trans hu)
             obtain ⟨ao, co, hvo⟩ := HRX.out.vo_eq
             obtain ⟨av, cv, hvv⟩ := HRX.out.vv_eq
             obtain ⟨al, cl, hvl⟩ := HRX.out.vl_eq
             obtain ⟨xx, hxd⟩ : ∃ xx, xx = x.x := ⟨_, rfl⟩
             rw [← hxd] at HXX
             have HXD := Lib.hid hxd
             have HAL : Hid (∀ (y : Cm) w', y.Rd w → Mod (fun _ => False) w w' → Calls Tryz.prog 18 #[rqV y.x.r y.vo, rqV x.x.r x.vo] w' fun e w'' => e = .returned (.bool (decide (y.x.r = x.x.r))) ∧ Mod (fun _ => False) w' w'') := Lib.hid (fun y w' hy mm => reqsame_any y.x.r x.x.r y.vo x.vo w' (hy.keep mm).ops ((HU.out.at hx).keep mm).ops)
             have HSA : Hid (∀ (y : Cm) w', y.Rd w → Mod (fun _ => False) w w' → Calls Tryz.prog 19 #[.agg #[.int .i64 y.x.e, .int .i64 y.x.p, y.vv, y.vl], .agg #[.int .i64 x.x.e, .int .i64 x.x.p, x.vv, x.vl]] w' fun e w'' => e = .returned (.bool (sameC y.x x.x)) ∧ Mod (fun _ => False) w' w'') := Lib.hid (fun y w' hy mm => anssame_any _ _ _ _ y.x.vals x.x.vals y.x.list x.x.list y.vv y.vl x.vv x.vl w' (hy.keep mm).vals ((HU.out.at hx).keep mm).vals (hy.keep mm).list ((HU.out.at hx).keep mm).list)
             clear hxd
             clear hx hxx
             obtain ⟨⟨xc, xq, ⟨kind, ops, rv, rk, rd⟩, ae, ap, vals, list, fr, to_⟩, vo, vv, vl⟩ := x
             simp only at hvo hvv hvl
             subst hvo hvv hvl
             obtain ⟨no, hno⟩ : ∃ n, n = ops.length := ⟨_, rfl⟩
             obtain ⟨nv, hnv⟩ : ∃ n, n = vals.length := ⟨_, rfl⟩
             obtain ⟨nl, hnl⟩ : ∃ n, n = list.length := ⟨_, rfl⟩
             simp only [Cm.c13, ← hno, ← hnv, ← hnl] at hcs
             have p0 := hcs 0 (by omega) _ rfl
             have p1 := hcs 1 (by omega) _ rfl
             have p2 := hcs 2 (by omega) _ rfl
             have p3 := hcs 3 (by omega) _ rfl
             have p4 := hcs 4 (by omega) _ rfl
             have p5 := hcs 5 (by omega) _ rfl
             have p6 := hcs 6 (by omega) _ rfl
             have p7 := hcs 7 (by omega) _ rfl
             have p8 := hcs 8 (by omega) _ rfl
             have p9 := hcs 9 (by omega) _ rfl
             have p10 := hcs 10 (by omega) _ rfl
             have p11 := hcs 11 (by omega) _ rfl
             have p12 := hcs 12 (by omega) _ rfl
             simp only [← Nat.add_assoc, Nat.add_zero] at p0 p1 p2 p3 p4 p5 p6 p7 p8 p9 p10 p11 p12
             have zb := Nat.lt_of_lt_of_le hb HK.out.size
             clear hcs hb
             simp only [rqV, ← hno, ← hnv, ← hnl] at HAL HSA
             clear hno hnv hnl HRX
             have HBW : Hid (Mod (fun _ => False) w (wp.alloc (.cells #[.int .u8 (xc : Int), .int .u32 (xq : Int), .int .u8 (kind : Int), .slice ao no co, .int .u32 (rv : Int), .int .i64 rk, .int .i64 rd, .int .i64 ae, .int .i64 ap, .slice av nv cv, .slice al nl cl, .int .i64 fr, .int .i64 to_] 44))) := Lib.hid (HK.out.alloc _)
             have HBX : Hid ((wp.alloc (.cells #[.int .u8 (xc : Int), .int .u32 (xq : Int), .int .u8 (kind : Int), .slice ao no co, .int .u32 (rv : Int), .int .i64 rk, .int .i64 rd, .int .i64 ae, .int .i64 ap, .slice av nv cv, .slice al nl cl, .int .i64 fr, .int .i64 to_] 44)).heap[wp.heap.size]? = some (.cells #[.int .u8 (xc : Int), .int .u32 (xq : Int), .int .u8 (kind : Int), .slice ao no co, .int .u32 (rv : Int), .int .i64 rk, .int .i64 rd, .int .i64 ae, .int .i64 ap, .slice av nv cv, .slice al nl cl, .int .i64 fr, .int .i64 to_] 44 (0, 0))) := Lib.hid (heap_alloc_new' _ _)
             have HOKN : Hid (repA (l.map Cm.x) xx = false → ∀ j, j < k3 + 1 → ∀ y, (rs.map Cm.x)[j]? = some y → repA (l.map Cm.x) y = false) := Lib.hid (fun h j hj y hy => by
               by_cases e : j < k3
               · exact HOK.out j e y hy
               · obtain rfl : j = k3 := by omega
                 rw [HXX.out] at hy
                 injection hy with hy
                 rw [← hy]; exact h)
             have HBADN : Hid (repA (l.map Cm.x) xx = true → verdict (l.map Cm.x) (rs.map Cm.x) = some (3, k3)) := Lib.hid (fun h => by rw [HVD.out, firstR_some HXX.out h HOK.out]; rfl)
             by_cases h13 : ae = 13
             · have HN := Lib.hid (HOKN.out (by rw [HXD.out]; unfold repA Cx.given; simp [h13]))
               subst h13
               go_wp2
               go_roundw
               case rel => exact ⟨k3 + 1, by go_num, by omega, HBW.out, HN.out⟩
               case measure => simp [intOf]; omega
             · by_cases h14 : ae = 14
               · have HN := Lib.hid (HOKN.out (by rw [HXD.out]; unfold repA Cx.given; simp [h14]))
                 subst h14
                 go_wp2
                 go_roundw
                 case rel => exact ⟨k3 + 1, by go_num, by omega, HBW.out, HN.out⟩
                 case measure => simp [intOf]; omega
               · have g13 : (ae == 13) = false := by simpa using h13
                 have g14 : (ae == 14) = false := by simpa using h14
                 have HRA : Hid (repA (l.map Cm.x) xx = !meets (l.map Cm.x) xx) := Lib.hid (by
                   have hg : xx.given = false := by rw [HXD.out]; unfold Cx.given; simp [h13, h14]
                   unfold repA; rw [hg]; rfl)
                 have HFX := Lib.hid (HFD.out xc xq _ HBW.out)
                 clear h13 h14
                 cases hp : placeOf (l.map Cm.x) (xc, xq) with
                 | none =>
                   have HR := Lib.hid (HBADN.out (by
                     have hm : meets (l.map Cm.x) xx = false := by rw [HXD.out]; unfold meets; simp only [Cx.nm]; rw [hp]
                     rw [HRA.out, hm]; rfl))
                   rw [hp] at HFX
                   simp only [placeZ] at HFX
                   clear hp HRA HAL HSA
                   go_wp2_with (go_at_call 39; go_loud (refine HFX.out.mono ?_; (rintro e w5 ⟨rfl, hm5⟩); have HM5 : Hid (Mod (fun _ => False) w w5) := Lib.hid (HBW.out.trans hm5); clear hm5))
                   refine wp_region_quietM (by kernel_rfl) (by kernel_rfl) ?_
                   repeat (go_big_quiet_step (fail))
                   refine wpQuiet_nil ?_
                   intro w6 hm6
                   have M6 : Hid (Mod (fun _ => False) w w6) := Lib.hid (HM5.out.trans (MW.mod_of hm6))
                   clear hm6
                   go_wp2
                   refine bodyPost_ret (v := .tuple #[.int .i64 3, .int .i64 (k3 : Int)]) (by simp [results, Tryz.results14, go_sem]) rfl ⟨by rw [HR.out]; rfl, M6.out⟩
                 | some i =>
                   have hil : i < m := by
                     have h := hp
                     unfold placeOf at h
                     rw [List.findIdx?_eq_some_iff_getElem] at h
                     obtain ⟨h1, -⟩ := h
                     rw [List.length_map] at h1
                     rw [HML.out]; exact h1
                   obtain ⟨y, hy⟩ : ∃ y, l[i]? = some y := ⟨_, List.getElem?_eq_getElem (by rw [← HML.out]; exact hil)⟩
                   have hyy : (l.map Cm.x)[i]? = some y.x := by rw [List.getElem?_map, hy]; rfl
                   obtain ⟨b2, off2, e2, hb2, hcs⟩ := CRd.ent (cells := Cm.c11) (size := 11) (fun _ => rfl) (by decide) HV.out hy rfl
                   obtain rfl := e2
                   have hry := HV.out.at hy
                   have HAL := Lib.hid (fun w' mm => HAL.out y w' hry mm)
                   have HSA := Lib.hid (fun w' mm => HSA.out y w' hry mm)
                   obtain ⟨yo, yoc, gvo⟩ := hry.vo_eq
                   obtain ⟨yv, yvc, gvv⟩ := hry.vv_eq
                   obtain ⟨yl, ylc, gvl⟩ := hry.vl_eq
                   have HME : Hid (meets (l.map Cm.x) xx = (decide (fr ≤ (i : Int)) && (decide ((i : Int) < to_) && (decide (y.x.r = ⟨kind, ops, rv, rk, rd⟩) && sameC y.x xx)))) := Lib.hid (by rw [HXD.out]; unfold meets; simp only [Cx.nm]; rw [hp]; simp only; rw [hyy])
                   rw [HME.out] at HRA
                   rw [hp] at HFX
                   simp only [placeZ] at HFX
                   obtain ⟨b3, hb3⟩ : ∃ b, b = decide (y.x.r = ⟨kind, ops, rv, rk, rd⟩) := ⟨_, rfl⟩
                   obtain ⟨b4, hb4⟩ : ∃ b, b = sameC y.x xx := ⟨_, rfl⟩
                   rw [← hb3, ← hb4] at HRA
                   simp only [← hb3] at HAL
                   rw [HXD.out] at hb4
                   simp only [← hb4] at HSA
                   clear hp HME hy hyy hry hb3 hb4
                   obtain ⟨⟨yc, yq, ⟨ykind, yops, yrv, yrk, yrd⟩, ye, yp, yvals, ylist, yfr, yto⟩, yvo, yvv, yvl⟩ := y
                   simp only at gvo gvv gvl
                   subst gvo gvv gvl
                   obtain ⟨yno, hyno⟩ : ∃ n, n = yops.length := ⟨_, rfl⟩
                   obtain ⟨ynv, hynv⟩ : ∃ n, n = yvals.length := ⟨_, rfl⟩
                   obtain ⟨ynl, hynl⟩ : ∃ n, n = ylist.length := ⟨_, rfl⟩
                   simp only [Cm.c11, ← hyno, ← hynv, ← hynl] at HAL HSA hcs
                   have y2 := hcs 2 (by omega)
                   have y3 := hcs 3 (by omega)
                   have y4 := hcs 4 (by omega)
                   have y5 := hcs 5 (by omega)
                   have y6 := hcs 6 (by omega)
                   have y7 := hcs 7 (by omega)
                   have y8 := hcs 8 (by omega)
                   have y9 := hcs 9 (by omega)
                   have y10 := hcs 10 (by omega)
                   simp only [List.getElem?_cons_succ, List.getElem?_cons_zero, ← Nat.add_assoc] at y2 y3 y4 y5 y6 y7 y8 y9 y10
                   have HYC : Hid (w.cell? ⟨b2, off2 + i * 11 + 2, none⟩ = some (.int .u8 (ykind : Int)) ∧ w.cell? ⟨b2, off2 + i * 11 + 3, none⟩ = some (.slice yo yno yoc) ∧ w.cell? ⟨b2, off2 + i * 11 + 4, none⟩ = some (.int .u32 (yrv : Int)) ∧ w.cell? ⟨b2, off2 + i * 11 + 5, none⟩ = some (.int .i64 yrk) ∧ w.cell? ⟨b2, off2 + i * 11 + 6, none⟩ = some (.int .i64 yrd) ∧ w.cell? ⟨b2, off2 + i * 11 + 7, none⟩ = some (.int .i64 ye) ∧ w.cell? ⟨b2, off2 + i * 11 + 8, none⟩ = some (.int .i64 yp) ∧ w.cell? ⟨b2, off2 + i * 11 + 9, none⟩ = some (.slice yv ynv yvc) ∧ w.cell? ⟨b2, off2 + i * 11 + 10, none⟩ = some (.slice yl ynl ylc)) := Lib.hid ⟨y2, y3, y4, y5, y6, y7, y8, y9, y10⟩
                   clear hyno hynv hynl hcs y2 y3 y4 y5 y6 y7 y8 y9 y10
                   have zb2 := hb2
                   clear hb2
                   go_upto_region 23 with (go_at_call 39; go_loud (refine HFX.out.mono ?_; (rintro e w5 ⟨rfl, hm5⟩); have HM5 : Hid (Mod (fun _ => False) w w5) := Lib.hid (HBW.out.trans hm5); have hbx5 := hm5.heap HBX.out (fun f => f); have HBX5 := Lib.hid hbx5; clear hm5 hbx5))
                   clear p0 p1 p2 p3 p4 p5 p6 p7 p8 p9 p10 p11 p12
                   obtain ⟨y2, y3, y4, y5, y6, y7, y8, y9, y10⟩ := HYC.out
                   have y2 : ∀ x : MW w5, x.w.cell? _ = some _ := fun x => x.cell (HM5.out.cell y2)
                   have y3 : ∀ x : MW w5, x.w.cell? _ = some _ := fun x => x.cell (HM5.out.cell y3)
                   have y4 : ∀ x : MW w5, x.w.cell? _ = some _ := fun x => x.cell (HM5.out.cell y4)
                   have y5 : ∀ x : MW w5, x.w.cell? _ = some _ := fun x => x.cell (HM5.out.cell y5)
                   have y6 : ∀ x : MW w5, x.w.cell? _ = some _ := fun x => x.cell (HM5.out.cell y6)
                   have y7 : ∀ x : MW w5, x.w.cell? _ = some _ := fun x => x.cell (HM5.out.cell y7)
                   have y8 : ∀ x : MW w5, x.w.cell? _ = some _ := fun x => x.cell (HM5.out.cell y8)
                   have y9 : ∀ x : MW w5, x.w.cell? _ = some _ := fun x => x.cell (HM5.out.cell y9)
                   have y10 : ∀ x : MW w5, x.w.cell? _ = some _ := fun x => x.cell (HM5.out.cell y10)
                   have d2 : ∀ x : MW w5, x.w.cell? ⟨wp.heap.size, 2, none⟩ = some _ := fun x => x.cell (cell_of_row HBX5.out 2)
                   have d3 : ∀ x : MW w5, x.w.cell? ⟨wp.heap.size, 3, none⟩ = some _ := fun x => x.cell (cell_of_row HBX5.out 3)
                   have d4 : ∀ x : MW w5, x.w.cell? ⟨wp.heap.size, 4, none⟩ = some _ := fun x => x.cell (cell_of_row HBX5.out 4)
                   have d5 : ∀ x : MW w5, x.w.cell? ⟨wp.heap.size, 5, none⟩ = some _ := fun x => x.cell (cell_of_row HBX5.out 5)
                   have d6 : ∀ x : MW w5, x.w.cell? ⟨wp.heap.size, 6, none⟩ = some _ := fun x => x.cell (cell_of_row HBX5.out 6)
                   have d7 : ∀ x : MW w5, x.w.cell? ⟨wp.heap.size, 7, none⟩ = some _ := fun x => x.cell (cell_of_row HBX5.out 7)
                   have d8 : ∀ x : MW w5, x.w.cell? ⟨wp.heap.size, 8, none⟩ = some _ := fun x => x.cell (cell_of_row HBX5.out 8)
                   have d9 : ∀ x : MW w5, x.w.cell? ⟨wp.heap.size, 9, none⟩ = some _ := fun x => x.cell (cell_of_row HBX5.out 9)
                   have d10 : ∀ x : MW w5, x.w.cell? ⟨wp.heap.size, 10, none⟩ = some _ := fun x => x.cell (cell_of_row HBX5.out 10)
                   have d11 : ∀ x : MW w5, x.w.cell? ⟨wp.heap.size, 11, none⟩ = some _ := fun x => x.cell (cell_of_row HBX5.out 11)
                   have d12 : ∀ x : MW w5, x.w.cell? ⟨wp.heap.size, 12, none⟩ = some _ := fun x => x.cell (cell_of_row HBX5.out 12)
                   have HAQ : Hid (∀ x : MW w5, Calls Tryz.prog 18 #[.agg #[.int .u8 (ykind : Int), .slice yo yno yoc, .int .u32 (yrv : Int), .int .i64 yrk, .int .i64 yrd], .agg #[.int .u8 (kind : Int), .slice ao no co, .int .u32 (rv : Int), .int .i64 rk, .int .i64 rd]] x.w fun e w'' => e = .returned (.bool b3) ∧ ∃ x' : MW w5, w'' = x'.w) := Lib.hid (fun x => Calls.quietM (HAL.out x.w (HM5.out.trans x.mod)))
                   have HSQ : Hid (∀ x : MW w5, Calls Tryz.prog 19 #[.agg #[.int .i64 ye, .int .i64 yp, .slice yv ynv yvc, .slice yl ynl ylc], .agg #[.int .i64 ae, .int .i64 ap, .slice av nv cv, .slice al nl cl]] x.w fun e w'' => e = .returned (.bool b4) ∧ ∃ x' : MW w5, w'' = x'.w) := Lib.hid (fun x => Calls.quietM (HSA.out x.w (HM5.out.trans x.mod)))
                   clear HAL HSA
                   have g0 : decide ((i : Int) < 0) = false := by simp
                   by_cases h1 : fr ≤ (i : Int)
                   · have g1 : decide ((i : Int) < fr) = false := by simpa using h1
                     have e1 : decide (fr ≤ (i : Int)) = true := by simpa using h1
                     rw [e1] at HRA
                     clear e1
                     by_cases h2 : (i : Int) < to_
                     · have g2 : decide (to_ ≤ (i : Int)) = false := by simpa using h2
                       have e1 : decide ((i : Int) < to_) = true := by simpa using h2
                       rw [e1] at HRA
                       clear e1
                       cases b3 with
                       | true =>
                         cases b4 with
                         | true =>
                           have HN := Lib.hid (HOKN.out (by rw [HRA.out]; simp))
                           go_wp2_with fail
                           refine wp_region_quietM (by kernel_rfl) (by kernel_rfl) ?_
                           repeat (go_big_quiet_step (first | (go_at_call 19; exact HSQ.out _) | (go_at_call 18; exact HAQ.out _)))
                           refine wpQuiet_nil ?_
                           intro w6 hm6
                           have M6 : Hid (Mod (fun _ => False) w w6) := Lib.hid (HM5.out.trans (MW.mod_of hm6))
                           clear hm6 y2 y3 y4 y5 y6 y7 y8 y9 y10 d2 d3 d4 d5 d6 d7 d8 d9 d10 d11 d12
                           go_wp2
                           go_roundw
                           case rel => exact ⟨k3 + 1, by go_num, by omega, M6.out, HN.out⟩
                           case measure => simp [intOf]; omega
                         | false =>
                           have HR := Lib.hid (HBADN.out (by rw [HRA.out]; simp))
                           go_wp2_with fail
                           refine wp_region_quietM (by kernel_rfl) (by kernel_rfl) ?_
                           repeat (go_big_quiet_step (first | (go_at_call 19; exact HSQ.out _) | (go_at_call 18; exact HAQ.out _)))
                           refine wpQuiet_nil ?_
                           intro w6 hm6
                           have M6 : Hid (Mod (fun _ => False) w w6) := Lib.hid (HM5.out.trans (MW.mod_of hm6))
                           clear hm6 y2 y3 y4 y5 y6 y7 y8 y9 y10 d2 d3 d4 d5 d6 d7 d8 d9 d10 d11 d12
                           go_wp2
                           refine bodyPost_ret (v := .tuple #[.int .i64 3, .int .i64 (k3 : Int)]) (by simp [results, Tryz.results14, go_sem]) rfl ⟨by rw [HR.out]; rfl, M6.out⟩
                       | false =>
                         have HR := Lib.hid (HBADN.out (by rw [HRA.out]; simp))
                         go_wp2_with fail
                         refine wp_region_quietM (by kernel_rfl) (by kernel_rfl) ?_
                         repeat (go_big_quiet_step (first | (go_at_call 19; exact HSQ.out _) | (go_at_call 18; exact HAQ.out _)))
                         refine wpQuiet_nil ?_
                         intro w6 hm6
                         have M6 : Hid (Mod (fun _ => False) w w6) := Lib.hid (HM5.out.trans (MW.mod_of hm6))
                         clear hm6 y2 y3 y4 y5 y6 y7 y8 y9 y10 d2 d3 d4 d5 d6 d7 d8 d9 d10 d11 d12
                         go_wp2
                         refine bodyPost_ret (v := .tuple #[.int .i64 3, .int .i64 (k3 : Int)]) (by simp [results, Tryz.results14, go_sem]) rfl ⟨by rw [HR.out]; rfl, M6.out⟩
                     · have g2 : decide (to_ ≤ (i : Int)) = true := by simp; omega
                       have e1 : decide ((i : Int) < to_) = false := by simpa using h2
                       rw [e1] at HRA
                       clear e1
                       have HR := Lib.hid (HBADN.out (by rw [HRA.out]; simp))
                       go_wp2_with fail
                       refine wp_region_quietM (by kernel_rfl) (by kernel_rfl) ?_
                       repeat (go_big_quiet_step (first | (go_at_call 19; exact HSQ.out _) | (go_at_call 18; exact HAQ.out _)))
                       refine wpQuiet_nil ?_
                       intro w6 hm6
                       have M6 : Hid (Mod (fun _ => False) w w6) := Lib.hid (HM5.out.trans (MW.mod_of hm6))
                       clear hm6 y2 y3 y4 y5 y6 y7 y8 y9 y10 d2 d3 d4 d5 d6 d7 d8 d9 d10 d11 d12
                       go_wp2
                       refine bodyPost_ret (v := .tuple #[.int .i64 3, .int .i64 (k3 : Int)]) (by simp [results, Tryz.results14, go_sem]) rfl ⟨by rw [HR.out]; rfl, M6.out⟩
                   · have g1 : decide ((i : Int) < fr) = true := by simp; omega
                     have e1 : decide (fr ≤ (i : Int)) = false := by simpa using h1
                     rw [e1] at HRA
                     clear e1
                     have HR := Lib.hid (HBADN.out (by rw [HRA.out]; simp))
                     go_wp2_with fail
                     refine wp_region_quietM (by kernel_rfl) (by kernel_rfl) ?_
                     repeat (go_big_quiet_step (first | (go_at_call 19; exact HSQ.out _) | (go_at_call 18; exact HAQ.out _)))
                     refine wpQuiet_nil ?_
                     intro w6 hm6
                     have M6 : Hid (Mod (fun _ => False) w w6) := Lib.hid (HM5.out.trans (MW.mod_of hm6))
                     clear hm6 y2 y3 y4 y5 y6 y7 y8 y9 y10 d2 d3 d4 d5 d6 d7 d8 d9 d10 d11 d12
                     go_wp2
                     refine bodyPost_ret (v := .tuple #[.int .i64 3, .int .i64 (k3 : Int)]) (by simp [results, Tryz.results14, go_sem]) rfl ⟨by rw [HR.out]; rfl, M6.out⟩
           · skip
             have HF3 : Hid (firstR (repA (l.map Cm.x)) (rs.map Cm.x) = none) := Lib.hid (firstR_none (fun j y hy => HOK.out j (by have := (List.getElem?_eq_some_iff.1 hy).1; rw [List.length_map, ← HML'.out] at this; omega) y hy))
             replace HVD : Hid (verdict (l.map Cm.x) (rs.map Cm.x) = pick4 none none none (firstR (repB (l.map Cm.x)) (rs.map Cm.x))) := Lib.hid (by rw [HVD.out, HF3.out])
             go_wp2
             clear HOK HF3 hkm3 hk3
             go_loopw [130] (fun i wr => ∃ k : Nat, i = .int .i64 (k : Int) ∧ k ≤ m' ∧ Mod (fun _ => False) w wr ∧ ∀ j, j < k → ∀ y, (rs.map Cm.x)[j]? = some y → repB (l.map Cm.x) y = false) (fun i _ => m' - (intOf i).toNat)
             case atStart => exact ⟨0, rfl, Nat.zero_le _, HK.out, fun j hj => by omega⟩
             case round =>
               obtain ⟨ws, hws⟩ : ∃ wo : World, wo = wr := ⟨_, rfl⟩
               subst hws
               obtain ⟨k4, rfl, hk4, hm4, hok⟩ := hrel
               replace HK := Lib.hid hm4
               have HOK := Lib.hid hok
               clear hm4 hok
               by_cases hkm4 : k4 < m'
               · skip
                 obtain ⟨x, hx⟩ : ∃ x, rs[k4]? = some x := ⟨_, List.getElem?_eq_getElem (by rw [← HML'.out]; exact hkm4)⟩
                 obtain ⟨b, off, e1, hb, hcs⟩ := CRd.ent (cells := Cm.c13) (size := 13) (fun _ => rfl) (by decide) HU.out hx rfl
                 obtain rfl := e1
                 have hxx : (rs.map Cm.x)[k4]? = some x.x := by rw [List.getElem?_map, hx]; rfl
                 have HXX := Lib.hid hxx
                 have HRX := Lib.hid ((HU.out.at hx).keep HK.out)
                 have hcs : ∀ j, j < 13 → ∀ u, x.c13[j]? = some u → ws.cell? ⟨b, off + (k4 * 13 + j), none⟩ = some u := fun j hj u hu => HK.out.cell ((hcs j hj).trans hu)
                 obtain ⟨ao, co, hvo⟩ := HRX.out.vo_eq
                 obtain ⟨av, cv, hvv⟩ := HRX.out.vv_eq
                 obtain ⟨al, cl, hvl⟩ := HRX.out.vl_eq
                 obtain ⟨xx, hxd⟩ : ∃ xx, xx = x.x := ⟨_, rfl⟩
                 rw [← hxd] at HXX
                 have HXD := Lib.hid hxd
                 clear hxd
                 clear hx hxx
                 obtain ⟨⟨xc, xq, ⟨kind, ops, rv, rk, rd⟩, ae, ap, vals, list, fr, to_⟩, vo, vv, vl⟩ := x
                 simp only at hvo hvv hvl
                 subst hvo hvv hvl
                 obtain ⟨no, hno⟩ : ∃ n, n = ops.length := ⟨_, rfl⟩
                 obtain ⟨nv, hnv⟩ : ∃ n, n = vals.length := ⟨_, rfl⟩
                 obtain ⟨nl, hnl⟩ : ∃ n, n = list.length := ⟨_, rfl⟩
                 simp only [Cm.c13, ← hno, ← hnv, ← hnl] at hcs
                 have p0 := hcs 0 (by omega) _ rfl
                 have p1 := hcs 1 (by omega) _ rfl
                 have p2 := hcs 2 (by omega) _ rfl
                 have p3 := hcs 3 (by omega) _ rfl
                 have p4 := hcs 4 (by omega) _ rfl
                 have p5 := hcs 5 (by omega) _ rfl
                 have p6 := hcs 6 (by omega) _ rfl
                 have p7 := hcs 7 (by omega) _ rfl
                 have p8 := hcs 8 (by omega) _ rfl
                 have p9 := hcs 9 (by omega) _ rfl
                 have p10 := hcs 10 (by omega) _ rfl
                 have p11 := hcs 11 (by omega) _ rfl
                 have p12 := hcs 12 (by omega) _ rfl
                 simp only [← Nat.add_assoc, Nat.add_zero] at p0 p1 p2 p3 p4 p5 p6 p7 p8 p9 p10 p11 p12
                 have zb := Nat.lt_of_lt_of_le hb HK.out.size
                 clear hcs hb
                 clear hno hnv hnl HRX
                 have HBW : Hid (Mod (fun _ => False) w (ws.alloc (.cells #[.int .u8 (xc : Int), .int .u32 (xq : Int), .int .u8 (kind : Int), .slice ao no co, .int .u32 (rv : Int), .int .i64 rk, .int .i64 rd, .int .i64 ae, .int .i64 ap, .slice av nv cv, .slice al nl cl, .int .i64 fr, .int .i64 to_] 44))) := Lib.hid (HK.out.alloc _)
                 have HOKN : Hid (repB (l.map Cm.x) xx = false → ∀ j, j < k4 + 1 → ∀ y, (rs.map Cm.x)[j]? = some y → repB (l.map Cm.x) y = false) := Lib.hid (fun h j hj y hy => by
                   by_cases e : j < k4
                   · exact HOK.out j e y hy
                   · obtain rfl : j = k4 := by omega
                     rw [HXX.out] at hy
                     injection hy with hy
                     rw [← hy]; exact h)
                 have HBADN : Hid (repB (l.map Cm.x) xx = true → verdict (l.map Cm.x) (rs.map Cm.x) = some (4, k4)) := Lib.hid (fun h => by rw [HVD.out, firstR_some HXX.out h HOK.out]; rfl)
                 have HFX := Lib.hid (HFD.out xc xq _ HBW.out)
                 have HRB : Hid (repB (l.map Cm.x) xx = (decide (ae = 13 ∨ ae = 14) && (placeOf (l.map Cm.x) (xc, xq)).isSome)) := Lib.hid (by rw [HXD.out]; rfl)
                 by_cases hg : ae = 13 ∨ ae = 14
                 · have HG : Hid (decide (ae = 13 ∨ ae = 14) = true) := Lib.hid (by simpa using hg)
                   cases hp : placeOf (l.map Cm.x) (xc, xq) with
                   | none =>
                     have HN := Lib.hid (HOKN.out (by rw [HRB.out, hp]; simp))
                     rw [hp] at HFX
                     simp only [placeZ] at HFX
                     clear hp HRB HG
                     rcases hg with rfl | rfl
                     all_goals
                       go_wp2_with (go_at_call 39; go_loud (refine HFX.out.mono ?_; (rintro e w5 ⟨rfl, hm5⟩); have HM5 : Hid (Mod (fun _ => False) w w5) := Lib.hid (HBW.out.trans hm5); clear hm5))
                       go_roundw
                       case rel => exact ⟨k4 + 1, by go_num, by omega, HM5.out, HN.out⟩
                       case measure => simp [intOf]; omega
                   | some i =>
                     have HR := Lib.hid (HBADN.out (by rw [HRB.out, hp, HG.out]; rfl))
                     rw [hp] at HFX
                     simp only [placeZ] at HFX
                     clear hp HRB HG
                     rcases hg with rfl | rfl
                     all_goals
                       go_wp2_with (go_at_call 39; go_loud (refine HFX.out.mono ?_; (rintro e w5 ⟨rfl, hm5⟩); have HM5 : Hid (Mod (fun _ => False) w w5) := Lib.hid (HBW.out.trans hm5); clear hm5))
                       refine bodyPost_ret (v := .tuple #[.int .i64 4, .int .i64 (k4 : Int)]) (by simp [results, Tryz.results14, go_sem]) rfl ⟨by rw [HR.out]; rfl, HM5.out⟩
                 · have HN := Lib.hid (HOKN.out (by rw [HRB.out]; simp [hg]))
                   have h13 : ¬ ae = 13 := fun h => hg (.inl h)
                   have h14 : ¬ ae = 14 := fun h => hg (.inr h)
                   have g13 : (ae == 13) = false := by simpa using h13
                   have g14 : (ae == 14) = false := by simpa using h14
                   clear h13 h14 hg HRB
                   go_wp2
                   go_roundw
                   case rel => exact ⟨k4 + 1, by go_num, by omega, HBW.out, HN.out⟩
                   case measure => simp [intOf]; omega
               · skip
                 have HR : Hid (verdict (l.map Cm.x) (rs.map Cm.x) = none) := Lib.hid (by
                   have h := firstR_none (p := repB (l.map Cm.x)) (l := rs.map Cm.x) (fun j y hy => HOK.out j (by have := (List.getElem?_eq_some_iff.1 hy).1; rw [List.length_map, ← HML'.out] at this; omega) y hy)
                   rw [HVD.out, h]; rfl)
                 go_wp2
                 refine bodyPost_ret (v := .tuple #[.int .i64 0, .int .i64 0]) (by simp [results, Tryz.results14, go_sem]) rfl ⟨by rw [HR.out]; rfl, HK.out⟩
end Go.Proofs.YtpigipgoopeeoaaGreatDoor
