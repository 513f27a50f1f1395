import Derived.Test.YtlpdifinkcjckaaGreatDoorMEn21
set_option linter.unusedVariables false
set_option linter.unusedSimpArgs false
namespace Go.Proofs.YtlpdifinkcjckaaGreatDoor
open Go.RowKit Go.Maps
def sF (k : Nat) : Nat × Value := (k, .agg #[])
structure LdAt (w : World) (g bm bs : Nat) (l : List Vtx) (wr : World) (ns : List Node) : Prop where
 pg : PG wr g bm ns
 is : ns.map Node.x = layAll l
 lo : ∀ b, Foot g bm ns b → w.heap.size ≤ b
 seen : UMap Tryz.prog 27 .u32 wr bs ((seenK l).map sF)
 slo : w.heap.size ≤ bs
 off : ¬ Foot g bm ns bs
 mod : Mod (fun _ => False) w wr
theorem LdAt.keep {w wr wx : World} {g bm bs : Nat} {l : List Vtx} {ns : List Node} (h : LdAt w g bm bs l wr ns) (m : Mod (fun _ => False) wr wx) : LdAt w g bm bs l wx ns := ⟨h.pg.keep m, h.is, h.lo, h.seen.keep m, h.slo, h.off, h.mod.trans m⟩
theorem LdAt.next {w wr W w3 : World} {g bm bs : Nat} {l : List Vtx} {ns ns' : List Node} {x : Vtx} {off : Nat → Prop} (h : LdAt w g bm bs l wr ns) (m : Mod (fun _ => False) wr W) (t : Turned g bm ns (layV x (ns.map Node.x)) off W w3 ns') (hid : x.id < 4294967296) (hl : l.length < 1000000) :
   ∃ w4, (Instr.mapUpdate 123 (.map (some bs)) (.int .u32 (x.id : Int)) (.agg #[])).run Tryz.prog w3 = .ok () w4 ∧ LdAt w g bm bs (l ++ [x]) w4 ns' := by
 have hk := h.keep m
 have hfm : ¬ FootM bm ns bs := fun f => hk.off (.inr f.foot)
 have hs3 := hk.seen.mod t.mod hfm
 obtain ⟨w4, e4, U, M⟩ := hs3.store Tryz.underlying27 Tryz.underlying123 (by rw [List.length_map]; have := (seenK_len l).1; unfold maxLen; omega) (u32key hid) (.agg #[])
 have hbs := hk.seen.lt
 have hoff : ¬ Foot g bm ns' bs := by
   rintro (e | f)
   · exact hk.off (.inl e)
   · rcases t.new _ f with f | f
     · exact hk.off (.inr f)
     · omega
 have hmd : Mod (fun _ => False) w w3 := hk.mod.trans' t.mod (fun i hi f => by have := h.lo i (.inr f.foot); omega)
 refine ⟨w4, e4, t.pg.mod M (fun b hb e => hoff (e ▸ hb)), ?_, fun b hb => ?_, ?_, h.slo, hoff, hmd.trans' M (fun i hi e => by have := h.slo; omega)⟩
 · rw [t.is, h.is, layAll_snoc]
 · rcases hb with e | f
   · exact h.lo _ (.inl e)
   · rcases t.new _ f with f | f
     · exact h.lo _ (.inr f)
     · have := hk.mod.size; omega
 · rw [seenK_snoc]
   have e := putL_map sF x.id (seenK_rise l)
   have e2 : (sF x.id) = (x.id, Value.agg #[]) := rfl
   rw [e2] at e
   rw [e] at U
   exact U
theorem formL_no {l : List Vtx} {x : Vtx} (hx : x ∈ l) (h : x.right = false) : formL l = false := by
 unfold formL
 have : l.all Vtx.right = false := by rw [List.all_eq_false]; exact ⟨x, hx, by simp [h]⟩
 rw [this]; rfl
theorem formL_all {l : List Vtx} (h : ∀ x ∈ l, x.right = true) : formL l = decide ((seenK l).length = l.length) := by
 unfold formL
 have : l.all Vtx.right = true := by rw [List.all_eq_true]; exact h
 rw [this, Bool.true_and]
theorem formL_right {l : List Vtx} (h : formL l = true) : ∀ x ∈ l, x.right = true := by
 unfold formL at h
 rw [Bool.and_eq_true, List.all_eq_true] at h
 exact h.1
def LaidP (l : List Vs) (w : World) (e : Ending) (w' : World) : Prop :=
 ∃ p, e = .returned (.tuple #[p, .bool (formL (l.map Vs.x))]) ∧ Mod (fun _ => False) w w' ∧ (formL (l.map Vs.x) = true → ∃ g bm ns, p = .pointer (some ⟨g, 0, none⟩) ∧ PG w' g bm ns ∧ ns.map Node.x = layAll (l.map Vs.x) ∧ ∀ b, Foot g bm ns b → w.heap.size ≤ b)
set_option maxRecDepth 100000 in
set_option maxHeartbeats 4000000 in
theorem laid_any (l : List Vs) (vl : Value) (w : World) (hl : LRd w vl l) (hn : l.length ≤ 4096) :
   Calls Tryz.prog 41 #[vl] w (LaidP l w) := by
 have HL := Lib.hid hl
 obtain ⟨a, c, rfl, hc1, hc2, -⟩ := hl.row.shape
 obtain ⟨n, hnn⟩ : ∃ n, n = l.length := ⟨_, rfl⟩
 have HN := Lib.hid hnn
 rw [← hnn] at HL hc1 hn ⊢
 clear hnn hl
 go_enter Tryz.func41, Tryz.ntmps41
 have hmm := @run_makeMap Tryz.prog
 go_wp2_with (go_at_call 9; refine (new_pg w).mono ?_; (rintro e w1 ⟨rfl, hm1, hp1, hs1⟩); have HP1 := Lib.hid hp1; have HM1 := Lib.hid hm1; have HS1 := Lib.hid hs1; clear hm1 hp1 hs1)
 clear hmm
 have HL0 : Hid (LdAt w (w.heap.size + 1) w.heap.size w1.heap.size [] (w1.alloc (.map #[] 0)) []) := Lib.hid (by
   have hs := HS1.out
   refine ⟨HP1.out.keep ((Mod.refl _ _).alloc _), rfl, fun b hb => ?_, UMap.made _ _ _ _, HM1.out.size, fun f => ?_, HM1.out.alloc _⟩
   · rcases hb with e | e | ⟨n, hn, _⟩
     · omega
     · omega
     · simp at hn
   · rcases f with e | e | ⟨n, hn, _⟩
     · omega
     · omega
     · simp at hn)
 clear HP1 HM1 HS1
 generalize w.heap.size + 1 = g at HL0 ⊢
 generalize w.heap.size = bm at HL0 ⊢
 generalize w1.heap.size = bs at HL0 ⊢
 go_loopw [12] (fun i wr => ∃ (k : Nat) (ns : List Node), i = .int .i64 (k : Int) ∧ k ≤ n ∧ LdAt w g bm bs ((l.map Vs.x).take k) wr ns ∧ ∀ x ∈ (l.map Vs.x).take k, x.right = true) (fun i _ => n - (intOf i).toNat)
 case atStart => exact ⟨0, [], rfl, Nat.zero_le _, by rw [List.take_zero]; exact HL0.out, by simp⟩
 case round =>
   obtain ⟨k, ns, rfl, hk, hld, hri⟩ := hrel
   have HLD := Lib.hid hld
   have HRI := Lib.hid hri
   clear hld hri HL0
   by_cases hkn : k < n
   · obtain ⟨s, hs⟩ : ∃ s, l[k]? = some s := ⟨_, List.getElem?_eq_getElem (by rw [← HN.out]; exact hkn)⟩
     obtain ⟨bl, offl, e0, hbl, r0, r1, r2, r3⟩ := HL.out.ent hs rfl
     have hvr := HL.out.at hs
     have HSM : Hid (s.x ∈ l.map Vs.x) := Lib.hid (List.mem_map_of_mem (List.mem_of_getElem? hs))
     have HTK : Hid ((l.map Vs.x).take (k + 1) = (l.map Vs.x).take k ++ [s.x]) := Lib.hid (by
       have hs2 : (l.map Vs.x)[k]? = some s.x := by rw [List.getElem?_map, hs]; rfl
       obtain ⟨h1, h2⟩ := List.getElem?_eq_some_iff.1 hs2
       rw [List.take_succ_eq_append_getElem h1, h2])
     replace r0 := HLD.out.mod.cell r0
     replace r1 := HLD.out.mod.cell r1
     replace r2 := HLD.out.mod.cell r2
     replace r3 := HLD.out.mod.cell r3
     have zbl : bl < wr.heap.size := Nat.lt_of_lt_of_le hbl HLD.out.mod.size
     have HVR := Lib.hid hvr
     obtain ⟨ap, cp, ep, -⟩ := hvr.props.shape
     obtain ⟨ah, ch, eh, -⟩ := hvr.halves.shape
     subst e0
     clear hs hbl hvr
     obtain ⟨⟨id, th, ps, hs⟩, vp, vh⟩ := s
     simp only at r0 r1 r2 r3 ep eh HVR HSM HTK
     subst ep eh
     obtain ⟨np, hnp⟩ : ∃ n, n = ps.length := ⟨_, rfl⟩
     obtain ⟨nh, hnh⟩ : ∃ n, n = hs.length := ⟨_, rfl⟩
     rw [← hnp] at r2 HVR
     rw [← hnh] at r3 HVR
     have HM2 : Hid (Mod (fun _ => False) wr (wr.alloc (.cells #[.int .u32 (id : Int), .bool th, .slice ap np cp, .slice ah nh ch] 47))) := Lib.hid ((Mod.refl _ _).alloc _)
     have HVW : Hid (VRd (wr.alloc (.cells #[.int .u32 (id : Int), .bool th, .slice ap np cp, .slice ah nh ch] 47)) (.slice ap np cp) (.slice ah nh ch) ⟨id, th, ps, hs⟩) := Lib.hid (HVR.out.keep (HLD.out.mod.trans HM2.out))
     clear hnp hnh
     cases hr : Vtx.right ⟨id, th, ps, hs⟩ with
     | true =>
       have HR := Lib.hid hr
       have HNS : Hid (ns.length < 1000000) := Lib.hid (by
         have h1 := (layAll_fair _ HRI.out).short
         rw [← HLD.out.is, List.length_map] at h1
         omega)
       have HPU : Hid (Calls Tryz.prog 68 #[.pointer (some ⟨g, 0, none⟩), .agg #[.int .u32 (id : Int), .bool th, .slice ap np cp, .slice ah nh ch]] (wr.alloc (.cells #[.int .u32 (id : Int), .bool th, .slice ap np cp, .slice ah nh ch] 47)) fun e w' => e = .returned (.int .i64 0) ∧ ∃ ns', Turned g bm ns (layV ⟨id, th, ps, hs⟩ (ns.map Node.x)) (fun k => k ≠ id) (wr.alloc (.cells #[.int .u32 (id : Int), .bool th, .slice ap np cp, .slice ah nh ch] 47)) w' ns') := Lib.hid (put_any ⟨id, th, ps, hs⟩ _ _ g bm ns _ HVW.out hr (HLD.out.pg.keep HM2.out) HNS.out)
       have HLT : Hid (((l.map Vs.x).take k).length < 1000000) := Lib.hid (by rw [List.length_take, List.length_map]; have := HN.out; omega)
       clear hr
       go_wp2_with (go_at_call 68; go_loud (refine HPU.out.mono ?_; (rintro e w3 ⟨rfl, ns', ht⟩); (obtain ⟨w4, e4, hl4⟩ := HLD.out.next HM2.out ht HVR.out.fits.id HLT.out); have HL4 := Lib.hid hl4; have hb3 := (HLD.out.pg.keep HM2.out).nm.box ht.mod (heap_alloc_new' wr _); have c0 := cell_of_row hb3 0; have zc := lt_of_block hb3; simp at c0; clear ht hl4 hb3))
       go_roundw
       case rel => exact ⟨k + 1, ns', by go_num, by omega, by rw [HTK.out]; exact HL4.out, fun x hx => by
         rw [HTK.out] at hx
         rcases List.mem_append.1 hx with h | h
         · exact HRI.out x h
         · rw [List.mem_singleton] at h; rw [h]; exact HR.out⟩
       case measure => simp [intOf]; omega
     | false =>
       have HNO := Lib.hid (formL_no HSM.out hr)
       have HPU := Lib.hid (put_bad ⟨id, th, ps, hs⟩ (.slice ap np cp) (.slice ah nh ch) (some ⟨g, 0, none⟩) _ HVW.out hr)
       clear hr
       go_wp2_with (go_at_call 68; go_loud (refine HPU.out.mono ?_; (rintro e w3 ⟨rfl, hm3⟩); have HM3 := Lib.hid hm3; clear hm3))
       go_ret2
       exact ⟨.pointer none, by rw [HNO.out]; rfl, HLD.out.mod.trans (HM2.out.trans HM3.out), fun h => by rw [HNO.out] at h; cases h⟩
   · have HTA : Hid ((l.map Vs.x).take k = l.map Vs.x) := Lib.hid (List.take_of_length_le (by rw [List.length_map]; have := HN.out; omega))
     rw [HTA.out] at HLD HRI
     have HFA := Lib.hid (formL_all HRI.out)
     have hlen := HLD.out.seen.len Tryz.underlying123 3
     rw [List.length_map] at hlen
     obtain ⟨q, hq⟩ : ∃ q, q = (seenK (l.map Vs.x)).length := ⟨_, rfl⟩
     have HQ := Lib.hid hq
     rw [← hq] at hlen
     clear hq
     by_cases hqn : q = n
     · have hqi : ((q : Int) == (n : Int)) = true := by simp; omega
       have HT : Hid (formL (l.map Vs.x) = true) := Lib.hid (by rw [HFA.out, decide_eq_true_eq, List.length_map, ← HQ.out, hqn, HN.out])
       clear hqn
       go_wp2
       go_ret2
       exact ⟨.pointer (some ⟨g, 0, none⟩), by rw [HT.out]; first | rfl | simp [hqi], HLD.out.mod, fun _ => ⟨g, bm, ns, rfl, HLD.out.pg, HLD.out.is, HLD.out.lo⟩⟩
     · have hqi : ((q : Int) == (n : Int)) = false := by simp; omega
       have HT : Hid (formL (l.map Vs.x) = false) := Lib.hid (by rw [HFA.out, decide_eq_false_iff_not, List.length_map, ← HQ.out, ← HN.out]; exact hqn)
       clear hqn
       go_wp2
       go_ret2
       exact ⟨.pointer (some ⟨g, 0, none⟩), by rw [HT.out]; first | rfl | simp [hqi], HLD.out.mod, fun h => by rw [HT.out] at h; cases h⟩
open Go.RowKit
theorem takes_eq {α : Type} {l m : List α} {k : Nat} {x : α} (h : l.take k = m.take k) (hx : l[k]? = some x) (hy : m[k]? = some x) : l.take (k + 1) = m.take (k + 1) := by
 obtain ⟨h1, h2⟩ := List.getElem?_eq_some_iff.1 hx
 obtain ⟨h3, h4⟩ := List.getElem?_eq_some_iff.1 hy
 rw [List.take_succ_eq_append_getElem h1, List.take_succ_eq_append_getElem h3, h, h2, h4]
theorem at_ne {α : Type} {l m : List α} {k : Nat} {x y : α} (hx : l[k]? = some x) (hy : m[k]? = some y) (hne : x ≠ y) : l ≠ m := by
 rintro rfl
 rw [hx] at hy
 exact hne (Option.some.inj hy)
theorem bytes_inj {a b : ByteArray} (h : a.toList = b.toList) : a = b := by
 rw [ByteArray.toList_eq, ByteArray.toList_eq] at h
 exact ByteArray.ext (Array.toList_inj.1 h)
theorem val_cases (x y : Val) : x = y ∨ (x ≠ y ∧ ((((x.k : Int) == (y.k : Int)) = false ∧ ¬ (x.k : Int) = (y.k : Int)) ∨ (x.k = y.k ∧ (x.n == y.n) = false ∧ ¬ x.n = y.n) ∨ (x.k = y.k ∧ x.n = y.n ∧ ¬ x.s.toList = y.s.toList))) := by
 obtain ⟨k, n, s⟩ := x
 obtain ⟨k', n', s'⟩ := y
 by_cases h1 : k = k'
 · by_cases h2 : n = n'
   · by_cases h3 : s = s'
     · subst h1 h2 h3; exact .inl rfl
     · exact .inr ⟨fun e => by injection e with _ _ e; exact h3 e, .inr (.inr ⟨h1, h2, fun e => h3 (bytes_inj e)⟩)⟩
   · exact .inr ⟨fun e => by injection e with _ e _; exact h2 e, .inr (.inl ⟨h1, by simpa using h2, h2⟩)⟩
 · exact .inr ⟨fun e => by injection e with e _ _; exact h1 e, .inl ⟨by simp; omega, by simp only; omega⟩⟩
set_option maxRecDepth 100000 in
set_option maxHeartbeats 2000000 in
theorem nsame_any (v u : Value) (l m : List Nat) (w : World) (hv : RdS w 1 v l.length (l.map (keyV .u32))) (hu : RdS w 1 u m.length (m.map (keyV .u32))) :
   Calls Tryz.prog 23 #[v, u] w fun e w' => e = .returned (.bool (decide (l = m))) ∧ Mod (fun _ => False) w w' := by
 have HV := Lib.hid hv
 have HU := Lib.hid hu
 obtain ⟨a, c, rfl, hc1, hc2, -⟩ := hv.shape
 obtain ⟨a', c', rfl, hc1', hc2', -⟩ := hu.shape
 clear hv hu
 obtain ⟨n, hl⟩ : ∃ n, n = l.length := ⟨_, rfl⟩
 obtain ⟨n', hl'⟩ : ∃ n, n = m.length := ⟨_, rfl⟩
 have HN := Lib.hid hl
 have HN' := Lib.hid hl'
 rw [← hl] at HV hc1 ⊢
 rw [← hl'] at HU hc1' ⊢
 clear hl hl'
 by_cases hnn : n = n'
 · subst hnn
   go_enter Tryz.func23, Tryz.ntmps23
   go_wp2
   go_loopw [13] (fun i wr => ∃ k : Nat, i = .int .i64 k ∧ k ≤ n ∧ Mod (fun _ => False) w wr ∧ l.take k = m.take k) (fun i _ => n - (intOf i).toNat)
   case atStart => exact ⟨0, rfl, Nat.zero_le _, Mod.refl _ _, rfl⟩
   case round =>
     obtain ⟨k, rfl, hk, hm, htk⟩ := hrel
     have HM := Lib.hid hm
     have HTK := Lib.hid htk
     clear hm htk
     by_cases hkn : k < n
     · obtain ⟨x, hx⟩ : ∃ x, l[k]? = some x := ⟨_, List.getElem?_eq_getElem (by rw [← HN.out]; exact hkn)⟩
       obtain ⟨y, hy⟩ : ∃ y, m[k]? = some y := ⟨_, List.getElem?_eq_getElem (by rw [← HN'.out]; exact hkn)⟩
       obtain ⟨b, off, rfl, hb, p0⟩ := num_ent HV.out hx rfl
       obtain ⟨b', off', rfl, hb', q0⟩ := num_ent HU.out hy rfl
       have p0 : ∀ x : MW wr, x.w.cell? _ = some _ := fun x => x.cell (HM.out.cell p0)
       have q0 : ∀ x : MW wr, x.w.cell? _ = some _ := fun x => x.cell (HM.out.cell q0)
       by_cases hxy : x = y
       · subst hxy
         have HTS := Lib.hid (takes_eq HTK.out hx hy)
         clear hx hy
         go_wp2_with fail
         refine wp_region_quietM (by kernel_rfl) (by kernel_rfl) ?_
         repeat (go_big_quiet_step (fail))
         refine wpQuiet_nil ?_
         intro w3 hm3
         have M3 : Hid (Mod (fun _ => False) w w3) := Lib.hid (HM.out.trans (MW.mod_of hm3))
         clear hm3 p0 q0
         go_wp2
         go_roundw
         case rel => exact ⟨k + 1, by go_num, by omega, M3.out, HTS.out⟩
         case measure => simp [intOf]; omega
       · have HNE := Lib.hid (at_ne hx hy hxy)
         have f1 : ((x : Int) == (y : Int)) = false := by simp; omega
         clear hx hy hxy
         go_wp2_with fail
         refine wp_region_quietM (by kernel_rfl) (by kernel_rfl) ?_
         repeat (go_big_quiet_step (fail))
         refine wpQuiet_nil ?_
         intro w3 hm3
         have M3 : Hid (Mod (fun _ => False) w w3) := Lib.hid (HM.out.trans (MW.mod_of hm3))
         clear hm3 p0 q0
         go_wp2
         go_ret
         exact ⟨by rw [decide_eq_false HNE.out]; rfl, M3.out⟩
     · have HEQ : Hid (l = m) := Lib.hid (by
         have h := HTK.out
         rwa [List.take_of_length_le (by have := HN.out; omega), List.take_of_length_le (by have := HN'.out; omega)] at h)
       go_wp2
       go_ret
       exact ⟨by rw [decide_eq_true HEQ.out]; rfl, HM.out⟩
 · have HNE : Hid (l ≠ m) := Lib.hid (by rintro rfl; exact hnn (HN.out.trans HN'.out.symm))
   go_enter Tryz.func23, Tryz.ntmps23
   go_wp2
   go_ret
   exact ⟨by rw [decide_eq_false HNE.out]; rfl, Mod.refl _ _⟩
theorem val_ent {w : World} {v : Value} {l : List Val} {n : Nat} (h : RdS w 3 v n (vvcells l)) {i : Nat} {x : Val} (hi : l[i]? = some x) {a : Option Addr} {m c : Nat} (e : v = .slice a m c) :
   ∃ b off, a = some ⟨b, off, none⟩ ∧ b < w.heap.size ∧ w.cell? ⟨b, off + i * 3, none⟩ = some (.int .u8 (x.k : Int)) ∧ w.cell? ⟨b, off + i * 3 + 1, none⟩ = some (.int .i64 x.n) ∧ w.cell? ⟨b, off + i * 3 + 2, none⟩ = some (.string x.s) := by
 have g := fun j hj => flat_get Val.cells (fun _ => rfl) l i j x hi (show j < 3 from hj)
 obtain ⟨a', c', e', -⟩ := h.shape
 rw [e] at e'
 injection e' with e1 e2 e3
 rw [e2] at e
 have k : ∀ j u, j < 3 → x.cells[j]? = some u → ∃ b off, a = some ⟨b, off, none⟩ ∧ b < w.heap.size ∧ w.cell? ⟨b, off + (i * 3 + j), none⟩ = some u := fun j u hj hu => h.cell a c e (i * 3 + j) u (by unfold vvcells; rw [g j hj]; exact hu)
 obtain ⟨b, off, ea, hb, h0⟩ := k 0 _ (by omega) rfl
 have r : ∀ j u, j < 3 → x.cells[j]? = some u → w.cell? ⟨b, off + (i * 3 + j), none⟩ = some u := fun j u hj hu => by
   obtain ⟨b1, off1, ea1, _, h1⟩ := k j u hj hu
   rw [ea] at ea1
   injection ea1 with e1; injection e1 with e1 e2
   subst e1 e2
   exact h1
 refine ⟨b, off, ea, hb, h0, ?_, ?_⟩
 · rw [Nat.add_assoc]; exact r 1 _ (by omega) rfl
 · rw [Nat.add_assoc]; exact r 2 _ (by omega) rfl
set_option maxRecDepth 100000 in
set_option maxHeartbeats 2000000 in
theorem valsame_any (v u : Value) (l m : List Val) (w : World) (hv : RdS w 3 v l.length (vvcells l)) (hu : RdS w 3 u m.length (vvcells m)) :
   Calls Tryz.prog 43 #[v, u] w fun e w' => e = .returned (.bool (decide (l = m))) ∧ Mod (fun _ => False) w w' := by
 have HV := Lib.hid hv
 have HU := Lib.hid hu
 obtain ⟨a, c, rfl, hc1, hc2, -⟩ := hv.shape
 obtain ⟨a', c', rfl, hc1', hc2', -⟩ := hu.shape
 clear hv hu
 obtain ⟨n, hl⟩ : ∃ n, n = l.length := ⟨_, rfl⟩
 obtain ⟨n', hl'⟩ : ∃ n, n = m.length := ⟨_, rfl⟩
 have HN := Lib.hid hl
 have HN' := Lib.hid hl'
 rw [← hl] at HV hc1 ⊢
 rw [← hl'] at HU hc1' ⊢
 clear hl hl'
 by_cases hnn : n = n'
 · subst hnn
   go_enter Tryz.func43, Tryz.ntmps43
   go_wp2
   go_loopw [13] (fun i wr => ∃ k : Nat, i = .int .i64 k ∧ k ≤ n ∧ Mod (fun _ => False) w wr ∧ l.take k = m.take k) (fun i _ => n - (intOf i).toNat)
   case atStart => exact ⟨0, rfl, Nat.zero_le _, Mod.refl _ _, rfl⟩
   case round =>
     obtain ⟨k, rfl, hk, hm, htk⟩ := hrel
     have HM := Lib.hid hm
     have HTK := Lib.hid htk
     clear hm htk
     by_cases hkn : k < n
     · obtain ⟨x, hx⟩ : ∃ x, l[k]? = some x := ⟨_, List.getElem?_eq_getElem (by rw [← HN.out]; exact hkn)⟩
       obtain ⟨y, hy⟩ : ∃ y, m[k]? = some y := ⟨_, List.getElem?_eq_getElem (by rw [← HN'.out]; exact hkn)⟩
       obtain ⟨b, off, rfl, hb, p0, p1, p2⟩ := val_ent HV.out hx rfl
       obtain ⟨b', off', rfl, hb', q0, q1, q2⟩ := val_ent HU.out hy rfl
       have p0 : ∀ x : MW wr, x.w.cell? _ = some _ := fun x => x.cell (HM.out.cell p0)
       have p1 : ∀ x : MW wr, x.w.cell? _ = some _ := fun x => x.cell (HM.out.cell p1)
       have p2 : ∀ x : MW wr, x.w.cell? _ = some _ := fun x => x.cell (HM.out.cell p2)
       have q0 : ∀ x : MW wr, x.w.cell? _ = some _ := fun x => x.cell (HM.out.cell q0)
       have q1 : ∀ x : MW wr, x.w.cell? _ = some _ := fun x => x.cell (HM.out.cell q1)
       have q2 : ∀ x : MW wr, x.w.cell? _ = some _ := fun x => x.cell (HM.out.cell q2)
       rcases val_cases x y with hxy | ⟨hxy, hcs⟩
       · subst hxy
         have HTS := Lib.hid (takes_eq HTK.out hx hy)
         clear hx hy
         obtain ⟨xk, xn, xs⟩ := x
         simp only at p0 p1 p2 q0 q1 q2
         go_wp2_with fail
         refine wp_region_quietM (by kernel_rfl) (by kernel_rfl) ?_
         repeat (go_big_quiet_step (fail))
         refine wpQuiet_nil ?_
         intro w3 hm3
         have M3 : Hid (Mod (fun _ => False) w w3) := Lib.hid (HM.out.trans (MW.mod_of hm3))
         clear hm3 p0 q0 p1 q1 p2 q2
         go_wp2
         go_roundw
         case rel => exact ⟨k + 1, by go_num, by omega, M3.out, HTS.out⟩
         case measure => simp [intOf]; omega
       · have HNE := Lib.hid (at_ne hx hy hxy)
         clear hx hy hxy
         obtain ⟨xk, xn, xs⟩ := x
         obtain ⟨yk, yn, ys⟩ := y
         simp only at p0 p1 p2 q0 q1 q2 hcs
         rcases hcs with ⟨f1, f2⟩ | ⟨rfl, f1, f2⟩ | ⟨rfl, rfl, f1⟩
         all_goals
           go_wp2_with fail
           refine wp_region_quietM (by kernel_rfl) (by kernel_rfl) ?_
           repeat (go_big_quiet_step (fail))
           refine wpQuiet_nil ?_
           intro w3 hm3
           have M3 : Hid (Mod (fun _ => False) w w3) := Lib.hid (HM.out.trans (MW.mod_of hm3))
           clear hm3 p0 q0 p1 q1 p2 q2
           go_wp2
           go_ret
           exact ⟨by rw [decide_eq_false HNE.out]; rfl, M3.out⟩
     · have HEQ : Hid (l = m) := Lib.hid (by
         have h := HTK.out
         rwa [List.take_of_length_le (by have := HN.out; omega), List.take_of_length_le (by have := HN'.out; omega)] at h)
       go_wp2
       go_ret
       exact ⟨by rw [decide_eq_true HEQ.out]; rfl, HM.out⟩
 · have HNE : Hid (l ≠ m) := Lib.hid (by rintro rfl; exact hnn (HN.out.trans HN'.out.symm))
   go_enter Tryz.func43, Tryz.ntmps43
   go_wp2
   go_ret
   exact ⟨by rw [decide_eq_false HNE.out]; rfl, Mod.refl _ _⟩
structure AnsB (w : World) (e p : Int) (vv vl : Value) (e' p' : Int) (vv' vl' : Value) (wr : World) : Prop where
 mod : Mod (fun _ => False) w wr
 one : wr.heap[w.heap.size]? = some (.cells #[.int .i64 e, .int .i64 p, vv, vl] 34 (0, 0))
 two : wr.heap[w.heap.size + 1]? = some (.cells #[.int .i64 e', .int .i64 p', vv', vl'] 34 (0, 0))
theorem AnsB.keep {w wr wx : World} {e p e' p' : Int} {vv vl vv' vl' : Value} (h : AnsB w e p vv vl e' p' vv' vl' wr) (m : Mod (fun _ => False) wr wx) : AnsB w e p vv vl e' p' vv' vl' wx :=
 ⟨h.mod.trans m, m.heap h.one (fun f => f), m.heap h.two (fun f => f)⟩
theorem AnsB.start (w : World) (e p : Int) (vv vl : Value) (e' p' : Int) (vv' vl' : Value) : AnsB w e p vv vl e' p' vv' vl' ((w.alloc (.cells #[.int .i64 e, .int .i64 p, vv, vl] 34)).alloc (.cells #[.int .i64 e', .int .i64 p', vv', vl'] 34)) :=
 ⟨((Mod.refl _ w).alloc _).alloc _, heap_alloc_old (heap_alloc_new' w _), by have := heap_alloc_new' (w.alloc (.cells #[.int .i64 e, .int .i64 p, vv, vl] 34)) (.cells #[.int .i64 e', .int .i64 p', vv', vl'] 34); simpa using this⟩
set_option maxRecDepth 100000 in
set_option maxHeartbeats 4000000 in
theorem anssame_any (e p e' p' : Int) (vals vals' : List Val) (list list' : List Nat) (vv vl vv' vl' : Value) (w : World) (hv : RdS w 3 vv vals.length (vvcells vals)) (hv' : RdS w 3 vv' vals'.length (vvcells vals')) (hl : RdS w 1 vl list.length (list.map (keyV .u32))) (hl' : RdS w 1 vl' list'.length (list'.map (keyV .u32))) :
   Calls Tryz.prog 16 #[.agg #[.int .i64 e, .int .i64 p, vv, vl], .agg #[.int .i64 e', .int .i64 p', vv', vl']] w fun en w' => en = .returned (.bool (decide (e = e' ∧ p = p' ∧ vals = vals' ∧ list = list'))) ∧ Mod (fun _ => False) w w' := by
 have HVS : Hid (∀ w', Mod (fun _ => False) w w' → Calls Tryz.prog 43 #[vv, vv'] w' fun e w'' => e = .returned (.bool (decide (vals = vals'))) ∧ Mod (fun _ => False) w' w'') := Lib.hid (fun w' m => valsame_any vv vv' vals vals' w' (hv.keep m) (hv'.keep m))
 have HLS : Hid (∀ w', Mod (fun _ => False) w w' → Calls Tryz.prog 23 #[vl, vl'] w' fun e w'' => e = .returned (.bool (decide (list = list'))) ∧ Mod (fun _ => False) w' w'') := Lib.hid (fun w' m => nsame_any vl vl' list list' w' (hl.keep m) (hl'.keep m))
 have HB0 := Lib.hid (AnsB.start w e p vv vl e' p' vv' vl')
 obtain ⟨av, cv, rfl, -⟩ := hv.shape
 obtain ⟨av', cv', rfl, -⟩ := hv'.shape
 obtain ⟨al, cl, rfl, -⟩ := hl.shape
 obtain ⟨al', cl', rfl, -⟩ := hl'.shape
 obtain ⟨nv, hnv⟩ : ∃ n, n = vals.length := ⟨_, rfl⟩
 obtain ⟨nv', hnv'⟩ : ∃ n, n = vals'.length := ⟨_, rfl⟩
 obtain ⟨nl, hnl⟩ : ∃ n, n = list.length := ⟨_, rfl⟩
 obtain ⟨nl', hnl'⟩ : ∃ n, n = list'.length := ⟨_, rfl⟩
 simp only [← hnv, ← hnv', ← hnl, ← hnl'] at HVS HLS HB0 ⊢
 clear hv hv' hl hl' hnv hnv' hnl hnl'
 obtain ⟨bv, hbv⟩ : ∃ b, b = decide (vals = vals') := ⟨_, rfl⟩
 obtain ⟨bl, hbl⟩ : ∃ b, b = decide (list = list') := ⟨_, rfl⟩
 have HR : Hid (decide (e = e' ∧ p = p' ∧ vals = vals' ∧ list = list') = (decide (e = e') && (decide (p = p') && (bv && bl)))) := Lib.hid (by rw [hbv, hbl]; simp only [Bool.decide_and])
 rw [HR.out]
 rw [← hbv] at HVS
 rw [← hbl] at HLS
 clear hbv hbl HR
 by_cases he : e = e'
 · subst he
   by_cases hp : p = p'
   · subst hp
     cases bv with
     | true =>
       cases bl with
       | true =>
         go_enter Tryz.func16, Tryz.ntmps16
         go_wp2_with (first
           | (have hq := HB1.out.mod; go_at_call 23; go_loud (refine (HLS.out _ HB1.out.mod).mono ?_; (rintro en w2 ⟨rfl, hm2⟩); have HB2 := Lib.hid (HB1.out.keep hm2); clear hm2 hq))
           | (go_at_call 43; go_loud (refine (HVS.out _ HB0.out.mod).mono ?_; (rintro en w1 ⟨rfl, hm1⟩); have HB1 := Lib.hid (HB0.out.keep hm1); have b0 := cell_of_row HB1.out.one 0; have b1 := cell_of_row HB1.out.one 1; have b2 := cell_of_row HB1.out.one 2; have b3 := cell_of_row HB1.out.one 3; have d0 := cell_of_row HB1.out.two 0; have d1 := cell_of_row HB1.out.two 1; have d2 := cell_of_row HB1.out.two 2; have d3 := cell_of_row HB1.out.two 3; have z1 := lt_of_block HB1.out.one; have z2 := lt_of_block HB1.out.two; simp at b0 b1 b2 b3 d0 d1 d2 d3; clear hm1)))
         go_ret
         exact ⟨by simp, HB2.out.mod⟩
       | false =>
         go_enter Tryz.func16, Tryz.ntmps16
         go_wp2_with (first
           | (have hq := HB1.out.mod; go_at_call 23; go_loud (refine (HLS.out _ HB1.out.mod).mono ?_; (rintro en w2 ⟨rfl, hm2⟩); have HB2 := Lib.hid (HB1.out.keep hm2); clear hm2 hq))
           | (go_at_call 43; go_loud (refine (HVS.out _ HB0.out.mod).mono ?_; (rintro en w1 ⟨rfl, hm1⟩); have HB1 := Lib.hid (HB0.out.keep hm1); have b0 := cell_of_row HB1.out.one 0; have b1 := cell_of_row HB1.out.one 1; have b2 := cell_of_row HB1.out.one 2; have b3 := cell_of_row HB1.out.one 3; have d0 := cell_of_row HB1.out.two 0; have d1 := cell_of_row HB1.out.two 1; have d2 := cell_of_row HB1.out.two 2; have d3 := cell_of_row HB1.out.two 3; have z1 := lt_of_block HB1.out.one; have z2 := lt_of_block HB1.out.two; simp at b0 b1 b2 b3 d0 d1 d2 d3; clear hm1)))
         go_ret
         exact ⟨by simp, HB2.out.mod⟩
     | false =>
       go_enter Tryz.func16, Tryz.ntmps16
       go_wp2_with (first
         | (go_at_call 43; go_loud (refine (HVS.out _ HB0.out.mod).mono ?_; (rintro en w1 ⟨rfl, hm1⟩); have HB1 := Lib.hid (HB0.out.keep hm1); have b0 := cell_of_row HB1.out.one 0; have b1 := cell_of_row HB1.out.one 1; have b2 := cell_of_row HB1.out.one 2; have b3 := cell_of_row HB1.out.one 3; have d0 := cell_of_row HB1.out.two 0; have d1 := cell_of_row HB1.out.two 1; have d2 := cell_of_row HB1.out.two 2; have d3 := cell_of_row HB1.out.two 3; have z1 := lt_of_block HB1.out.one; have z2 := lt_of_block HB1.out.two; simp at b0 b1 b2 b3 d0 d1 d2 d3; clear hm1)))
       go_ret
       exact ⟨by simp, HB1.out.mod⟩
   · have f1 : (p == p') = false := by simpa using hp
     go_enter Tryz.func16, Tryz.ntmps16
     go_wp2
     go_ret
     exact ⟨by simp [hp], HB0.out.mod⟩
 · have f1 : (e == e') = false := by simpa using he
   go_enter Tryz.func16, Tryz.ntmps16
   go_wp2
   go_ret
   exact ⟨by simp [he], HB0.out.mod⟩
end Go.Proofs.YtlpdifinkcjckaaGreatDoor
