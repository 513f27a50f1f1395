import Derived.Test.YtlpdifinkcjckaaGreatDoorMFw15
set_option linter.unusedVariables false
set_option linter.unusedSimpArgs false
namespace Go.Proofs.YtlpdifinkcjckaaGreatDoor
open Go.RowKit Go.Maps
def sF (k : Nat) : Nat × Value := (k, .agg #[])
structure LdAt (w : World) (g bm bs : Nat) (l : List Vtx) (wr : World) (ns : List Node) : Prop where
 pg : PG wr g bm ns
 is : ns.map Node.x = layAll l
 lo : ∀ b, Foot g bm ns b → w.heap.size ≤ b
 seen : UMap Tryz.prog 27 .u32 wr bs ((seenK l).map sF)
 slo : w.heap.size ≤ bs
 off : ¬ Foot g bm ns bs
 mod : Mod (fun _ => False) w wr
theorem LdAt.keep {w wr wx : World} {g bm bs : Nat} {l : List Vtx} {ns : List Node} (h : LdAt w g bm bs l wr ns) (m : Mod (fun _ => False) wr wx) : LdAt w g bm bs l wx ns := ⟨h.pg.keep m, h.is, h.lo, h.seen.keep m, h.slo, h.off, h.mod.trans m⟩
theorem LdAt.next {w wr W w3 : World} {g bm bs : Nat} {l : List Vtx} {ns ns' : List Node} {x : Vtx} {off : Nat → Prop} (h : LdAt w g bm bs l wr ns) (m : Mod (fun _ => False) wr W) (t : Turned g bm ns (layV x (ns.map Node.x)) off W w3 ns') (hid : x.id < 4294967296) (hl : l.length < 1000000) :
   ∃ w4, (Instr.mapUpdate 123 (.map (some bs)) (.int .u32 (x.id : Int)) (.agg #[])).run Tryz.prog w3 = .ok () w4 ∧ LdAt w g bm bs (l ++ [x]) w4 ns' := by
 have hk := h.keep m
 have hfm : ¬ FootM bm ns bs := fun f => hk.off (.inr f.foot)
 have hs3 := hk.seen.mod t.mod hfm
 obtain ⟨w4, e4, U, M⟩ := hs3.store Tryz.underlying27 Tryz.underlying123 (by rw [List.length_map]; have := (seenK_len l).1; unfold maxLen; omega) (u32key hid) (.agg #[])
 have hbs := hk.seen.lt
 have hoff : ¬ Foot g bm ns' bs := by
   rintro (e | f)
   · exact hk.off (.inl e)
   · rcases t.new _ f with f | f
     · exact hk.off (.inr f)
     · omega
 have hmd : Mod (fun _ => False) w w3 := hk.mod.trans' t.mod (fun i hi f => by have := h.lo i (.inr f.foot); omega)
 refine ⟨w4, e4, t.pg.mod M (fun b hb e => hoff (e ▸ hb)), ?_, fun b hb => ?_, ?_, h.slo, hoff, hmd.trans' M (fun i hi e => by have := h.slo; omega)⟩
 · rw [t.is, h.is, layAll_snoc]
 · rcases hb with e | f
   · exact h.lo _ (.inl e)
   · rcases t.new _ f with f | f
     · exact h.lo _ (.inr f)
     · have := hk.mod.size; omega
 · rw [seenK_snoc]
   have e := putL_map sF x.id (seenK_rise l)
   have e2 : (sF x.id) = (x.id, Value.agg #[]) := rfl
   rw [e2] at e
   rw [e] at U
   exact U
theorem formL_no {l : List Vtx} {x : Vtx} (hx : x ∈ l) (h : x.right = false) : formL l = false := by
 unfold formL
 have : l.all Vtx.right = false := by rw [List.all_eq_false]; exact ⟨x, hx, by simp [h]⟩
 rw [this]; rfl
theorem formL_all {l : List Vtx} (h : ∀ x ∈ l, x.right = true) : formL l = decide ((seenK l).length = l.length) := by
 unfold formL
 have : l.all Vtx.right = true := by rw [List.all_eq_true]; exact h
 rw [this, Bool.true_and]
theorem formL_right {l : List Vtx} (h : formL l = true) : ∀ x ∈ l, x.right = true := by
 unfold formL at h
 rw [Bool.and_eq_true, List.all_eq_true] at h
 exact h.1
def LaidP (l : List Vs) (w : World) (e : Ending) (w' : World) : Prop :=
 ∃ p, e = .returned (.tuple #[p, .bool (formL (l.map Vs.x))]) ∧ Mod (fun _ => False) w w' ∧ (formL (l.map Vs.x) = true → ∃ g bm ns, p = .pointer (some ⟨g, 0, none⟩) ∧ PG w' g bm ns ∧ ns.map Node.x = layAll (l.map Vs.x) ∧ ∀ b, Foot g bm ns b → w.heap.size ≤ b)
set_option maxRecDepth 100000 in
set_option maxHeartbeats 4000000 in
theorem laid_any (l : List Vs) (vl : Value) (w : World) (hl : LRd w vl l) (hn : l.length ≤ 4096) :
   Calls Tryz.prog 41 #[vl] w (LaidP l w) := by
 have HL := Lib.hid hl
 obtain ⟨a, c, rfl, hc1, hc2, -⟩ := hl.row.shape
 obtain ⟨n, hnn⟩ : ∃ n, n = l.length := ⟨_, rfl⟩
 have HN := Lib.hid hnn
 rw [← hnn] at HL hc1 hn ⊢
 clear hnn hl
 go_enter Tryz.func41, Tryz.ntmps41
 have hmm := @run_makeMap Tryz.prog
 go_wp2_with (go_at_call 9; refine (new_pg w).mono ?_; (rintro e w1 ⟨rfl, hm1, hp1, hs1⟩); have HP1 := Lib.hid hp1; have HM1 := Lib.hid hm1; have HS1 := Lib.hid hs1; clear hm1 hp1 hs1)
 clear hmm
 have HL0 : Hid (LdAt w (w.heap.size + 1) w.heap.size w1.heap.size [] (w1.alloc (.map #[] 0)) []) := Lib.hid (by
   have hs := HS1.out
   refine ⟨HP1.out.keep ((Mod.refl _ _).alloc _), rfl, fun b hb => ?_, UMap.made _ _ _ _, HM1.out.size, fun f => ?_, HM1.out.alloc _⟩
   · rcases hb with e | e | ⟨n, hn, _⟩
     · omega
     · omega
     · simp at hn
   · rcases f with e | e | ⟨n, hn, _⟩
     · omega
     · omega
     · simp at hn)
 clear HP1 HM1 HS1
 generalize w.heap.size + 1 = g at HL0 ⊢
 generalize w.heap.size = bm at HL0 ⊢
 generalize w1.heap.size = bs at HL0 ⊢
 go_loopw [12] (fun i wr => ∃ (k : Nat) (ns : List Node), i = .int .i64 (k : Int) ∧ k ≤ n ∧ LdAt w g bm bs ((l.map Vs.x).take k) wr ns ∧ ∀ x ∈ (l.map Vs.x).take k, x.right = true) (fun i _ => n - (intOf i).toNat)
 case atStart => exact ⟨0, [], rfl, Nat.zero_le _, by rw [List.take_zero]; exact HL0.out, by simp⟩
 case round =>
   obtain ⟨k, ns, rfl, hk, hld, hri⟩ := hrel
   have HLD := Lib.hid hld
   have HRI := Lib.hid hri
   clear hld hri HL0
   by_cases hkn : k < n
   · obtain ⟨s, hs⟩ : ∃ s, l[k]? = some s := ⟨_, List.getElem?_eq_getElem (by rw [← HN.out]; exact hkn)⟩
     obtain ⟨bl, offl, e0, hbl, r0, r1, r2, r3⟩ := HL.out.ent hs rfl
     have hvr := HL.out.at hs
     have HSM : Hid (s.x ∈ l.map Vs.x) := Lib.hid (List.mem_map_of_mem (List.mem_of_getElem? hs))
     have HTK : Hid ((l.map Vs.x).take (k + 1) = (l.map Vs.x).take k ++ [s.x]) := Lib.hid (by
       have hs2 : (l.map Vs.x)[k]? = some s.x := by rw [List.getElem?_map, hs]; rfl
       obtain ⟨h1, h2⟩ := List.getElem?_eq_some_iff.1 hs2
       rw [List.take_succ_eq_append_getElem h1, h2])
     replace r0 := HLD.out.mod.cell r0
     replace r1 := HLD.out.mod.cell r1
     replace r2 := HLD.out.mod.cell r2
     replace r3 := HLD.out.mod.cell r3
     have zbl : bl < wr.heap.size := Nat.lt_of_lt_of_le hbl HLD.out.mod.size
     have HVR := Lib.hid hvr
     obtain ⟨ap, cp, ep, -⟩ := hvr.props.shape
     obtain ⟨ah, ch, eh, -⟩ := hvr.halves.shape
     subst e0
     clear hs hbl hvr
     obtain ⟨⟨id, th, ps, hs⟩, vp, vh⟩ := s
     simp only at r0 r1 r2 r3 ep eh HVR HSM HTK
     subst ep eh
     obtain ⟨np, hnp⟩ : ∃ n, n = ps.length := ⟨_, rfl⟩
     obtain ⟨nh, hnh⟩ : ∃ n, n = hs.length := ⟨_, rfl⟩
     rw [← hnp] at r2 HVR
     rw [← hnh] at r3 HVR
     have HM2 : Hid (Mod (fun _ => False) wr (wr.alloc (.cells #[.int .u32 (id : Int), .bool th, .slice ap np cp, .slice ah nh ch] 47))) := Lib.hid ((Mod.refl _ _).alloc _)
     have HVW : Hid (VRd (wr.alloc (.cells #[.int .u32 (id : Int), .bool th, .slice ap np cp, .slice ah nh ch] 47)) (.slice ap np cp) (.slice ah nh ch) ⟨id, th, ps, hs⟩) := Lib.hid (HVR.out.keep (HLD.out.mod.trans HM2.out))
     clear hnp hnh
     cases hr : Vtx.right ⟨id, th, ps, hs⟩ with
     | true =>
       have HR := Lib.hid hr
       have HNS : Hid (ns.length < 1000000) := Lib.hid (by
         have h1 := (layAll_fair _ HRI.out).short
         rw [← HLD.out.is, List.length_map] at h1
         omega)
       have HPU : Hid (Calls Tryz.prog 68 #[.pointer (some ⟨g, 0, none⟩), .agg #[.int .u32 (id : Int), .bool th, .slice ap np cp, .slice ah nh ch]] (wr.alloc (.cells #[.int .u32 (id : Int), .bool th, .slice ap np cp, .slice ah nh ch] 47)) fun e w' => e = .returned (.int .i64 0) ∧ ∃ ns', Turned g bm ns (layV ⟨id, th, ps, hs⟩ (ns.map Node.x)) (fun k => k ≠ id) (wr.alloc (.cells #[.int .u32 (id : Int), .bool th, .slice ap np cp, .slice ah nh ch] 47)) w' ns') := Lib.hid (put_any ⟨id, th, ps, hs⟩ _ _ g bm ns _ HVW.out hr (HLD.out.pg.keep HM2.out) HNS.out)
       have HLT : Hid (((l.map Vs.x).take k).length < 1000000) := Lib.hid (by rw [List.length_take, List.length_map]; have := HN.out; omega)
       clear hr
       go_wp2_with (go_at_call 68; go_loud (refine HPU.out.mono ?_; (rintro e w3 ⟨rfl, ns', ht⟩); (obtain ⟨w4, e4, hl4⟩ := HLD.out.next HM2.out ht HVR.out.fits.id HLT.out); have HL4 := Lib.hid hl4; have hb3 := (HLD.out.pg.keep HM2.out).nm.box ht.mod (heap_alloc_new' wr _); have c0 := cell_of_row hb3 0; have zc := lt_of_block hb3; simp at c0; clear ht hl4 hb3))
       go_roundw
       case rel => exact ⟨k + 1, ns', by go_num, by omega, by rw [HTK.out]; exact HL4.out, fun x hx => by
         rw [HTK.out] at hx
         rcases List.mem_append.1 hx with h | h
         · exact HRI.out x h
         · rw [List.mem_singleton] at h; rw [h]; exact HR.out⟩
       case measure => simp [intOf]; omega
     | false =>
       have HNO := Lib.hid (formL_no HSM.out hr)
       have HPU := Lib.hid (put_bad ⟨id, th, ps, hs⟩ (.slice ap np cp) (.slice ah nh ch) (some ⟨g, 0, none⟩) _ HVW.out hr)
       clear hr
       go_wp2_with (go_at_call 68; go_loud (refine HPU.out.mono ?_; (rintro e w3 ⟨rfl, hm3⟩); have HM3 := Lib.hid hm3; clear hm3))
       go_ret2
       exact ⟨.pointer none, by rw [HNO.out]; rfl, HLD.out.mod.trans (HM2.out.trans HM3.out), fun h => by rw [HNO.out] at h; cases h⟩
   · have HTA : Hid ((l.map Vs.x).take k = l.map Vs.x) := Lib.hid (List.take_of_length_le (by rw [List.length_map]; have := HN.out; omega))
     rw [HTA.out] at HLD HRI
     have HFA := Lib.hid (formL_all HRI.out)
     have hlen := HLD.out.seen.len Tryz.underlying123 3
     rw [List.length_map] at hlen
     obtain ⟨q, hq⟩ : ∃ q, q = (seenK (l.map Vs.x)).length := ⟨_, rfl⟩
     have HQ := Lib.hid hq
     rw [← hq] at hlen
     clear hq
     by_cases hqn : q = n
     · have hqi : ((q : Int) == (n : Int)) = true := by simp; omega
       have HT : Hid (formL (l.map Vs.x) = true) := Lib.hid (by rw [HFA.out, decide_eq_true_eq, List.length_map, ← HQ.out, hqn, HN.out])
       clear hqn
       go_wp2
       go_ret2
       exact ⟨.pointer (some ⟨g, 0, none⟩), by rw [HT.out]; first | rfl | simp [hqi], HLD.out.mod, fun _ => ⟨g, bm, ns, rfl, HLD.out.pg, HLD.out.is, HLD.out.lo⟩⟩
     · have hqi : ((q : Int) == (n : Int)) = false := by simp; omega
       have HT : Hid (formL (l.map Vs.x) = false) := Lib.hid (by rw [HFA.out, decide_eq_false_iff_not, List.length_map, ← HQ.out, ← HN.out]; exact hqn)
       clear hqn
       go_wp2
       go_ret2
       exact ⟨.pointer (some ⟨g, 0, none⟩), by rw [HT.out]; first | rfl | simp [hqi], HLD.out.mod, fun h => by rw [HT.out] at h; cases h⟩
open Go.RowKit
theorem takes_eq {α : Type} {l m : List α} {k : Nat} {x : α} (h : l.take k = m.take k) (hx : l[k]? = some x) (hy : m[k]? = some x) : l.take (k + 1) = m.take (k + 1) := by
 obtain ⟨h1, h2⟩ := List.getElem?_eq_some_iff.1 hx
 obtain ⟨h3, h4⟩ := List.getElem?_eq_some_iff.1 hy
 rw [List.take_succ_eq_append_getElem h1, List.take_succ_eq_append_getElem h3, h, h2, h4]
theorem at_ne {α : Type} {l m : List α} {k : Nat} {x y : α} (hx : l[k]? = some x) (hy : m[k]? = some y) (hne : x ≠ y) : l ≠ m := by
 rintro rfl
 rw [hx] at hy
 exact hne (Option.some.inj hy)
theorem bytes_inj {a b : ByteArray} (h : a.toList = b.toList) : a = b := by
 rw [ByteArray.toList_eq, ByteArray.toList_eq] at h
 exact ByteArray.ext (Array.toList_inj.1 h)
theorem val_cases (x y : Val) : x = y ∨ (x ≠ y ∧ ((((x.k : Int) == (y.k : Int)) = false ∧ ¬ (x.k : Int) = (y.k : Int)) ∨ (x.k = y.k ∧ (x.n == y.n) = false ∧ ¬ x.n = y.n) ∨ (x.k = y.k ∧ x.n = y.n ∧ ¬ x.s.toList = y.s.toList))) := by
 obtain ⟨k, n, s⟩ := x
 obtain ⟨k', n', s'⟩ := y
 by_cases h1 : k = k'
 · by_cases h2 : n = n'
   · by_cases h3 : s = s'
     · subst h1 h2 h3; exact .inl rfl
     · exact .inr ⟨fun e => by injection e with _ _ e; exact h3 e, .inr (.inr ⟨h1, h2, fun e => h3 (bytes_inj e)⟩)⟩
   · exact .inr ⟨fun e => by injection e with _ e _; exact h2 e, .inr (.inl ⟨h1, by simpa using h2, h2⟩)⟩
 · exact .inr ⟨fun e => by injection e with e _ _; exact h1 e, .inl ⟨by simp; omega, by simp only; omega⟩⟩
open Go.RowKit
instance : DecidableEq Ent := fun x y => decidable_of_iff (x.key = y.key ∧ x.val = y.val) (by cases x; cases y; simp)
instance : DecidableEq Vtx := fun x y => decidable_of_iff (x.id = y.id ∧ x.there = y.there ∧ x.props = y.props ∧ x.halves = y.halves) (by cases x; cases y; simp)
theorem ent_cases (x y : Ent) : x = y ∨ (x ≠ y ∧ ((((x.key : Int) == (y.key : Int)) = false ∧ ¬ (x.key : Int) = (y.key : Int)) ∨ (x.key = y.key ∧ ((x.val.k : Int) == (y.val.k : Int)) = false ∧ ¬ (x.val.k : Int) = (y.val.k : Int)) ∨ (x.key = y.key ∧ x.val.k = y.val.k ∧ (x.val.n == y.val.n) = false ∧ ¬ x.val.n = y.val.n) ∨ (x.key = y.key ∧ x.val.k = y.val.k ∧ x.val.n = y.val.n ∧ ¬ x.val.s.toList = y.val.s.toList))) := by
 have d : ∀ {p q : Nat}, p ≠ q → ((p : Int) == (q : Int)) = false ∧ ¬ (p : Int) = (q : Int) := fun {p q} h => ⟨by simp; omega, by omega⟩
 by_cases he : x = y
 · exact .inl he
 · refine .inr ⟨he, ?_⟩
   obtain ⟨k, v⟩ := x
   obtain ⟨k', v'⟩ := y
   simp only
   by_cases h1 : k = k'
   · subst h1
     rcases val_cases v v' with h | ⟨_, h | h | h⟩
     · subst h; exact absurd rfl he
     · exact .inr (.inl ⟨rfl, h⟩)
     · exact .inr (.inr (.inl ⟨rfl, h⟩))
     · exact .inr (.inr (.inr ⟨rfl, h⟩))
   · exact .inl (d h1)
set_option maxRecDepth 100000 in
set_option maxHeartbeats 2000000 in
theorem eqprops_any (v u : Value) (l m : List Ent) (w : World) (hv : RdS w 4 v l.length (cellsOf .u8 l)) (hu : RdS w 4 u m.length (cellsOf .u8 m)) :
   Calls Tryz.prog 69 #[v, u] w fun e w' => e = .returned (.bool (decide (l = m))) ∧ Mod (fun _ => False) w w' := by
 have HV := Lib.hid hv
 have HU := Lib.hid hu
 obtain ⟨a, c, rfl, hc1, hc2, -⟩ := hv.shape
 obtain ⟨a', c', rfl, hc1', hc2', -⟩ := hu.shape
 clear hv hu
 obtain ⟨n, hl⟩ : ∃ n, n = l.length := ⟨_, rfl⟩
 obtain ⟨n', hl'⟩ : ∃ n, n = m.length := ⟨_, rfl⟩
 have HN := Lib.hid hl
 have HN' := Lib.hid hl'
 rw [← hl] at HV hc1 ⊢
 rw [← hl'] at HU hc1' ⊢
 clear hl hl'
 by_cases hnn : n = n'
 · subst hnn
   go_enter Tryz.func69, Tryz.ntmps69
   go_wp2
   go_loopw [13] (fun i wr => ∃ k : Nat, i = .int .i64 k ∧ k ≤ n ∧ Mod (fun _ => False) w wr ∧ l.take k = m.take k) (fun i _ => n - (intOf i).toNat)
   case atStart => exact ⟨0, rfl, Nat.zero_le _, Mod.refl _ _, rfl⟩
   case round =>
     obtain ⟨k, rfl, hk, hm, htk⟩ := hrel
     have HM := Lib.hid hm
     have HTK := Lib.hid htk
     clear hm htk
     by_cases hkn : k < n
     · obtain ⟨x, hx⟩ : ∃ x, l[k]? = some x := ⟨_, List.getElem?_eq_getElem (by rw [← HN.out]; exact hkn)⟩
       obtain ⟨y, hy⟩ : ∃ y, m[k]? = some y := ⟨_, List.getElem?_eq_getElem (by rw [← HN'.out]; exact hkn)⟩
       obtain ⟨b, off, rfl, hb, p0, p1, p2, p3⟩ := HV.out.ent hx rfl
       obtain ⟨b', off', rfl, hb', q0, q1, q2, q3⟩ := HU.out.ent hy rfl
       have p0 : ∀ x : MW wr, x.w.cell? _ = some _ := fun x => x.cell (HM.out.cell p0)
       have p1 : ∀ x : MW wr, x.w.cell? _ = some _ := fun x => x.cell (HM.out.cell p1)
       have p2 : ∀ x : MW wr, x.w.cell? _ = some _ := fun x => x.cell (HM.out.cell p2)
       have p3 : ∀ x : MW wr, x.w.cell? _ = some _ := fun x => x.cell (HM.out.cell p3)
       have q0 : ∀ x : MW wr, x.w.cell? _ = some _ := fun x => x.cell (HM.out.cell q0)
       have q1 : ∀ x : MW wr, x.w.cell? _ = some _ := fun x => x.cell (HM.out.cell q1)
       have q2 : ∀ x : MW wr, x.w.cell? _ = some _ := fun x => x.cell (HM.out.cell q2)
       have q3 : ∀ x : MW wr, x.w.cell? _ = some _ := fun x => x.cell (HM.out.cell q3)
       rcases ent_cases x y with hxy | ⟨hxy, hcs⟩
       · subst hxy
         have HTS := Lib.hid (takes_eq HTK.out hx hy)
         clear hx hy
         obtain ⟨xe, ⟨xk, xn, xs⟩⟩ := x
         simp only at p0 p1 p2 p3 q0 q1 q2 q3
         go_wp2_with fail
         refine wp_region_quietM (by kernel_rfl) (by kernel_rfl) ?_
         repeat (go_big_quiet_step (fail))
         refine wpQuiet_nil ?_
         intro w3 hm3
         have M3 : Hid (Mod (fun _ => False) w w3) := Lib.hid (HM.out.trans (MW.mod_of hm3))
         clear hm3 p0 q0 p1 q1 p2 q2 p3 q3
         go_wp2
         go_roundw
         case rel => exact ⟨k + 1, by go_num, by omega, M3.out, HTS.out⟩
         case measure => simp [intOf]; omega
       · have HNE := Lib.hid (at_ne hx hy hxy)
         clear hx hy hxy
         obtain ⟨xe, ⟨xk, xn, xs⟩⟩ := x
         obtain ⟨ye, ⟨yk, yn, ys⟩⟩ := y
         simp only at p0 p1 p2 p3 q0 q1 q2 q3 hcs
         rcases hcs with ⟨f1, f2⟩ | ⟨rfl, f1, f2⟩ | ⟨rfl, rfl, f1, f2⟩ | ⟨rfl, rfl, rfl, f1⟩
         all_goals
           go_wp2_with fail
           refine wp_region_quietM (by kernel_rfl) (by kernel_rfl) ?_
           repeat (go_big_quiet_step (fail))
           refine wpQuiet_nil ?_
           intro w3 hm3
           have M3 : Hid (Mod (fun _ => False) w w3) := Lib.hid (HM.out.trans (MW.mod_of hm3))
           clear hm3 p0 q0 p1 q1 p2 q2 p3 q3
           go_wp2
           go_ret
           exact ⟨by rw [decide_eq_false HNE.out]; rfl, M3.out⟩
     · have HEQ : Hid (l = m) := Lib.hid (by
         have h := HTK.out
         rwa [List.take_of_length_le (by have := HN.out; omega), List.take_of_length_le (by have := HN'.out; omega)] at h)
       go_wp2
       go_ret
       exact ⟨by rw [decide_eq_true HEQ.out]; rfl, HM.out⟩
 · have HNE : Hid (l ≠ m) := Lib.hid (by rintro rfl; exact hnn (HN.out.trans HN'.out.symm))
   go_enter Tryz.func69, Tryz.ntmps69
   go_wp2
   go_ret
   exact ⟨by rw [decide_eq_false HNE.out]; rfl, Mod.refl _ _⟩
set_option maxRecDepth 100000 in
set_option maxHeartbeats 2000000 in
theorem eqhalves_any (v u : Value) (l m : List Ent) (w : World) (hv : RdS w 4 v l.length (cellsOf .u32 l)) (hu : RdS w 4 u m.length (cellsOf .u32 m)) :
   Calls Tryz.prog 70 #[v, u] w fun e w' => e = .returned (.bool (decide (l = m))) ∧ Mod (fun _ => False) w w' := by
 have HV := Lib.hid hv
 have HU := Lib.hid hu
 obtain ⟨a, c, rfl, hc1, hc2, -⟩ := hv.shape
 obtain ⟨a', c', rfl, hc1', hc2', -⟩ := hu.shape
 clear hv hu
 obtain ⟨n, hl⟩ : ∃ n, n = l.length := ⟨_, rfl⟩
 obtain ⟨n', hl'⟩ : ∃ n, n = m.length := ⟨_, rfl⟩
 have HN := Lib.hid hl
 have HN' := Lib.hid hl'
 rw [← hl] at HV hc1 ⊢
 rw [← hl'] at HU hc1' ⊢
 clear hl hl'
 by_cases hnn : n = n'
 · subst hnn
   go_enter Tryz.func70, Tryz.ntmps70
   go_wp2
   go_loopw [13] (fun i wr => ∃ k : Nat, i = .int .i64 k ∧ k ≤ n ∧ Mod (fun _ => False) w wr ∧ l.take k = m.take k) (fun i _ => n - (intOf i).toNat)
   case atStart => exact ⟨0, rfl, Nat.zero_le _, Mod.refl _ _, rfl⟩
   case round =>
     obtain ⟨k, rfl, hk, hm, htk⟩ := hrel
     have HM := Lib.hid hm
     have HTK := Lib.hid htk
     clear hm htk
     by_cases hkn : k < n
     · obtain ⟨x, hx⟩ : ∃ x, l[k]? = some x := ⟨_, List.getElem?_eq_getElem (by rw [← HN.out]; exact hkn)⟩
       obtain ⟨y, hy⟩ : ∃ y, m[k]? = some y := ⟨_, List.getElem?_eq_getElem (by rw [← HN'.out]; exact hkn)⟩
       obtain ⟨b, off, rfl, hb, p0, p1, p2, p3⟩ := HV.out.ent hx rfl
       obtain ⟨b', off', rfl, hb', q0, q1, q2, q3⟩ := HU.out.ent hy rfl
       have p0 : ∀ x : MW wr, x.w.cell? _ = some _ := fun x => x.cell (HM.out.cell p0)
       have p1 : ∀ x : MW wr, x.w.cell? _ = some _ := fun x => x.cell (HM.out.cell p1)
       have p2 : ∀ x : MW wr, x.w.cell? _ = some _ := fun x => x.cell (HM.out.cell p2)
       have p3 : ∀ x : MW wr, x.w.cell? _ = some _ := fun x => x.cell (HM.out.cell p3)
       have q0 : ∀ x : MW wr, x.w.cell? _ = some _ := fun x => x.cell (HM.out.cell q0)
       have q1 : ∀ x : MW wr, x.w.cell? _ = some _ := fun x => x.cell (HM.out.cell q1)
       have q2 : ∀ x : MW wr, x.w.cell? _ = some _ := fun x => x.cell (HM.out.cell q2)
       have q3 : ∀ x : MW wr, x.w.cell? _ = some _ := fun x => x.cell (HM.out.cell q3)
       rcases ent_cases x y with hxy | ⟨hxy, hcs⟩
       · subst hxy
         have HTS := Lib.hid (takes_eq HTK.out hx hy)
         clear hx hy
         obtain ⟨xe, ⟨xk, xn, xs⟩⟩ := x
         simp only at p0 p1 p2 p3 q0 q1 q2 q3
         go_wp2_with fail
         refine wp_region_quietM (by kernel_rfl) (by kernel_rfl) ?_
         repeat (go_big_quiet_step (fail))
         refine wpQuiet_nil ?_
         intro w3 hm3
         have M3 : Hid (Mod (fun _ => False) w w3) := Lib.hid (HM.out.trans (MW.mod_of hm3))
         clear hm3 p0 q0 p1 q1 p2 q2 p3 q3
         go_wp2
         go_roundw
         case rel => exact ⟨k + 1, by go_num, by omega, M3.out, HTS.out⟩
         case measure => simp [intOf]; omega
       · have HNE := Lib.hid (at_ne hx hy hxy)
         clear hx hy hxy
         obtain ⟨xe, ⟨xk, xn, xs⟩⟩ := x
         obtain ⟨ye, ⟨yk, yn, ys⟩⟩ := y
         simp only at p0 p1 p2 p3 q0 q1 q2 q3 hcs
         rcases hcs with ⟨f1, f2⟩ | ⟨rfl, f1, f2⟩ | ⟨rfl, rfl, f1, f2⟩ | ⟨rfl, rfl, rfl, f1⟩
         all_goals
           go_wp2_with fail
           refine wp_region_quietM (by kernel_rfl) (by kernel_rfl) ?_
           repeat (go_big_quiet_step (fail))
           refine wpQuiet_nil ?_
           intro w3 hm3
           have M3 : Hid (Mod (fun _ => False) w w3) := Lib.hid (HM.out.trans (MW.mod_of hm3))
           clear hm3 p0 q0 p1 q1 p2 q2 p3 q3
           go_wp2
           go_ret
           exact ⟨by rw [decide_eq_false HNE.out]; rfl, M3.out⟩
     · have HEQ : Hid (l = m) := Lib.hid (by
         have h := HTK.out
         rwa [List.take_of_length_le (by have := HN.out; omega), List.take_of_length_le (by have := HN'.out; omega)] at h)
       go_wp2
       go_ret
       exact ⟨by rw [decide_eq_true HEQ.out]; rfl, HM.out⟩
 · have HNE : Hid (l ≠ m) := Lib.hid (by rintro rfl; exact hnn (HN.out.trans HN'.out.symm))
   go_enter Tryz.func70, Tryz.ntmps70
   go_wp2
   go_ret
   exact ⟨by rw [decide_eq_false HNE.out]; rfl, Mod.refl _ _⟩
theorem heap_second2 (W : World) (A B : Obj) : ((W.alloc A).alloc B).heap[W.heap.size + 1]? = some B := by
 have h := heap_alloc_new' (W.alloc A) B
 simpa using h
def sameB (x y : Vtx) : Bool := decide (x.there = y.there) && (decide (x.props = y.props) && decide (x.halves = y.halves))
set_option maxRecDepth 100000 in
set_option maxHeartbeats 2000000 in
theorem psame_any (x y : Vtx) (vp vh up uh : Value) (w : World) (hx : VRd w vp vh x) (hy : VRd w up uh y) :
   Calls Tryz.prog 42 #[vtxV x vp vh, vtxV y up uh] w fun e w' => e = .returned (.bool (sameB x y)) ∧ Mod (fun _ => False) w w' := by
 have HX := Lib.hid hx
 have HY := Lib.hid hy
 obtain ⟨ap, cp, e1, -⟩ := hx.props.shape
 obtain ⟨ah, ch, e2, -⟩ := hx.halves.shape
 obtain ⟨ap', cp', e3, -⟩ := hy.props.shape
 obtain ⟨ah', ch', e4, -⟩ := hy.halves.shape
 subst e1 e2 e3 e4
 obtain ⟨id, th, ps, hs⟩ := x
 obtain ⟨id', th', ps', hs'⟩ := y
 obtain ⟨np, hnp⟩ : ∃ n, n = ps.length := ⟨_, rfl⟩
 obtain ⟨nh, hnh⟩ : ∃ n, n = hs.length := ⟨_, rfl⟩
 obtain ⟨np', hnp'⟩ : ∃ n, n = ps'.length := ⟨_, rfl⟩
 obtain ⟨nh', hnh'⟩ : ∃ n, n = hs'.length := ⟨_, rfl⟩
 have HP : Hid (∀ w', Mod (fun _ => False) w w' → Calls Tryz.prog 69 #[.slice ap np cp, .slice ap' np' cp'] w' fun e w'' => e = .returned (.bool (decide (ps = ps'))) ∧ Mod (fun _ => False) w' w'') := Lib.hid (fun w' m => eqprops_any _ _ ps ps' w' (by have h := (HX.out.keep m).props; simp only [← hnp] at h ⊢; exact h) (by have h := (HY.out.keep m).props; simp only [← hnp'] at h ⊢; exact h))
 have HH : Hid (∀ w', Mod (fun _ => False) w w' → Calls Tryz.prog 70 #[.slice ah nh ch, .slice ah' nh' ch'] w' fun e w'' => e = .returned (.bool (decide (hs = hs'))) ∧ Mod (fun _ => False) w' w'') := Lib.hid (fun w' m => eqhalves_any _ _ hs hs' w' (by have h := (HX.out.keep m).halves; simp only [← hnh] at h ⊢; exact h) (by have h := (HY.out.keep m).halves; simp only [← hnh'] at h ⊢; exact h))
 have HS : Hid (sameB ⟨id, th, ps, hs⟩ ⟨id', th', ps', hs'⟩ = (decide (th = th') && (decide (ps = ps') && decide (hs = hs')))) := Lib.hid rfl
 simp only [vtxV, ← hnp, ← hnh, ← hnp', ← hnh']
 clear hx hy hnp hnh hnp' hnh' HX HY
 generalize decide (ps = ps') = bp at HP HS
 generalize decide (hs = hs') = bh at HH HS
 generalize sameB ⟨id, th, ps, hs⟩ ⟨id', th', ps', hs'⟩ = bs at HS ⊢
 go_enter Tryz.func42, Tryz.ntmps42
 cases th <;> cases th' <;> cases bp <;> cases bh
 all_goals
   go_wp2_with (first
     | (go_at_call 70; refine (HH.out _ HM1.out).mono ?_; (rintro e w2 ⟨rfl, hm2⟩); have HM2 := Lib.hid (HM1.out.trans hm2); clear hm2)
     | (go_at_call 69; refine (HP.out _ (((Mod.refl _ _).alloc _).alloc _)).mono ?_; (rintro e w1 ⟨rfl, hm1⟩); have HM1 : Hid (Mod (fun _ => False) w w1) := Lib.hid ((((Mod.refl _ _).alloc _).alloc _).trans hm1); have b0 := hm1.heap (heap_alloc_old (heap_alloc_new' w _)) (fun f => f); have b1 := hm1.heap (heap_second2 _ _ _) (fun f => f); have c3 := cell_of_row b0 3; have d3 := cell_of_row b1 3; have zb := lt_of_block b0; have zd := lt_of_block b1; simp at c3 d3; clear hm1 b0 b1))
   go_ret
   refine ⟨by rw [HS.out]; rfl, ?_⟩
   first
     | exact HM2.out
     | exact HM1.out
     | exact ((Mod.refl _ _).alloc _).alloc _
section
variable {α : Type} {key : α → Nat}
theorem rising_extG : ∀ {a b : List α}, Rising key a → Rising key b → (∀ p, p ∈ a ↔ p ∈ b) → a = b
 | [], [], _, _, _ => rfl
 | [], y :: r, _, _, h => absurd ((h y).2 (by simp)) (by simp)
 | x :: r, [], _, _, h => absurd ((h x).1 (by simp)) (by simp)
 | x :: r, y :: t, ha, hb, h => by
   obtain ⟨hx, hr⟩ := List.pairwise_cons.1 ha
   obtain ⟨hy, ht⟩ := List.pairwise_cons.1 hb
   have e : x = y := by
     rcases List.mem_cons.1 ((h x).1 (by simp)) with e | e
     · exact e
     · rcases List.mem_cons.1 ((h y).2 (by simp)) with e2 | e2
       · exact e2.symm
       · have := hx y e2; have := hy x e; omega
   subst e
   rw [rising_extG hr ht (fun p => ?_)]
   constructor
   · intro hp
     rcases List.mem_cons.1 ((h p).1 (by simp [hp])) with e | e
     · subst e; have := hx p hp; omega
     · exact e
   · intro hp
     rcases List.mem_cons.1 ((h p).2 (by simp [hp])) with e | e
     · subst e; have := hy p hp; omega
     · exact e
end
open Go.RowKit Go.Maps
def namedB (ops : List Opr) (k : Nat) : Bool := ops.any fun o => o.a == k || o.b == k
def namedTo (ops : List Opr) (ids : List Nat) (j k : Nat) : Bool := namedB ops k || (ids.take j).any fun i => i == k
theorem namedTo_zero (ops : List Opr) (ids : List Nat) : namedTo ops ids 0 = namedB ops := by
 funext k; simp [namedTo]
theorem namedTo_succ {ops : List Opr} {ids : List Nat} {j i : Nat} (h : ids[j]? = some i) (k : Nat) : namedTo ops ids (j + 1) k = (namedTo ops ids j k || i == k) := by
 obtain ⟨h1, h2⟩ := List.getElem?_eq_some_iff.1 h
 unfold namedTo
 rw [List.take_succ_eq_append_getElem h1, h2, List.any_append]
 simp [Bool.or_assoc]
theorem namedB_next {ops : List Opr} {i : Nat} {o : Opr} (h : ops[i]? = some o) : namedB (ops.take (i + 1)) = namedTo (ops.take i) [o.a, o.b] 2 := by
 obtain ⟨h1, h2⟩ := List.getElem?_eq_some_iff.1 h
 funext k
 unfold namedB namedTo
 rw [List.take_succ_eq_append_getElem h1, h2, List.any_append]
 simp [namedB]
theorem namedB_nil : namedB [] = fun _ => false := rfl
theorem filter_more {L : Gr} (hr : Rising Vtx.id L) {x : Vtx} (hx : x ∈ L) (p : Nat → Bool) : layG Vtx.id x false (L.filter fun y => p y.id) = L.filter fun y => p y.id || x.id == y.id := by
 have hf : Rising Vtx.id (L.filter fun y => p y.id) := List.Pairwise.filter _ hr
 refine rising_extG (Rising.lay hf) (List.Pairwise.filter _ hr) fun y => ?_
 rw [layG_mem hf, List.mem_filter, List.mem_filter, Bool.or_eq_true, beq_iff_eq]
 constructor
 · rintro (⟨⟨h1, h2⟩, _⟩ | ⟨_, rfl⟩)
   · exact ⟨h1, .inl h2⟩
   · exact ⟨hx, .inr rfl⟩
 · rintro ⟨h1, h2⟩
   by_cases e : y.id = x.id
   · exact .inr ⟨rfl, hr.uniq h1 hx e⟩
   · exact .inl ⟨⟨h1, h2.resolve_right (fun c => e c.symm)⟩, e⟩
theorem filter_none {L : Gr} {v : Nat} (hv : findV L v = none) (p : Nat → Bool) : (L.filter fun y => p y.id || v == y.id) = L.filter fun y => p y.id := by
 apply List.filter_congr
 intro y hy
 have := findV_none.1 hv y hy
 have e : (v == y.id) = false := by simp; omega
 rw [e, Bool.or_false]
theorem laid_back {ops : List Opr} {ns0 nsi nsf cs : List Node} (h0 : Rising keyN ns0) (hf : Rising keyN nsf) (hs : ∀ n : Node, namedB ops n.x.id = false → (n ∈ nsi ↔ n ∈ ns0)) (hc : cs.map Node.x = (ns0.map Node.x).filter fun y => namedB ops y.id)
   (hm : ∀ n : Node, n ∈ nsf ↔ (n ∈ nsi ∧ namedB ops n.x.id = false) ∨ n ∈ cs) : nsf.map Node.x = ns0.map Node.x := by
 refine rising_extG (key := Vtx.id) (rising_map hf) (rising_map h0) fun p => ?_
 rw [List.mem_map, List.mem_map]
 constructor
 · rintro ⟨n, hn, rfl⟩
   rcases (hm n).1 hn with ⟨h1, h2⟩ | h
   · exact ⟨n, (hs n h2).1 h1, rfl⟩
   · have : n.x ∈ cs.map Node.x := List.mem_map_of_mem h
     rw [hc] at this
     obtain ⟨m, h1, h2⟩ := List.mem_map.1 (List.mem_filter.1 this).1
     exact ⟨m, h1, h2⟩
 · rintro ⟨n, hn, rfl⟩
   cases hb : namedB ops n.x.id with
   | true =>
     have : n.x ∈ cs.map Node.x := by
       rw [hc, List.mem_filter]
       exact ⟨List.mem_map_of_mem hn, hb⟩
     obtain ⟨c, h1, h2⟩ := List.mem_map.1 this
     exact ⟨c, (hm c).2 (.inr h1), h2⟩
   | false => exact ⟨n, (hm n).2 (.inl ⟨(hs n hb).2 hn, hb⟩), rfl⟩
end Go.Proofs.YtlpdifinkcjckaaGreatDoor
