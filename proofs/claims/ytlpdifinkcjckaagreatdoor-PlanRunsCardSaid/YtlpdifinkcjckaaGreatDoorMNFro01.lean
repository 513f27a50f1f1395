import Derived.Test.YtlpdifinkcjckaaGreatDoorMFw27
import Derived.Test.YtlpdifinkcjckaaGreatDoorMNFro00
set_option linter.unusedVariables false
set_option linter.unusedSimpArgs false
namespace Go.Proofs.YtlpdifinkcjckaaGreatDoor
open Go.RowKit Go.Maps
set_option maxRecDepth 100000 in
set_option maxHeartbeats 2000000 in
theorem keysStopSt (Bm b : Nat) (es : Ents) (w : World) (hBm : Bm < w.heap.size) (hm : w.cell? ⟨Bm, 0, none⟩ = some (.map (some b))) (hU : UMap Tryz.prog 27 .u32 w b es) :
   SeqStops Fence.wide 4 Tryz.prog 79 #[.pointer (some ⟨Bm, 0, none⟩)] (keyV .u32) (fun ss => ss.Perm (es.map (·.1))) (fun _ => True) es.length w := by
 intro l J Jx W hW hJ _ hY h0
 have hm' : W.cell? ⟨Bm, 0, none⟩ = some (.map (some b)) := (hW.cell (p := ⟨Bm, 0, none⟩) hBm).trans hm
 have hown : W.ownsMap Tryz.prog 27 rawE b es.length (entsD .u32 es) := by
   have hbl := hU.lt
   obtain ⟨xs, clock, hb, Ft, hs, hD⟩ := hU.own
   exact ⟨xs, clock, (hW.block b hbl).trans hb, Ft, hs, hD⟩
 have hsz : Maps.size (entsD .u32 es) = es.length := entsD_size _ _
 have hri := UMap.rising hU (int_keyed Tryz.underlying27)
 refine callsIn_of_wp Tryz.func79 rfl trivial ?_ rfl
 simp only [Tryz.ntmps79, List.size_toArray, List.length_cons, List.length_nil, Nat.reduceAdd, Nat.reduceSub, Array.replicate_succ, Array.replicate_zero, List.push_toArray, List.append_toArray, List.nil_append, List.cons_append]
 have HRI := Lib.hid hri
 have HSZ := Lib.hid hsz
 have HU := Lib.hid hU
 have HW := Lib.hid hW
 clear hri hsz hm hU hW
 gi_wp2_with (first
   | (gi_at_range; refine wpListIn_range_own _ rfl _ 123 rfl 27 124 (int_keyed Tryz.underlying27) Tryz.underlying123 _ b es.length _ rfl hown ?_; intro w0 hrg0 hg0 hs0)
   | gi_in)
 go_frame
 gi_loopw [3] (fun _ wr => ∃ (left : Lit → Bool) (cnt : Nat) (ss : List Nat), wr.ranges Tryz.prog 27 rawE b W.heap.size es.length (entsD .u32 es) left cnt ∧ ss.length + cnt ≤ es.length ∧ CollU .u32 es left ss ∧ J ss wr)
   (fun _ wr => wr.rangeLeft b W.heap.size)
 case atStart =>
   exact ⟨_, _, [], hrg0, by rw [HSZ.out]; simp, CollU.start _ _, hJ [] W w0 none h0 hg0 (fun r e => by cases e)⟩
 case round =>
   obtain ⟨left, cnt, ss, hrg, hcs, hC, hJs⟩ := hrel
   gi_wp2_with (first
     | (gi_at_next; refine wpListIn_next_ranges _ rfl _ rfl 27 (int_keyed Tryz.underlying27) rawE (keyV .u32) id (fun key kl hk => by obtain ⟨x, hx, _⟩ := key_nat (by simp) Tryz.underlying27 hk; exact ⟨x, hx⟩) (fun v _ _ => ⟨v, rfl⟩) b W.heap.size es.length _ _ _ rfl hrg ?_ ?_)
     | gi_in)
   · intro hc0 hl0
     gi_wp2
     go_end0
     exact ⟨⟨_, rfl⟩, .inl ⟨ss, hC.perm HRI.out hl0, hJs⟩⟩
   · intro x c kl yd yp w2 cnt2 hkey hlk hv hat hrg2 hlt hg2 hs2 hen
     obtain ⟨x', ex, rfl, _⟩ := key_nat (by simp) Tryz.underlying27 hkey
     obtain rfl : x = x' := keyV_inj ex
     have hJ2 : J ss w2 := hJ ss wr w2 (some W.heap.size) hJs hg2 (fun r e => by cases e; exact ⟨Nat.le_refl _, hrg.iter_walk⟩)
     obtain ⟨fn, tmps, assign, body, hy, hR⟩ := hY ss x w2 hJ2 (by omega)
     clear hs2
     gi_wp2
     refine hR.mono ?_
     have hC2 := hC.step hlk hat
     rintro e W3 (⟨rfl, hJ3, hk3⟩ | ⟨rfl, hJx3⟩)
     · gi_wp2
       have hrg3 := hrg2.of_walks hk3
       go_roundw
       case rel => exact ⟨_, cnt2, ss ++ [x], hrg3, by simp; omega, hC2, hJ3⟩
       case measure => rw [hrg3.left_eq, hrg.left_eq]; exact hlt
     · gi_wp2
       refine bodyPost_ret (results_none rfl _ _ _) rfl ?_
       exact ⟨⟨_, rfl⟩, .inr ⟨ss ++ [x], trivial, hJx3⟩⟩
theorem keysSt (mb : Option Nat) (w : World) : Calls Tryz.prog 51 #[.map mb] w fun e w' => e = .returned (.func (.func 79) #[] #[.pointer (some ⟨w.heap.size, 0, none⟩)]) ∧ w' = w.alloc (.cells #[.map mb] 123) := by
 go_enter Tryz.func51, Tryz.ntmps51
 go_wp2
 go_ret
 exact ⟨rfl, rfl⟩
theorem sortedKeysSt (b : Nat) (es : Ents) (w : World) (hU : UMap Tryz.prog 27 .u32 w b es) (hl : es.length < 999999) :
   Calls Tryz.prog 36 #[.func (.func 79) #[] #[.pointer (some ⟨w.heap.size, 0, none⟩)]] (w.alloc (.cells #[.map (some b)] 123)) fun e w' => ∃ v, e = .returned v ∧ SegN w w' v (es.map (·.1)) := by
 have hri := UMap.rising hU (int_keyed Tryz.underlying27)
 refine (sorted_any _ _ (enters_of Tryz.func79 (by kernel_rfl) rfl) _ _ es.length hl (fun ss h => by rw [h.length_eq, List.length_map]; exact hl) _
   (keysStopSt w.heap.size b es _ (by simp) (by rw [cell_of_row (heap_alloc_new' w _)]; rfl) (hU.keep ((Mod.refl _ w).alloc _)))).mono ?_
 rintro e w' ⟨v, ss, ts, rfl, h1, h2, h3, h4⟩
 have e1 : ts = es.map (·.1) := rising_eq (by rw [List.pairwise_map]; exact hri) (h2.trans h1) h3
 subst e1
 exact ⟨v, rfl, h4.seg, fun k hk => by have := h4.own k hk; simp at this; omega, ((Mod.refl _ w).alloc _).trans h4.mod⟩
open Go.RowKit Go.Maps
def frX (s : List Nat) (hs : List Ent) : List Nat := hs.foldl (fun s h => layG id h.key false s) s
def frK (l : List Vtx) : List Nat := l.foldl (fun s v => frX s v.halves) []
theorem frX_snoc (s : List Nat) (hs : List Ent) (h : Ent) : frX s (hs ++ [h]) = layG id h.key false (frX s hs) := by simp [frX]
theorem frK_snoc (l : List Vtx) (x : Vtx) : frK (l ++ [x]) = frX (frK l) x.halves := by simp [frK]
theorem frX_ok {s : List Nat} (hs : Rising id s) (l : List Ent) : Rising id (frX s l) ∧ ∀ k, k ∈ frX s l ↔ k ∈ s ∨ ∃ h ∈ l, h.key = k := by
 induction l using esnoc_ind with
 | h0 => exact ⟨hs, by simp [frX]⟩
 | hs l h ih =>
   rw [frX_snoc]
   refine ⟨Rising.lay ih.1, fun k => ?_⟩
   rw [layG_mem ih.1, ih.2]
   simp only [id, true_and, List.mem_append, List.mem_singleton]
   constructor
   · rintro (⟨h1 | ⟨e, he, rfl⟩, _⟩ | h1)
     · exact .inl h1
     · exact .inr ⟨e, .inl he, rfl⟩
     · exact .inr ⟨h, .inr rfl, h1.symm⟩
   · rintro (h1 | ⟨e, he | he, rfl⟩)
     · by_cases c : k = h.key
       · exact .inr c
       · exact .inl ⟨.inl h1, c⟩
     · by_cases c : e.key = h.key
       · exact .inr c
       · exact .inl ⟨.inr ⟨e, he, rfl⟩, c⟩
     · subst he; exact .inr rfl
theorem frK_ok (l : List Vtx) : Rising id (frK l) ∧ ∀ k, k ∈ frK l ↔ ∃ x ∈ l, ∃ h ∈ x.halves, h.key = k := by
 induction l using esnoc_ind with
 | h0 => exact ⟨List.Pairwise.nil, by simp [frK]⟩
 | hs l x ih =>
   rw [frK_snoc]
   obtain ⟨h1, h2⟩ := frX_ok ih.1 x.halves
   refine ⟨h1, fun k => ?_⟩
   rw [h2, ih.2]
   simp only [List.mem_append, List.mem_singleton]
   constructor
   · rintro (⟨y, hy, h⟩ | h)
     · exact ⟨y, .inl hy, h⟩
     · exact ⟨x, .inr rfl, h⟩
   · rintro ⟨y, hy | hy, h⟩
     · exact .inl ⟨y, hy, h⟩
     · subst hy; exact .inr h
theorem right_halves {x : Vtx} (h : x.right = true) {e : Ent} (he : e ∈ x.halves) : 1 ≤ e.key ∧ e.key ≤ 40 := by
 cases ht : x.there with
 | true => have := (right_good h ht).halves e he; omega
 | false => rw [(right_gone h ht).2] at he; simp at he
structure FrAt (w : World) (bf : Nat) (s : List Nat) (wr : World) : Prop where
 map : UMap Tryz.prog 27 .u32 wr bf (s.map sF)
 mod : Mod (fun _ => False) w wr
 lo : w.heap.size ≤ bf
 rise : Rising id s
 num : ∀ k ∈ s, 1 ≤ k ∧ k ≤ 40
theorem FrAt.keep {w wr wx : World} {bf : Nat} {s : List Nat} (h : FrAt w bf s wr) (m : Mod (fun _ => False) wr wx) : FrAt w bf s wx := ⟨h.map.keep m, h.mod.trans m, h.lo, h.rise, h.num⟩
theorem FrAt.short {w wr : World} {bf : Nat} {s : List Nat} (h : FrAt w bf s wr) : s.length ≤ 40 := h.rise.short (b := 1) (m := 41) (fun x hx => by have := h.num x hx; simp only [id]; omega)
theorem FrAt.next {w wr W : World} {bf : Nat} {s : List Nat} (h : FrAt w bf s wr) (m : Mod (fun _ => False) wr W) {k : Nat} (hk : 1 ≤ k ∧ k ≤ 40) :
   ∃ w4, (Instr.mapUpdate 123 (.map (some bf)) (.int .u32 (k : Int)) (.agg #[])).run Tryz.prog W = .ok () w4 ∧ FrAt w bf (layG id k false s) w4 := by
 obtain ⟨w4, e4, U, M⟩ := (h.map.keep m).store Tryz.underlying27 Tryz.underlying123 (by rw [List.length_map]; have := h.short; unfold maxLen; omega) (u32key (k := k) (by omega)) (.agg #[])
 have e := putL_map sF k h.rise
 have e2 : (sF k) = (k, Value.agg #[]) := rfl
 rw [e2] at e
 rw [e] at U
 refine ⟨w4, e4, U, (h.mod.trans m).trans' M (fun i hi e => by have := h.lo; omega), h.lo, Rising.lay h.rise, fun j hj => ?_⟩
 rcases (layG_mem h.rise).1 hj with ⟨h1, _⟩ | ⟨_, h1⟩
 · exact h.num j h1
 · rw [h1]; exact hk
def frR (l : List Vtx) : List Nat := if formL l = true then frK l else []
set_option maxRecDepth 100000 in
set_option maxHeartbeats 4000000 in
theorem frontier_any (l : List Vs) (vl : Value) (w : World) (hl : LRd w vl l) (hn : l.length ≤ 4096) :
   Calls Tryz.prog 20 #[vl] w fun e w' => ∃ v, e = .returned (.tuple #[v, .int .i64 (if formL (l.map Vs.x) = true then 0 else 3)]) ∧ SegN w w' v (frR (l.map Vs.x)) := by
 have HL := Lib.hid hl
 obtain ⟨a, c, rfl, hc1, hc2, -⟩ := hl.row.shape
 have HLA : Hid (Calls Tryz.prog 41 #[.slice a l.length c] w (LaidP l w)) := Lib.hid (laid_any l _ w hl hn)
 obtain ⟨n, hnn⟩ : ∃ n, n = l.length := ⟨_, rfl⟩
 have HN := Lib.hid hnn
 rw [← hnn] at HL hc1 hn HLA ⊢
 unfold LaidP at HLA
 have HFR : Hid (frR (l.map Vs.x) = if formL (l.map Vs.x) = true then frK (l.map Vs.x) else []) := Lib.hid rfl
 have HRI : Hid (formL (l.map Vs.x) = true → ∀ x ∈ l.map Vs.x, x.right = true) := Lib.hid formL_right
 generalize formL (l.map Vs.x) = fb at HLA HFR HRI ⊢
 clear hnn hl
 go_enter Tryz.func20, Tryz.ntmps20
 have hmm := @run_makeMap Tryz.prog
 cases fb with
 | false =>
   go_wp2_with (go_at_call 41; refine HLA.out.mono ?_; (rintro e w1 ⟨p1, rfl, hm1, -⟩); have HM1 := Lib.hid hm1; clear hm1)
   go_ret2
   exact ⟨_, rfl, by rw [HFR.out]; exact ⟨Seg.nil _ _ _, fun b hb => by simp [Value.ownBlock] at hb, HM1.out⟩⟩
 | true =>
   have HRR := Lib.hid (HRI.out rfl)
   go_wp2_with (go_at_call 41; refine HLA.out.mono ?_; (rintro e w1 ⟨p1, rfl, hm1, -⟩); have HM1 := Lib.hid hm1; clear hm1)
   clear hmm HRI
   have HF0 : Hid (FrAt w w1.heap.size [] (w1.alloc (.map #[] 0))) := Lib.hid ⟨UMap.made _ _ _ _, HM1.out.alloc _, HM1.out.size, List.Pairwise.nil, by simp⟩
   generalize w1.heap.size = bf at HF0 ⊢
   go_loopw [21] (fun i wr => ∃ k : Nat, i = .int .i64 (k : Int) ∧ k ≤ n ∧ FrAt w bf (frK ((l.map Vs.x).take k)) wr) (fun i _ => n - (intOf i).toNat)
   case atStart => exact ⟨0, rfl, Nat.zero_le _, by rw [List.take_zero]; exact HF0.out⟩
   case round =>
     obtain ⟨k, rfl, hk, hfr⟩ := hrel
     have HFA := Lib.hid hfr
     clear hfr HF0
     by_cases hkn : k < n
     · obtain ⟨s, hs⟩ : ∃ s, l[k]? = some s := ⟨_, List.getElem?_eq_getElem (by rw [← HN.out]; exact hkn)⟩
       obtain ⟨bl, offl, e0, hbl, r0, r1, r2, r3⟩ := HL.out.ent hs rfl
       have hvr := HL.out.at hs
       have HSR : Hid (s.x.right = true) := Lib.hid (HRR.out _ (List.mem_map_of_mem (List.mem_of_getElem? hs)))
       have HTK : Hid (frK ((l.map Vs.x).take (k + 1)) = frX (frK ((l.map Vs.x).take k)) s.x.halves) := Lib.hid (by
         have hs2 : (l.map Vs.x)[k]? = some s.x := by rw [List.getElem?_map, hs]; rfl
         obtain ⟨h1, h2⟩ := List.getElem?_eq_some_iff.1 hs2
         rw [List.take_succ_eq_append_getElem h1, h2, frK_snoc])
       replace r0 := HFA.out.mod.cell r0
       replace r1 := HFA.out.mod.cell r1
       replace r2 := HFA.out.mod.cell r2
       replace r3 := HFA.out.mod.cell r3
       have zbl : bl < wr.heap.size := Nat.lt_of_lt_of_le hbl HFA.out.mod.size
       have HVR := Lib.hid hvr
       obtain ⟨ap, cp, ep, -⟩ := hvr.props.shape
       obtain ⟨ah, ch, eh, hch, hch2, -⟩ := hvr.halves.shape
       subst e0
       clear hs hbl hvr
       obtain ⟨⟨id, th, ps, hs⟩, vp, vh⟩ := s
       simp only at r0 r1 r2 r3 ep eh HVR HSR HTK hch
       subst ep eh
       obtain ⟨np, hnp⟩ : ∃ n, n = ps.length := ⟨_, rfl⟩
       obtain ⟨nh, hnh⟩ : ∃ n, n = hs.length := ⟨_, rfl⟩
       have HNH := Lib.hid hnh
       rw [← hnp] at r2 HVR
       rw [← hnh] at r3 HVR hch
       have HHV : Hid (RdS w 4 (.slice ah nh ch) nh (cellsOf .u32 hs)) := Lib.hid (by have h := HVR.out.halves; simp only [← hnh] at h; exact h)
       clear hnp hnh
       generalize frK ((l.map Vs.x).take k) = S at HFA HTK
       have HF1 : Hid (FrAt w bf S (wr.alloc (.cells #[.int .u32 (id : Int), .bool th, .slice ap np cp, .slice ah nh ch] 47))) := Lib.hid (HFA.out.keep ((Mod.refl _ _).alloc _))
       obtain ⟨wo, rfl⟩ : ∃ wo : World, wo = wr := ⟨_, rfl⟩
       go_wp2_with fail
       clear r0 r1 r2 r3 zbl
       go_loopw [28] (fun i wr => ∃ j : Nat, i = .int .i64 (j : Int) ∧ j ≤ nh ∧ FrAt w bf (frX S (hs.take j)) wr) (fun i _ => nh - (intOf i).toNat)
       case atStart => exact ⟨0, rfl, Nat.zero_le _, by rw [List.take_zero]; exact HF1.out⟩
       case round =>
         obtain ⟨j, rfl, hj, hfr⟩ := hrel
         have HFB := Lib.hid hfr
         clear hfr HF1
         by_cases hjn : j < nh
         · obtain ⟨x, hx⟩ : ∃ x, hs[j]? = some x := ⟨_, List.getElem?_eq_getElem (by rw [← HNH.out]; exact hjn)⟩
           obtain ⟨b, off, e1, hb, p0, p1, p2, p3⟩ := HHV.out.ent hx rfl
           replace p0 := HFB.out.mod.cell p0
           replace p1 := HFB.out.mod.cell p1
           replace p2 := HFB.out.mod.cell p2
           replace p3 := HFB.out.mod.cell p3
           have zc : b < wr.heap.size := Nat.lt_of_lt_of_le hb HFB.out.mod.size
           have HTJ : Hid (frX S (hs.take (j + 1)) = layG _root_.id x.key false (frX S (hs.take j))) := Lib.hid (by
             obtain ⟨h1, h2⟩ := List.getElem?_eq_some_iff.1 hx
             rw [List.take_succ_eq_append_getElem h1, h2, frX_snoc])
           have hkx := right_halves HSR.out (List.mem_of_getElem? hx)
           obtain ⟨w4, e4, hf4⟩ := HFB.out.next ((Mod.refl _ wr).alloc (.cells #[.int .u32 (x.key : Int), .int .u8 (x.val.k : Int), .int .i64 x.val.n, .string x.val.s] 109)) hkx
           have HF4 := Lib.hid hf4
           subst e1
           clear hx hb hkx hf4
           obtain ⟨key, vk, vn, vs⟩ := x
           simp only at p0 p1 p2 p3 e4 HTJ HF4
           go_wp2
           go_roundw
           case rel => exact ⟨j + 1, by go_num, by omega, by rw [HTJ.out]; exact HF4.out⟩
           case measure => simp [intOf]; omega
         · have HTA : Hid (hs.take j = hs) := Lib.hid (List.take_of_length_le (by have := HNH.out; omega))
           rw [HTA.out] at HFB
           go_wp2
           go_roundw
           case rel => exact ⟨k + 1, by go_num, by omega, by rw [HTK.out]; exact HFB.out⟩
           case measure => simp [intOf]; omega
     · have HTA : Hid ((l.map Vs.x).take k = l.map Vs.x) := Lib.hid (List.take_of_length_le (by rw [List.length_map]; have := HN.out; omega))
       rw [HTA.out] at HFA
       generalize frK (l.map Vs.x) = S at HFA HFR
       have HK : Hid (Calls Tryz.prog 36 #[.func (.func 79) #[] #[.pointer (some ⟨wr.heap.size, 0, none⟩)]] (wr.alloc (.cells #[.map (some bf)] 123)) fun e w' => ∃ v, e = .returned v ∧ SegN wr w' v S) := Lib.hid (by
         have h := sortedKeysSt bf (S.map sF) wr HFA.out.map (by rw [List.length_map]; have := HFA.out.short; omega)
         have e : (S.map sF).map (·.1) = S := by simp [sF, Function.comp_def]
         rw [e] at h
         exact h)
       go_wp2_with (first
         | (go_at_call 51; refine (keysSt (some bf) _).mono ?_; (rintro e w3 ⟨rfl, rfl⟩))
         | (go_at_call 36; refine HK.out.mono ?_; (rintro e w4 ⟨kv, rfl, hs⟩); have HS := Lib.hid hs; clear hs))
       go_ret2
       exact ⟨_, rfl, by rw [HFR.out]; exact ⟨HS.out.seg, fun b hb => Nat.le_trans HFA.out.mod.size (HS.out.own b hb), HFA.out.mod.trans HS.out.mod⟩⟩
open Go.RowKit
set_option maxRecDepth 100000 in
set_option maxHeartbeats 2000000 in
theorem twins18_any (v : Value) (xl : List Vs) (w : World) (hv : LRd w v xl) (hn : xl.length ≤ 1000) (hz : ∀ x ∈ xl, Slim x.x) :
   Calls Tryz.prog 18 #[v] w fun e w' => ∃ vo l', e = .returned vo ∧ Mod (fun _ => False) w w' ∧ LOwn w' vo l' ∧ l'.map Vs.x = xl.map Vs.x := by
 have HL := Lib.hid hv
 have HZX := Lib.hid hz
 obtain ⟨al, cl, rfl, hcl1, hcl2, -⟩ := hv.row.shape
 clear hv hz
 obtain ⟨m, hl⟩ : ∃ n, n = xl.length := ⟨_, rfl⟩
 have HML := Lib.hid hl
 rw [← hl] at HL hcl1 hn ⊢
 clear hl
 obtain ⟨i0, hi, hz0, hz1, hz2⟩ := info_parts infoVtx
 have HI : Hid (Tryz.prog.info? 47 = some i0 ∧ i0.zero = some (.agg #[.int .u32 0, .bool false, .slice none 0 0, .slice none 0 0]) ∧ i0.size = 4 ∧ i0.bytes = 56) := ⟨hi, hz0, hz1, hz2⟩
 clear hi hz0 hz1 hz2
 have HS : Hid (TwIn w (.slice none 0 0) [] (.slice none 0 0) [] w) := Lib.hid (TwOut.start ⟨Mod.refl _ _, LLOwn.nil _, fun b hb => by simp [Value.ownBlock] at hb⟩)
 go_enter Tryz.func18, Tryz.ntmps18
 go_wp2
 go_loopw [8, 3] (fun i o wr => ∃ (j : Nat) (l' : List Vs), i = .int .i64 j ∧ j ≤ m ∧ TwIn w (.slice none 0 0) [] o l' wr ∧ l'.map Vs.x = (xl.take j).map Vs.x ∧ l'.length = j) (fun i _ _ => m - (intOf i).toNat)
 case atStart => exact ⟨0, [], rfl, Nat.zero_le _, HS.out, rfl, rfl⟩
 case round =>
   obtain ⟨j, l', rfl, hj, hm, hd, hlj⟩ := hrel
   have HI2 := Lib.hid hm
   have HD2 := Lib.hid hd
   have HLJ := Lib.hid hlj
   clear hm hd hlj HS
   obtain ⟨am, cm, nm, hvv⟩ : ∃ ao co no, u3 = .slice ao no co := by
     obtain ⟨a, c, e, _⟩ := HI2.out.mine.row.shape
     exact ⟨_, _, _, e⟩
   subst hvv
   by_cases hjm : j < m
   · obtain ⟨y, hy⟩ : ∃ y, xl[j]? = some y := ⟨_, List.getElem?_eq_getElem (by rw [← HML.out]; exact hjm)⟩
     obtain ⟨bl, offl, rfl, hbl, r0, r1, r2, r3⟩ := HL.out.ent hy rfl
     have r0 := HI2.out.mod.cell r0
     have r1 := HI2.out.mod.cell r1
     have r2 := HI2.out.mod.cell r2
     have r3 := HI2.out.mod.cell r3
     have zbl : bl < wr.heap.size := Nat.lt_of_lt_of_le hbl HI2.out.mod.size
     have HVR := Lib.hid (HL.out.at hy)
     have HTX : Hid ((xl.take (j + 1)).map Vs.x = (xl.take j).map Vs.x ++ [y.x]) := Lib.hid (take_map_succ _ hy)
     have hzy := HZX.out y (List.mem_of_getElem? hy)
     have HTW : Hid (∀ w', Mod (fun _ => False) wr w' → Calls Tryz.prog 26 #[vtxV y.x y.vp y.vh] w' (Twins w' y.x)) := Lib.hid (fun w' mm => twinV_any y.x y.vp y.vh w' (HVR.out.keep (HI2.out.mod.trans mm)) hzy.1 hzy.2)
     clear hy hzy
     obtain ⟨⟨id, there, xs, ys⟩, vp, vh⟩ := y
     obtain ⟨np, ap, cp, rfl⟩ : ∃ np ap cp, vp = .slice ap np cp := by
       obtain ⟨a, c, e, _⟩ := HVR.out.props.shape
       exact ⟨_, _, _, e⟩
     obtain ⟨nh, ah, ch, rfl⟩ : ∃ np ap cp, vh = .slice ap np cp := by
       obtain ⟨a, c, e, _⟩ := HVR.out.halves.shape
       exact ⟨_, _, _, e⟩
     simp only at r0 r1 r2 r3 HTX
     simp only [vtxV] at HTW
     clear HVR
     have HTW1 := Lib.hid (HTW.out _ ((Mod.refl (fun _ => False) wr).alloc (.cells #[.int .u32 (id : Int), .bool there, .slice ap np cp, .slice ah nh ch] 47)))
     have HI3 := Lib.hid (HI2.out.more ((Mod.refl (fun _ => False) wr).alloc (.cells #[.int .u32 (id : Int), .bool there, .slice ap np cp, .slice ah nh ch] 47)))
     have HOM := Lib.hid HI2.out.mine.row.lt
     have HOO := Lib.hid HI2.out.out.row.lt
     clear HTW HI2
     go_wp2_with (first
       | (go_at_call 26; refine HTW1.out.mono ?_; rintro e w5 ⟨vp5, vh5, rfl, hm5, hn5⟩; have HI5 := Lib.hid (HI3.out.more hm5); have HN5 := Lib.hid hn5; have HZ5 := Lib.hid hm5.size; (obtain ⟨a5, c5, n5, rfl⟩ : ∃ a c n, vp5 = .slice a n c := (by obtain ⟨a, c, e, _⟩ := hn5.props.shape; exact ⟨_, _, _, e⟩)); (obtain ⟨a6, c6, n6, rfl⟩ : ∃ a c n, vh5 = .slice a n c := (by obtain ⟨a, c, e, _⟩ := hn5.halves.shape; exact ⟨_, _, _, e⟩)); clear hm5 hn5;
          have HI6 := Lib.hid (HI5.out.more ((Mod.refl (fun _ => False) w5).alloc (.cells #[.int .u32 (id : Int), .bool there, .slice a5 n5 c5, .slice a6 n6 c6] 47)));
          have HV6 := Lib.hid (HN5.out.vown.mod ((Mod.refl (fun _ => False) w5).alloc (.cells #[.int .u32 (id : Int), .bool there, .slice a5 n5 c5, .slice a6 n6 c6] 47)) ⟨fun _ _ f => f, fun _ _ f => f⟩);
          have HSR := Lib.hid (src_cells (w := w5) rfl (size := 4) 47 #[.int .u32 (id : Int), .bool there, .slice a5 n5 c5, .slice a6 n6 c6] rfl (by simp [Value.oneCell'])))
       | (at_builtin; refine wpList_append_seg rfl (.tmp 12) (.tmp 15) 41 rfl i0 _ 4 56 Tryz.underlying41 HI.out.1 HI.out.2.1 HI.out.2.2.1 HI.out.2.2.2 rfl (by decide) rfl HI6.out.mine.row _ 1 _ rfl HSR.out (by have := HLJ.out; unfold maxLen; omega) (by have := HLJ.out; omega) ?_; intro v3 w3 hs3 hg3 ho3;
          have H3 := Lib.hid (HI6.out.app ⟨⟨id, there, xs, ys⟩, .slice a5 n5 c5, .slice a6 n6 c6⟩ (wc := wr.alloc (.cells #[.int .u32 (id : Int), .bool there, .slice ap np cp, .slice ah nh ch] 47)) (Nat.le_trans HZ5.out (by simp)) (fun b hb => by have := HOM.out b hb; simp; omega) (fun b hb => by have := HOO.out b hb; simp; omega) HV6.out HN5.out.newp HN5.out.newh hs3 hg3 ho3); (obtain ⟨a3, c3, n3, rfl⟩ : ∃ a c n, v3 = .slice a n c := (by obtain ⟨a, c, e, _⟩ := hs3.shape; exact ⟨_, _, _, e⟩)); clear hs3 hg3 ho3))
     go_roundw
     case rel => exact ⟨j + 1, _, by go_num, by omega, H3.out, by rw [List.map_append, HTX.out, HD2.out]; rfl, by rw [List.length_append, HLJ.out]; rfl⟩
     case measure => simp [intOf]; omega
   · have HEQ : Hid (l'.map Vs.x = xl.map Vs.x) := Lib.hid (by rw [HD2.out, List.take_of_length_le (by have := HML.out; omega)])
     go_wp2
     go_ret
     exact ⟨_, _, rfl, HI2.out.mod, HI2.out.mine, HEQ.out⟩
set_option maxRecDepth 100000 in
set_option maxHeartbeats 2000000 in
theorem isin18_any (l : List Nat) (y : Nat) (vl : Value) (w : World) (hl : RdS w 1 vl l.length (l.map (keyV .u32))) :
   Calls Tryz.prog 25 #[vl, .int .u32 (y : Int)] w fun e w' => e = .returned (.bool (l.any fun x => x == y)) ∧ Mod (fun _ => False) w w' := by
 have HL := Lib.hid hl
 obtain ⟨a, c, rfl, hc1, hc2, -⟩ := hl.shape
 obtain ⟨n, hn⟩ : ∃ n, n = l.length := ⟨_, rfl⟩
 have HN := Lib.hid hn
 rw [← hn] at HL hc1 ⊢
 clear hl hn
 go_enter Tryz.func25, Tryz.ntmps25
 go_wp2
 go_loopw [9] (fun i wr => ∃ j : Nat, i = .int .i64 (j : Int) ∧ j ≤ n ∧ ((l.take j).any fun x => x == y) = false ∧ Mod (fun _ => False) w wr) (fun i _ => n - (intOf i).toNat)
 case atStart => exact ⟨0, rfl, Nat.zero_le _, by simp, Mod.refl _ _⟩
 case round =>
   obtain ⟨j, rfl, hj, hall, hm⟩ := hrel
   have HALL := Lib.hid hall
   have HM := Lib.hid hm
   clear hall hm
   by_cases hjn : j < n
   · obtain ⟨x, hx⟩ : ∃ x, l[j]? = some x := ⟨_, List.getElem?_eq_getElem (by rw [← HN.out]; exact hjn)⟩
     obtain ⟨bk, offk, ek, hbk, hck⟩ := HL.out.cell _ _ rfl j (.int .u32 (x : Int)) (by rw [List.getElem?_map, hx]; rfl)
     subst ek
     have hck := HM.out.cell hck
     have zb : bk < wr.heap.size := Nat.lt_of_lt_of_le hbk HM.out.size
     have HTK : Hid (l.take (j + 1) = l.take j ++ [x]) := Lib.hid (by
       obtain ⟨h1, h2⟩ := List.getElem?_eq_some_iff.1 hx
       rw [List.take_succ_eq_append_getElem h1, h2])
     have HMEM := Lib.hid (List.mem_of_getElem? hx)
     clear hx hbk
     by_cases hxy : x = y
     · have HR : Hid ((l.any fun x => x == y) = true) := Lib.hid (by rw [List.any_eq_true]; exact ⟨x, HMEM.out, by simp [hxy]⟩)
       subst hxy
       go_wp2
       go_ret
       exact ⟨ret_bool HR.out.symm, HM.out⟩
     · have hxi : ((x : Int) == (y : Int)) = false := by simp; omega
       have HF : Hid (((l.take (j + 1)).any fun x => x == y) = false) := Lib.hid (by rw [HTK.out, List.any_append, HALL.out]; simp [hxy])
       clear hxy
       go_wp2
       go_roundw
       case rel => exact ⟨j + 1, by go_num, by omega, HF.out, HM.out⟩
       case measure => simp [intOf]; omega
   · have HR : Hid ((l.any fun x => x == y) = false) := Lib.hid (by
       have h := HALL.out
       rwa [List.take_of_length_le (by have := HN.out; omega)] at h)
     go_wp2
     go_ret
     exact ⟨ret_bool HR.out.symm, HM.out⟩
open Go.RowKit Go.Maps
open Go.ChangeShapes Go.WideShapes Go.ChangeAt in
section
variable {H : Type} {enc : TypeId × Value → H} {W : World} {base : Nat} {v : Value} {d : DataW H} {p : List MemPlace}
def InVs (W : World) (v : Value) : Prop := ∃ l, LRd W v l ∧ ∀ s ∈ l, Slim s.x
set_option maxRecDepth 100000 in
theorem in_vs (hv : Value.okWide Tryz.prog W .any base 41 v) (h : DataW.Trod enc Tryz.prog W 0 (fun _ => true) true 41 v d p) (hs : okW 41 d) : InVs W v := by
 obtain ⟨a0, len0, cap0, rfl⟩ := okWide_slice Tryz.underlying41 hv
 obtain ⟨fuel, hf⟩ := h
 obtain ⟨s, e, rl, g⟩ := in_list fuel [.slice a0 len0 cap0] (d, p) rfl (by simpa [Value.cells] using hf) hs
 simp only [List.cons.injEq, and_true] at e
 exact ⟨s.l, e ▸ rl, g⟩
end
end Go.Proofs.YtlpdifinkcjckaaGreatDoor
