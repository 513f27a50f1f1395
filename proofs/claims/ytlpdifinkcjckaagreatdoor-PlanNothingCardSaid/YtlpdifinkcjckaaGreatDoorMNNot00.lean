import Derived.Test.YtlpdifinkcjckaaGreatDoorMNFro01
import Derived.Test.YtlpdifinkcjckaaGreatDoorMNWan04
set_option linter.unusedVariables false
set_option linter.unusedSimpArgs false
namespace Go.Proofs.YtlpdifinkcjckaaGreatDoor
open Go.RowKit Go.Maps
def isRead (o : Opr) : Bool := o.kind == 4 || (o.kind == 7 || (o.kind == 8 || o.kind == 9))
theorem isRead_kind {o : Opr} (h : isRead o = true) : o.kind = 4 ∨ o.kind = 7 ∨ o.kind = 8 ∨ o.kind = 9 := by simpa [isRead] using h
theorem modeO_read {o : Opr} (h : isRead o = true) (v : Nat) : modeO o v ≤ 1 := by
 have hk := isRead_kind h
 unfold modeO
 rw [if_neg (fun e => by omega), if_neg (fun e => by omega)]
 split <;> omega
theorem modeL_read {l : List Opr} (h : ∀ o ∈ l, isRead o = true) (v : Nat) : modeL l v ≤ 1 := by
 induction l using esnoc_ind with
 | h0 => simp [modeL]
 | hs l o ih =>
   rw [modeL_snoc]
   have h1 := ih (fun p hp => h p (by simp [hp]))
   have h2 := modeO_read (h o (by simp)) v
   omega
theorem wantsP_read {l : List Opr} (h : ∀ o ∈ l, isRead o = true) (hc : checkR (txq l) = 0) : ∀ x ∈ wantsP l, x.2 = 1 := fun x hx => by
 obtain ⟨-, -, h3, h4⟩ := wants_mem (ops := l) (checkR_tx hc rfl).1 hx
 have h2 := modeL_read h x.1
 rw [← h3] at h2
 rcases h4 with h4 | h4
 · exact h4
 · rw [h4] at h2; exact absurd h2 (by decide)
theorem wantsR_read {l : List Opr} (h : ∀ o ∈ l, isRead o = true) : ∀ x ∈ wantsR l, x.2 = 1 := fun x hx => by
 unfold wantsR at hx
 split at hx
 · rename_i hc; exact wantsP_read h hc x hx
 · cases hx
theorem planOut_read {l : List Vtx} {ops : List Opr} (h : ∀ o ∈ ops, isRead o = true) (hc : checkR (txq ops) = 0) : planOut l ops = [] := by
 unfold planOut
 split
 · unfold changedG
   rw [List.map_eq_nil_iff, List.filter_eq_nil_iff]
   intro x hx
   have := wantsP_read h hc x hx
   simp [this]
 · rfl
theorem planE_read {l : List Vtx} {ops : List Opr} (hc : checkR (txq ops) = 0) : planE l ops = 0 ∨ planE l ops = 3 := by
 unfold planE
 split
 · exact .inr rfl
 · exact .inl hc
def gsum (ws : List Wt) (os : List Nat) : Nat → Nat
 | 0 => 0
 | j + 1 => gsum ws os j + (grpL ws os j).length
theorem gsum_le (ws : List Wt) (os : List Nat) (j : Nat) : gsum ws os j ≤ j * ws.length := by
 induction j with
 | zero => simp [gsum]
 | succ j ih => have := grpL_len ws os j; rw [gsum, Nat.add_mul]; omega
theorem gsum_four : ∀ (ps : List (Wt × Nat)), (∀ p ∈ ps, p.2 < 4) → ((ps.filter fun p => p.2 == 0).map Prod.fst).length + ((ps.filter fun p => p.2 == 1).map Prod.fst).length + ((ps.filter fun p => p.2 == 2).map Prod.fst).length + ((ps.filter fun p => p.2 == 3).map Prod.fst).length = ps.length
 | [], _ => rfl
 | p :: r, h => by
   have ih := gsum_four r (fun q hq => h q (by simp [hq]))
   have h1 := h p (by simp)
   have h2 : p.2 = 0 ∨ p.2 = 1 ∨ p.2 = 2 ∨ p.2 = 3 := by omega
   simp only [List.length_map] at ih ⊢
   rcases h2 with e | e | e | e <;> simp [e] <;> omega
theorem gsum_all {ws : List Wt} {os : List Nat} (h : ∀ o ∈ os, o < 4) (hl : os.length = ws.length) : gsum ws os 4 = ws.length := by
 have h1 := gsum_four (ws.zip os) (fun p hp => h p.2 (List.of_mem_zip hp).2)
 rw [List.length_zip] at h1
 simp only [gsum, grpL]
 omega
structure OSegE (w w' : World) (v : Value) (l : List Opr) : Prop where
 seg : Seg w' 82 7 v l.length (ocells l)
 own : ∀ b, v.ownBlock = some b → w.heap.size ≤ b
 mod : Mod (fun _ => False) w w'
 fits : ∀ o ∈ l, o.Fits
theorem OSegE.rd {w w' : World} {v : Value} {l : List Opr} (h : OSegE w w' v l) : ORd w' v l := ⟨h.seg.rdS, h.fits⟩
theorem OSegE.keep {w w' wx : World} {v : Value} {l : List Opr} (h : OSegE w w' v l) (m : Mod (fun _ => False) w' wx) : OSegE w wx v l := ⟨h.seg.mod m (fun _ _ f => f), h.own, h.mod.trans m, h.fits⟩
theorem OSegE.next {w wr w5 w3 : World} {v v3 : Value} {l : List Opr} {x : Opr} (h : OSegE w wr v l) (m : Mod (fun _ => False) wr w5) (hx : x.Fits) {k : Nat} (hk : k = l.length) (hs : Seg w3 82 7 v3 (k + 1) (ocells l ++ x.cells)) (hg : w5.grownBy w3 v.ownBlock) (ho : v3.ownBlock = v.ownBlock ∨ v3.ownBlock = some w5.heap.size) : OSegE w w3 v3 (l ++ [x]) := by
 subst hk
 refine ⟨by rw [List.length_append]; simpa [ocells] using hs, fun b hb => ?_, (h.mod.trans m).grown hg (fun b hb hlt => by have := h.own b hb; omega), fun y hy => ?_⟩
 · rcases ho with e | e
   · exact h.own b (e ▸ hb)
   · rw [e] at hb; injection hb with hb
     have := (h.mod.trans m).size; omega
 · rcases List.mem_append.1 hy with hy | hy
   · exact h.fits y hy
   · rw [List.mem_singleton] at hy; rw [hy]; exact hx
theorem made8 {w : World} {g n : Nat} (hm : n ≤ maxLen) (h : w.ownsRow 0 5 1 (.slice (some ⟨g, 0, none⟩) n n) n (madeCells (Value.int .u8 0).cells (n * 1)).toList) : w.heap[g]? = some (.cells ((List.replicate n 0).map (keyV .u8)).toArray 5 (0, 0)) := by
 rcases h.2 with ⟨e, _⟩ | ⟨g', cap, cur, e, _, hg, h1, h2, h3, h4⟩
 · cases e
 · injection e with e1 e2 e3
   injection e1 with e1
   injection e1 with e1 _ _
   subst e1 e3
   rw [hg]
   congr 2
   apply Array.ext'
   rw [List.take_of_length_le (by simp [h3])] at h4
   rw [h4]
   apply List.ext_getElem
   · simp [size_madeCells]
   · intro i h5 h6
     simp [madeCells, Value.cells, keyV, Nat.mod_one]
theorem row8 {w : World} {g n : Nat} {ys : List Nat} (hn : ys.length = n) (hm : n ≤ maxLen) (h : w.heap[g]? = some (.cells (ys.map (keyV .u8)).toArray 5 (0, 0))) : Seg w 5 1 (.slice (some ⟨g, 0, none⟩) n n) n (ys.map (keyV .u8)) :=
 ⟨by simp [hn], fun u hu => by obtain ⟨x, _, rfl⟩ := List.mem_map.1 hu; rfl, .inr ⟨g, 0, n, _, rfl, h, Nat.le_refl _, hm, by simp [hn], by simp [hn, List.take_of_length_le]⟩⟩
set_option maxRecDepth 100000 in
set_option maxHeartbeats 8000000 in
theorem pnothing_main (va vb vc : Value) (la : List Vs) (lb : List Opr) (lc : List Nat) (w : World) (ha : LRd w va la) (za : ∀ s ∈ la, Slim s.x) (hb : ORd w vb lb) (zb : lb.length * 48 ≤ 140737488355328) (hc : RdS w 1 vc lc.length (lc.map (keyV .u8))) (zc : ∀ x ∈ lc, x < 256) (hg : ErrT w) :
   Calls Tryz.prog 7 #[va, vb, vc] w fun e w' => e = .returned (.bool true) ∧ Mod (fun _ => False) w w' := by
 have HAW := Lib.hid (pawake_any w hg)
 obtain ⟨aa, ca, rfl, hca, hca2, -⟩ := ha.row.shape
 obtain ⟨ab, cb, rfl, hcb, hcb2, -⟩ := hb.row.shape
 obtain ⟨ac, cc, rfl, hcc, hcc2, -⟩ := hc.shape
 obtain ⟨na, hna⟩ : ∃ n, n = la.length := ⟨_, rfl⟩
 obtain ⟨n, hnb⟩ : ∃ n, n = lb.length := ⟨_, rfl⟩
 obtain ⟨m, hnc⟩ : ∃ n, n = lc.length := ⟨_, rfl⟩
 obtain ⟨q, hq, hqn, hq15⟩ : ∃ q : Nat, min (na : Int) 15 = (q : Int) ∧ q ≤ na ∧ q ≤ 15 := ⟨min na 15, by omega, by omega, by omega⟩
 rw [← hna] at ha hca ⊢
 rw [← hnb] at zb hcb ⊢
 rw [← hnc] at hc hcc ⊢
 have HA := Lib.hid (ha.less hna hqn)
 have HZA : Hid (∀ s ∈ la.take q, Slim s.x) := Lib.hid (fun s hs => za s (List.mem_of_mem_take hs))
 have HNA : Hid (q = (la.take q).length) := Lib.hid (by rw [List.length_take, ← hna]; omega)
 generalize la.take q = l at *
 have HB := Lib.hid hb
 have HC := Lib.hid hc
 have HZC := Lib.hid zc
 have HNB := Lib.hid hnb
 have HNC := Lib.hid hnc
 have HZB := Lib.hid zb
 obtain ⟨rd, hrd⟩ : ∃ r, r = lb.filter isRead := ⟨_, rfl⟩
 have HRD := Lib.hid hrd
 have hre : ∀ o ∈ rd, isRead o = true := fun o ho => by rw [hrd] at ho; exact (List.mem_filter.1 ho).2
 obtain ⟨nr, hnr⟩ : ∃ n, n = rd.length := ⟨_, rfl⟩
 have hnrn : nr ≤ n := by rw [hnr, hrd, hnb]; exact List.length_filter_le _ _
 have HNR := Lib.hid hnr
 have HNRN := Lib.hid hnrn
 have HOP : Hid (∀ v w', ORd w' v rd → Calls Tryz.prog 13 #[v] w' fun e w'' => ∃ a c, e = .returned (.slice a nr c) ∧ Mod (fun _ => False) w' w'' ∧ ORd w'' (.slice a nr c) rd) := Lib.hid (fun v w' h => by
   rw [hnr]
   exact ops18_any rd v w' h (by rw [← hnr]; omega))
 have HPW : Hid (∀ v w', ORd w' v rd → Calls Tryz.prog 12 #[v] w' fun e w'' => ∃ a n c, e = .returned (.tuple #[.slice a n c, .int .i64 (checkR (txq rd) : Nat)]) ∧ WSeg w' w'' (.slice a n c) (wantsR rd)) := Lib.hid (fun v w' h => (wants_any rd v w' h).mono (by
   rintro e w'' ⟨v, rfl, h⟩
   obtain ⟨a, c, rfl, -⟩ := h.seg.shape
   exact ⟨a, _, c, rfl, h⟩))
 have HTW : Hid (∀ w', Mod (fun _ => False) w w' → Calls Tryz.prog 18 #[.slice aa q ca] w' fun e w'' => ∃ a n c l', e = .returned (.slice a n c) ∧ Mod (fun _ => False) w' w'' ∧ LRd w'' (.slice a n c) l' ∧ l'.map Vs.x = l.map Vs.x ∧ l'.length ≤ 4096) := Lib.hid (fun w' m => (twins18_any _ l w' (HA.out.keep m) (by have := HNA.out; omega) HZA.out).mono (by
   rintro e w'' ⟨vo, l', rfl, h1, h2, h3⟩
   obtain ⟨a, c, e, -⟩ := h2.row.shape
   have h4 := congrArg List.length h3
   simp only [List.length_map] at h4
   exact ⟨a, _, c, l', by rw [e], h1, by rw [← e]; exact h2.rd, h3, by have := HNA.out; omega⟩))
 have HRN : Hid (checkR (txq rd) = 0 → ∃ pf : Nat, (pf = 0 ∨ pf = 3) ∧ ∀ v u l' w', Mod (fun _ => False) w w' → LRd w' v l' → l'.length ≤ 4096 → l'.map Vs.x = l.map Vs.x → ORd w' u rd → Calls Tryz.prog 15 #[v, u] w' fun e w'' => ∃ e0 e1 av nv cv al nl cl ag cg, e = .returned (.tuple #[.agg #[.int .i64 e0, .int .i64 e1, .slice av nv cv, .slice al nl cl], .slice ag 0 cg, .int .i64 (pf : Int)]) ∧ Mod (fun _ => False) w' w'') := Lib.hid (fun hck => by
   refine ⟨planE (l.map Vs.x) rd, planE_read hck, fun v u l' w' m h1 h2 h3 h4 => (prun_any l' v rd u w' h1 h2 h4 (hg.keep m (fun f => f))).mono ?_⟩
   rw [h3]
   rintro e w'' ⟨hm, hne, heq⟩
   by_cases hz : planE (l.map Vs.x) rd = 0
   · obtain ⟨vv, vl, vc, cs, e1, h5, h6, h7, h8⟩ := heq hz
     rw [planOut_read hre hck, List.map_eq_nil_iff] at h8
     subst h8
     obtain ⟨av, cv, rfl, -⟩ := h5.shape
     obtain ⟨al, cl, rfl, -⟩ := h6.shape
     obtain ⟨ag, cg, rfl, -⟩ := h7.row.shape
     exact ⟨_, _, av, _, cv, al, _, cl, ag, cg, by rw [e1, hz]; rfl, hm⟩
   · exact ⟨0, 0, none, 0, 0, none, 0, 0, none, 0, hne hz, hm⟩)
 have HW1 : Hid (∀ x ∈ wantsR rd, x.2 = 1) := Lib.hid (wantsR_read hre)
 have HWL : Hid ((wantsR rd).length ≤ 40 ∧ ∀ x ∈ wantsR rd, x.1 < 4294967296 ∧ x.2 < 256) := Lib.hid (by
   unfold wantsR
   split
   · rename_i h
     have h2 := (checkR_tx h rfl).1
     exact ⟨wants_short h2, wantsP_fits h2⟩
   · exact ⟨by simp, by simp⟩)
 have HW0 : Hid (checkR (txq rd) ≠ 0 → wantsR rd = []) := Lib.hid (fun h => by unfold wantsR; rw [if_neg h])
 obtain ⟨ck, hck⟩ : ∃ k, k = checkR (txq rd) := ⟨_, rfl⟩
 rw [← hck] at HPW HRN HW0
 obtain ⟨ws, hws⟩ : ∃ l, l = wantsR rd := ⟨_, rfl⟩
 rw [← hws] at HPW HW1 HWL HW0
 obtain ⟨nw, hnw⟩ : ∃ n, n = ws.length := ⟨_, rfl⟩
 have HNW := Lib.hid hnw
 have hnw40 : nw ≤ 40 := by have := HWL.out.1; omega
 have HGR : Hid (∀ (os : List Nat) wv ov w', WRd w' wv ws → os.length = nw → (∀ o ∈ os, o < 4) → RdS w' 1 ov nw (os.map (keyV .u8)) → Calls Tryz.prog 30 #[wv, ov] w' fun e w'' => Mod (fun _ => False) w' w'' ∧ ∃ b v0 v1 v2 v3, e = .returned (.tuple #[.slice (some ⟨b, 0, none⟩) 4 4, .int .i64 0]) ∧ w''.heap[b]? = some (.cells #[v0, v1, v2, v3] 37 (0, 0)) ∧ WRd w'' v0 (grpL ws os 0) ∧ WRd w'' v1 (grpL ws os 1) ∧ WRd w'' v2 (grpL ws os 2) ∧ WRd w'' v3 (grpL ws os 3)) := Lib.hid (fun os wv ov w' h1 h2 h3 h4 => (groups_any ws os wv ov w' h1 (by rw [h2]; exact h4) (by have := HWL.out.1; omega)).mono (fun e w'' h => ⟨h.1, h.2.2.2 h3 (by rw [h2, hnw])⟩))
 obtain ⟨i0, hi, hz0, hz1, hz2⟩ := info_parts infoOp
 have HI : Hid (Tryz.prog.info? 82 = some i0 ∧ _ ∧ i0.size = 7 ∧ i0.bytes = 48) := ⟨hi, hz0, hz1, hz2⟩
 obtain ⟨i8, hi8, hz80, hz81, hz82⟩ := info_parts infoB
 have HI8 : Hid (Tryz.prog.info? 5 = some i8 ∧ i8.zero = some (.int .u8 0) ∧ i8.size = 1 ∧ i8.bytes = 1) := ⟨hi8, hz80, hz81, hz82⟩
 clear hi hz0 hz1 hz2 hi8 hz80 hz81 hz82 hna hnb hnc ha hb hc za zb zc hg hrd hre hnr hck hws hnw
 go_enter Tryz.func7, Tryz.ntmps7
 go_wp2_with (go_at_call 8; refine HAW.out.mono ?_; (rintro e w1 ⟨rfl, hm1⟩); have HM1 := Lib.hid hm1; clear hm1)
 go_loopw [28, 7] (fun i u wr => ∃ k : Nat, i = .int .i64 (k : Int) ∧ k ≤ n ∧ OSegE w wr u ((lb.take k).filter isRead)) (fun i _ _ => n - (intOf i).toNat)
 case atStart => exact ⟨0, rfl, Nat.zero_le _, ⟨Seg.nil _ _ _, fun b hb => by simp [Value.ownBlock] at hb, HM1.out, by simp⟩⟩
 case round =>
   obtain ⟨k, rfl, hk, hos⟩ := hrel
   have HOS := Lib.hid hos
   obtain ⟨nu, hnu⟩ : ∃ n, n = ((lb.take k).filter isRead).length := ⟨_, rfl⟩
   have HNU := Lib.hid hnu
   have HNUK : Hid (nu ≤ k) := Lib.hid (by rw [hnu]; exact Nat.le_trans (List.length_filter_le _ _) (by rw [List.length_take]; omega))
   obtain ⟨av, cv, hvv, -⟩ := hos.seg.shape
   rw [← hnu] at hvv
   subst hvv
   clear hos hnu
   by_cases hkn : k < n
   · obtain ⟨x, hx⟩ : ∃ x, lb[k]? = some x := ⟨_, List.getElem?_eq_getElem (by rw [← HNB.out]; exact hkn)⟩
     obtain ⟨bl, offl, e0, hbl, r0, r1, r2, r3, r4, r5, r6⟩ := HB.out.ent hx rfl
     have HTK : Hid ((lb.take (k + 1)).filter isRead = (lb.take k).filter isRead ++ (if isRead x = true then [x] else [])) := Lib.hid (by
       obtain ⟨h1, h2⟩ := List.getElem?_eq_some_iff.1 hx
       rw [List.take_succ_eq_append_getElem h1, h2, List.filter_append]
       by_cases e : isRead x = true <;> simp [e])
     have HFX := Lib.hid (HB.out.fits x (List.mem_of_getElem? hx))
     replace r0 := HOS.out.mod.cell r0
     replace r1 := HOS.out.mod.cell r1
     replace r2 := HOS.out.mod.cell r2
     replace r3 := HOS.out.mod.cell r3
     replace r4 := HOS.out.mod.cell r4
     replace r5 := HOS.out.mod.cell r5
     replace r6 := HOS.out.mod.cell r6
     have zbl : bl < wr.heap.size := Nat.lt_of_lt_of_le hbl HOS.out.mod.size
     subst e0
     clear hx hbl
     obtain ⟨kind, oa, ob, okey, ⟨vk, vn, vs⟩⟩ := x
     simp only at r0 r1 r2 r3 r4 r5 r6
     generalize (lb.take k).filter isRead = L at HOS HTK HNU
     by_cases h4 : kind = 4
     · skip
       subst h4
       replace r0 : wr.cell? _ = some (.int .u8 4) := r0
       obtain ⟨W2, hW2⟩ : ∃ W, W = wr.alloc (.cells #[.int .u8 4, .int .u32 (oa : Int), .int .u32 (ob : Int), .int .u8 (okey : Int), .int .u8 (vk : Int), .int .i64 vn, .string vs] 82) := ⟨_, rfl⟩
       have HM2 : Hid (Mod (fun _ => False) wr W2) := Lib.hid (by rw [hW2]; exact (Mod.refl _ _).alloc _)
       have HB2 : Hid (W2.heap[wr.heap.size]? = some (.cells #[.int .u8 4, .int .u32 (oa : Int), .int .u32 (ob : Int), .int .u8 (okey : Int), .int .u8 (vk : Int), .int .i64 vn, .string vs] 82 (0, 0))) := Lib.hid (by rw [hW2]; exact heap_alloc_new' _ _)
       have HM6 : Hid (Mod (fun _ => False) wr (W2.alloc (.cells #[.int .u8 4, .int .u32 (oa : Int), .int .u32 (ob : Int), .int .u8 (okey : Int), .int .u8 (vk : Int), .int .i64 vn, .string vs] 82))) := Lib.hid (HM2.out.alloc _)
       have HSG6 : Hid (Seg (W2.alloc (.cells #[.int .u8 4, .int .u32 (oa : Int), .int .u32 (ob : Int), .int .u8 (okey : Int), .int .u8 (vk : Int), .int .i64 vn, .string vs] 82)) 82 7 (.slice av nu cv) nu (ocells L)) := Lib.hid (by have h := HOS.out.seg.mod HM6.out (fun _ _ f => f); rw [← HNU.out] at h; exact h)
       have HSR6 := Lib.hid (src_cells (w := W2) rfl (size := 7) 82 #[.int .u8 4, .int .u32 (oa : Int), .int .u32 (ob : Int), .int .u8 (okey : Int), .int .u8 (vk : Int), .int .i64 vn, .string vs] rfl (by simp [Value.oneCell']))
       go_upto_region 7 with fail
       rw [← hW2]
       clear hW2 r0 r1 r2 r3 r4 r5 r6 zbl
       have d0 := cell_of_row HB2.out 0
       have d1 := cell_of_row HB2.out 1
       have d2 := cell_of_row HB2.out 2
       have d3 := cell_of_row HB2.out 3
       have d4 := cell_of_row HB2.out 4
       have d5 := cell_of_row HB2.out 5
       have d6 := cell_of_row HB2.out 6
       have zd := lt_of_block HB2.out
       simp at d0 d1 d2 d3 d4 d5 d6
       have hcase : isRead ⟨4, oa, ob, okey, ⟨vk, vn, vs⟩⟩ = true := by simp [isRead]
       have HTT : Hid ((lb.take (k + 1)).filter isRead = L ++ [⟨4, oa, ob, okey, ⟨vk, vn, vs⟩⟩]) := Lib.hid (by rw [HTK.out, if_pos hcase])
       clear hcase HTK
       go_wp2_with (at_builtin; go_loud (refine wpList_append_seg rfl (.tmp 50) (.tmp 52) 23 rfl i0 _ 7 48 Tryz.underlying23 HI.out.1 HI.out.2.1 HI.out.2.2.1 HI.out.2.2.2 rfl (by decide) rfl HSG6.out _ 1 _ rfl HSR6.out (by have := HNUK.out; have := HZB.out; unfold maxLen; omega) (by have := HNUK.out; have := HZB.out; omega) ?_; intro v8 w8 hs8 hg8 ho8; have HW8 := Lib.hid (HOS.out.next (x := ⟨4, oa, ob, okey, ⟨vk, vn, vs⟩⟩) HM6.out HFX.out HNU.out hs8 hg8 ho8); (obtain ⟨a8, c8, rfl, -⟩ := hs8.shape); clear hs8 hg8 ho8))
       go_roundw
       case rel => exact ⟨k + 1, by go_num, by omega, by rw [HTT.out]; exact HW8.out⟩
       case measure => simp [intOf]; omega
     have g4 : ((kind : Int) == 4) = false := by simp; omega
     by_cases h7 : kind = 7
     · skip
       subst h7
       replace r0 : wr.cell? _ = some (.int .u8 7) := r0
       obtain ⟨W2, hW2⟩ : ∃ W, W = wr.alloc (.cells #[.int .u8 7, .int .u32 (oa : Int), .int .u32 (ob : Int), .int .u8 (okey : Int), .int .u8 (vk : Int), .int .i64 vn, .string vs] 82) := ⟨_, rfl⟩
       have HM2 : Hid (Mod (fun _ => False) wr W2) := Lib.hid (by rw [hW2]; exact (Mod.refl _ _).alloc _)
       have HB2 : Hid (W2.heap[wr.heap.size]? = some (.cells #[.int .u8 7, .int .u32 (oa : Int), .int .u32 (ob : Int), .int .u8 (okey : Int), .int .u8 (vk : Int), .int .i64 vn, .string vs] 82 (0, 0))) := Lib.hid (by rw [hW2]; exact heap_alloc_new' _ _)
       have HM6 : Hid (Mod (fun _ => False) wr (W2.alloc (.cells #[.int .u8 7, .int .u32 (oa : Int), .int .u32 (ob : Int), .int .u8 (okey : Int), .int .u8 (vk : Int), .int .i64 vn, .string vs] 82))) := Lib.hid (HM2.out.alloc _)
       have HSG6 : Hid (Seg (W2.alloc (.cells #[.int .u8 7, .int .u32 (oa : Int), .int .u32 (ob : Int), .int .u8 (okey : Int), .int .u8 (vk : Int), .int .i64 vn, .string vs] 82)) 82 7 (.slice av nu cv) nu (ocells L)) := Lib.hid (by have h := HOS.out.seg.mod HM6.out (fun _ _ f => f); rw [← HNU.out] at h; exact h)
       have HSR6 := Lib.hid (src_cells (w := W2) rfl (size := 7) 82 #[.int .u8 7, .int .u32 (oa : Int), .int .u32 (ob : Int), .int .u8 (okey : Int), .int .u8 (vk : Int), .int .i64 vn, .string vs] rfl (by simp [Value.oneCell']))
       go_upto_region 7 with fail
       rw [← hW2]
       clear hW2 r0 r1 r2 r3 r4 r5 r6 zbl
       have d0 := cell_of_row HB2.out 0
       have d1 := cell_of_row HB2.out 1
       have d2 := cell_of_row HB2.out 2
       have d3 := cell_of_row HB2.out 3
       have d4 := cell_of_row HB2.out 4
       have d5 := cell_of_row HB2.out 5
       have d6 := cell_of_row HB2.out 6
       have zd := lt_of_block HB2.out
       simp at d0 d1 d2 d3 d4 d5 d6
       have hcase : isRead ⟨7, oa, ob, okey, ⟨vk, vn, vs⟩⟩ = true := by simp [isRead]
       have HTT : Hid ((lb.take (k + 1)).filter isRead = L ++ [⟨7, oa, ob, okey, ⟨vk, vn, vs⟩⟩]) := Lib.hid (by rw [HTK.out, if_pos hcase])
       clear hcase HTK
       go_wp2_with (at_builtin; go_loud (refine wpList_append_seg rfl (.tmp 50) (.tmp 52) 23 rfl i0 _ 7 48 Tryz.underlying23 HI.out.1 HI.out.2.1 HI.out.2.2.1 HI.out.2.2.2 rfl (by decide) rfl HSG6.out _ 1 _ rfl HSR6.out (by have := HNUK.out; have := HZB.out; unfold maxLen; omega) (by have := HNUK.out; have := HZB.out; omega) ?_; intro v8 w8 hs8 hg8 ho8; have HW8 := Lib.hid (HOS.out.next (x := ⟨7, oa, ob, okey, ⟨vk, vn, vs⟩⟩) HM6.out HFX.out HNU.out hs8 hg8 ho8); (obtain ⟨a8, c8, rfl, -⟩ := hs8.shape); clear hs8 hg8 ho8))
       go_roundw
       case rel => exact ⟨k + 1, by go_num, by omega, by rw [HTT.out]; exact HW8.out⟩
       case measure => simp [intOf]; omega
     have g7 : ((kind : Int) == 7) = false := by simp; omega
     by_cases h8 : kind = 8
     · skip
       subst h8
       replace r0 : wr.cell? _ = some (.int .u8 8) := r0
       obtain ⟨W2, hW2⟩ : ∃ W, W = wr.alloc (.cells #[.int .u8 8, .int .u32 (oa : Int), .int .u32 (ob : Int), .int .u8 (okey : Int), .int .u8 (vk : Int), .int .i64 vn, .string vs] 82) := ⟨_, rfl⟩
       have HM2 : Hid (Mod (fun _ => False) wr W2) := Lib.hid (by rw [hW2]; exact (Mod.refl _ _).alloc _)
       have HB2 : Hid (W2.heap[wr.heap.size]? = some (.cells #[.int .u8 8, .int .u32 (oa : Int), .int .u32 (ob : Int), .int .u8 (okey : Int), .int .u8 (vk : Int), .int .i64 vn, .string vs] 82 (0, 0))) := Lib.hid (by rw [hW2]; exact heap_alloc_new' _ _)
       have HM6 : Hid (Mod (fun _ => False) wr (W2.alloc (.cells #[.int .u8 8, .int .u32 (oa : Int), .int .u32 (ob : Int), .int .u8 (okey : Int), .int .u8 (vk : Int), .int .i64 vn, .string vs] 82))) := Lib.hid (HM2.out.alloc _)
       have HSG6 : Hid (Seg (W2.alloc (.cells #[.int .u8 8, .int .u32 (oa : Int), .int .u32 (ob : Int), .int .u8 (okey : Int), .int .u8 (vk : Int), .int .i64 vn, .string vs] 82)) 82 7 (.slice av nu cv) nu (ocells L)) := Lib.hid (by have h := HOS.out.seg.mod HM6.out (fun _ _ f => f); rw [← HNU.out] at h; exact h)
       have HSR6 := Lib.hid (src_cells (w := W2) rfl (size := 7) 82 #[.int .u8 8, .int .u32 (oa : Int), .int .u32 (ob : Int), .int .u8 (okey : Int), .int .u8 (vk : Int), .int .i64 vn, .string vs] rfl (by simp [Value.oneCell']))
       go_upto_region 7 with fail
       rw [← hW2]
       clear hW2 r0 r1 r2 r3 r4 r5 r6 zbl
       have d0 := cell_of_row HB2.out 0
       have d1 := cell_of_row HB2.out 1
       have d2 := cell_of_row HB2.out 2
       have d3 := cell_of_row HB2.out 3
       have d4 := cell_of_row HB2.out 4
       have d5 := cell_of_row HB2.out 5
       have d6 := cell_of_row HB2.out 6
       have zd := lt_of_block HB2.out
       simp at d0 d1 d2 d3 d4 d5 d6
       have hcase : isRead ⟨8, oa, ob, okey, ⟨vk, vn, vs⟩⟩ = true := by simp [isRead]
       have HTT : Hid ((lb.take (k + 1)).filter isRead = L ++ [⟨8, oa, ob, okey, ⟨vk, vn, vs⟩⟩]) := Lib.hid (by rw [HTK.out, if_pos hcase])
       clear hcase HTK
       go_wp2_with (at_builtin; go_loud (refine wpList_append_seg rfl (.tmp 50) (.tmp 52) 23 rfl i0 _ 7 48 Tryz.underlying23 HI.out.1 HI.out.2.1 HI.out.2.2.1 HI.out.2.2.2 rfl (by decide) rfl HSG6.out _ 1 _ rfl HSR6.out (by have := HNUK.out; have := HZB.out; unfold maxLen; omega) (by have := HNUK.out; have := HZB.out; omega) ?_; intro v8 w8 hs8 hg8 ho8; have HW8 := Lib.hid (HOS.out.next (x := ⟨8, oa, ob, okey, ⟨vk, vn, vs⟩⟩) HM6.out HFX.out HNU.out hs8 hg8 ho8); (obtain ⟨a8, c8, rfl, -⟩ := hs8.shape); clear hs8 hg8 ho8))
       go_roundw
       case rel => exact ⟨k + 1, by go_num, by omega, by rw [HTT.out]; exact HW8.out⟩
       case measure => simp [intOf]; omega
     have g8 : ((kind : Int) == 8) = false := by simp; omega
     by_cases h9 : kind = 9
     · skip
       subst h9
       replace r0 : wr.cell? _ = some (.int .u8 9) := r0
       obtain ⟨W2, hW2⟩ : ∃ W, W = wr.alloc (.cells #[.int .u8 9, .int .u32 (oa : Int), .int .u32 (ob : Int), .int .u8 (okey : Int), .int .u8 (vk : Int), .int .i64 vn, .string vs] 82) := ⟨_, rfl⟩
       have HM2 : Hid (Mod (fun _ => False) wr W2) := Lib.hid (by rw [hW2]; exact (Mod.refl _ _).alloc _)
       have HB2 : Hid (W2.heap[wr.heap.size]? = some (.cells #[.int .u8 9, .int .u32 (oa : Int), .int .u32 (ob : Int), .int .u8 (okey : Int), .int .u8 (vk : Int), .int .i64 vn, .string vs] 82 (0, 0))) := Lib.hid (by rw [hW2]; exact heap_alloc_new' _ _)
       have HM6 : Hid (Mod (fun _ => False) wr (W2.alloc (.cells #[.int .u8 9, .int .u32 (oa : Int), .int .u32 (ob : Int), .int .u8 (okey : Int), .int .u8 (vk : Int), .int .i64 vn, .string vs] 82))) := Lib.hid (HM2.out.alloc _)
       have HSG6 : Hid (Seg (W2.alloc (.cells #[.int .u8 9, .int .u32 (oa : Int), .int .u32 (ob : Int), .int .u8 (okey : Int), .int .u8 (vk : Int), .int .i64 vn, .string vs] 82)) 82 7 (.slice av nu cv) nu (ocells L)) := Lib.hid (by have h := HOS.out.seg.mod HM6.out (fun _ _ f => f); rw [← HNU.out] at h; exact h)
       have HSR6 := Lib.hid (src_cells (w := W2) rfl (size := 7) 82 #[.int .u8 9, .int .u32 (oa : Int), .int .u32 (ob : Int), .int .u8 (okey : Int), .int .u8 (vk : Int), .int .i64 vn, .string vs] rfl (by simp [Value.oneCell']))
       go_upto_region 7 with fail
       rw [← hW2]
       clear hW2 r0 r1 r2 r3 r4 r5 r6 zbl
       have d0 := cell_of_row HB2.out 0
       have d1 := cell_of_row HB2.out 1
       have d2 := cell_of_row HB2.out 2
       have d3 := cell_of_row HB2.out 3
       have d4 := cell_of_row HB2.out 4
       have d5 := cell_of_row HB2.out 5
       have d6 := cell_of_row HB2.out 6
       have zd := lt_of_block HB2.out
       simp at d0 d1 d2 d3 d4 d5 d6
       have hcase : isRead ⟨9, oa, ob, okey, ⟨vk, vn, vs⟩⟩ = true := by simp [isRead]
       have HTT : Hid ((lb.take (k + 1)).filter isRead = L ++ [⟨9, oa, ob, okey, ⟨vk, vn, vs⟩⟩]) := Lib.hid (by rw [HTK.out, if_pos hcase])
       clear hcase HTK
       go_wp2_with (at_builtin; go_loud (refine wpList_append_seg rfl (.tmp 50) (.tmp 52) 23 rfl i0 _ 7 48 Tryz.underlying23 HI.out.1 HI.out.2.1 HI.out.2.2.1 HI.out.2.2.2 rfl (by decide) rfl HSG6.out _ 1 _ rfl HSR6.out (by have := HNUK.out; have := HZB.out; unfold maxLen; omega) (by have := HNUK.out; have := HZB.out; omega) ?_; intro v8 w8 hs8 hg8 ho8; have HW8 := Lib.hid (HOS.out.next (x := ⟨9, oa, ob, okey, ⟨vk, vn, vs⟩⟩) HM6.out HFX.out HNU.out hs8 hg8 ho8); (obtain ⟨a8, c8, rfl, -⟩ := hs8.shape); clear hs8 hg8 ho8))
       go_roundw
       case rel => exact ⟨k + 1, by go_num, by omega, by rw [HTT.out]; exact HW8.out⟩
       case measure => simp [intOf]; omega
     have g9 : ((kind : Int) == 9) = false := by simp; omega
     obtain ⟨W2, hW2⟩ : ∃ W, W = wr.alloc (.cells #[.int .u8 (kind : Int), .int .u32 (oa : Int), .int .u32 (ob : Int), .int .u8 (okey : Int), .int .u8 (vk : Int), .int .i64 vn, .string vs] 82) := ⟨_, rfl⟩
     have HM2 : Hid (Mod (fun _ => False) wr W2) := Lib.hid (by rw [hW2]; exact (Mod.refl _ _).alloc _)
     have HB2 : Hid (W2.heap[wr.heap.size]? = some (.cells #[.int .u8 (kind : Int), .int .u32 (oa : Int), .int .u32 (ob : Int), .int .u8 (okey : Int), .int .u8 (vk : Int), .int .i64 vn, .string vs] 82 (0, 0))) := Lib.hid (by rw [hW2]; exact heap_alloc_new' _ _)
     have HM6 : Hid (Mod (fun _ => False) wr (W2.alloc (.cells #[.int .u8 (kind : Int), .int .u32 (oa : Int), .int .u32 (ob : Int), .int .u8 (okey : Int), .int .u8 (vk : Int), .int .i64 vn, .string vs] 82))) := Lib.hid (HM2.out.alloc _)
     have HSG6 : Hid (Seg (W2.alloc (.cells #[.int .u8 (kind : Int), .int .u32 (oa : Int), .int .u32 (ob : Int), .int .u8 (okey : Int), .int .u8 (vk : Int), .int .i64 vn, .string vs] 82)) 82 7 (.slice av nu cv) nu (ocells L)) := Lib.hid (by have h := HOS.out.seg.mod HM6.out (fun _ _ f => f); rw [← HNU.out] at h; exact h)
     have HSR6 := Lib.hid (src_cells (w := W2) rfl (size := 7) 82 #[.int .u8 (kind : Int), .int .u32 (oa : Int), .int .u32 (ob : Int), .int .u8 (okey : Int), .int .u8 (vk : Int), .int .i64 vn, .string vs] rfl (by simp [Value.oneCell']))
     go_upto_region 7 with fail
     rw [← hW2]
     clear hW2 r0 r1 r2 r3 r4 r5 r6 zbl
     have d0 := cell_of_row HB2.out 0
     have d1 := cell_of_row HB2.out 1
     have d2 := cell_of_row HB2.out 2
     have d3 := cell_of_row HB2.out 3
     have d4 := cell_of_row HB2.out 4
     have d5 := cell_of_row HB2.out 5
     have d6 := cell_of_row HB2.out 6
     have zd := lt_of_block HB2.out
     simp at d0 d1 d2 d3 d4 d5 d6
     have hcase : ¬ isRead ⟨kind, oa, ob, okey, ⟨vk, vn, vs⟩⟩ = true := by simp [isRead]; omega
     have HTT : Hid ((lb.take (k + 1)).filter isRead = L) := Lib.hid (by rw [HTK.out, if_neg hcase, List.append_nil])
     clear hcase HTK
     go_wp2
     go_roundw
     case rel => exact ⟨k + 1, by go_num, by omega, by rw [HTT.out]; exact HOS.out.keep HM2.out⟩
     case measure => simp [intOf]; omega
   · have hkn2 : k = n := by omega
     subst hkn2
     have HLL : Hid ((lb.take k).filter isRead = rd) := Lib.hid (by rw [List.take_of_length_le (by rw [← HNB.out]; omega), ← HRD.out])
     rw [HLL.out] at HOS
     go_wp2_with (first
       | (go_at_call 12; go_loud (refine (HPW.out _ _ HOM.out).mono ?_; (rintro e w3 ⟨a3, n3, c3, rfl, hws3⟩); have HWS := Lib.hid hws3; have HMW : Hid (Mod (fun _ => False) w w3) := Lib.hid (HM2.out.trans hws3.mod); have HMR := Lib.hid (HMB.out.trans hws3.mod); clear hws3))
       | (go_at_call 13; go_loud (refine (HOP.out _ _ HOS.out.rd).mono ?_; (rintro e w2 ⟨a2, c2, rfl, hm2, ho2⟩); have HM2 : Hid (Mod (fun _ => False) w w2) := Lib.hid (HOS.out.mod.trans hm2); have HOM := Lib.hid ho2; have HMB := Lib.hid hm2; clear hm2 ho2)))
     clear hq
     obtain rfl : n3 = nw := by obtain ⟨a9, c9, e9, -⟩ := HWS.out.seg.shape; injection e9 with _ e9 _; rw [e9, HNW.out]
     go_loopw [68] (fun i wr => ∃ j : Nat, i = .int .i64 (j : Int) ∧ j ≤ n3 ∧ Mod (fun _ => False) w3 wr) (fun i _ => n3 - (intOf i).toNat)
     case atStart => exact ⟨0, rfl, Nat.zero_le _, Mod.refl _ _⟩
     case round =>
       obtain ⟨j, rfl, hj, hmj⟩ := hrel
       have HJ := Lib.hid hmj
       clear hmj
       by_cases hjn : j < n3
       · obtain ⟨x, hy⟩ : ∃ x, ws[j]? = some x := ⟨_, List.getElem?_eq_getElem (by rw [← HNW.out]; exact hjn)⟩
         obtain ⟨bx, offx, ex, hbx, r0, r1⟩ := HWS.out.rd.ent hy rfl
         have hx1 := HW1.out x (List.mem_of_getElem? hy)
         replace r0 := HJ.out.cell r0
         replace r1 := HJ.out.cell r1
         have zbx : bx < wr.heap.size := Nat.lt_of_lt_of_le hbx HJ.out.size
         subst ex
         clear hy hbx
         obtain ⟨xv, xm⟩ := x
         simp only at r0 r1 hx1
         subst hx1
         go_wp2
         go_roundw
         case rel => exact ⟨j + 1, by go_num, by omega, HJ.out.alloc _⟩
         case measure => simp [intOf]; omega
       · by_cases hck0 : ck = 0
         · subst hck0
           obtain ⟨pf, hpf, hrn⟩ := HRN.out rfl
           have HRN2 := Lib.hid hrn
           have HWJ : Hid (Mod (fun _ => False) w wr) := Lib.hid (HMW.out.trans HJ.out)
           obtain ⟨wj, rfl⟩ : ∃ wj : World, wj = wr := ⟨_, rfl⟩
           clear HRN hrn
           rcases hpf with rfl | rfl
           · go_wp2_with (first
               | (have hq := HRB.out; at_make; go_loud (refine wpList_make_full _ rfl _ _ 72 rfl 0 5 i8 _ 1 Tryz.underlying72 HI8.out.1 HI8.out.2.1 HI8.out.2.2.1 _ _ _ _ n3 rfl rfl rfl rfl (by rw [HI8.out.2.2.2]; omega) (by unfold maxLen; omega) (Nat.zero_le _) ?_; intro w7 hs7 hg7; (generalize hgg : (World.alloc w5 _).heap.size = g at hs7 ⊢); have HGG : Hid (w5.heap.size ≤ g) := Lib.hid (by rw [← hgg]; simp); have HMK := Lib.hid (made8 (by unfold maxLen; omega) hs7); have HG7 : Hid (Mod (fun _ => False) w5 w7) := Lib.hid (((Mod.refl _ _).alloc _).grown hg7 (fun b hb => by cases hb)); clear hs7 hg7 hq hgg))
               | (go_at_call 15; go_loud (refine (HRN2.out _ _ l5 _ HM6.out (HL5.out.1.keep HK6.out) HL5.out.2.2 HL5.out.2.1 HO6.out).mono ?_; (rintro e w5 ⟨e0, e1, av2, nv2, cv2, al2, nl2, cl2, ag2, cg2, rfl, hm5⟩); have HM9 : Hid (Mod (fun _ => False) w w5) := Lib.hid (HM6.out.trans hm5); have HJ9 : Hid (Mod (fun _ => False) wj w5) := Lib.hid (HJ6.out.trans hm5); have HRB := Lib.hid trivial; clear hm5))
               | (go_at_call 13; go_loud (refine (HOP.out _ _ (HOS.out.rd.keep ((HMR.out.trans HJ.out).trans HJ5.out))).mono ?_; (rintro e w6 ⟨a6, c6, rfl, hm6, ho6⟩); have HM6 : Hid (Mod (fun _ => False) w w6) := Lib.hid (HM5.out.trans hm6); have HJ6 : Hid (Mod (fun _ => False) wj w6) := Lib.hid (HJ5.out.trans hm6); have HK6 := Lib.hid hm6; have HO6 := Lib.hid ho6; clear hm6 ho6))
               | (go_at_call 18; go_loud (refine (HTW.out _ HWJ.out).mono ?_; (rintro e w4 ⟨a4, n4, c4, l5, rfl, hm4, hl4, hx4, hn4⟩); have HM5 : Hid (Mod (fun _ => False) w w4) := Lib.hid (HWJ.out.trans hm4); have HJ5 := Lib.hid hm4; have HL5 := Lib.hid (And.intro hl4 (And.intro hx4 hn4)); clear hm4 hl4 hx4 hn4)))
             have HWC : Hid (WRd w7 (.slice a3 n3 c3) ws) := Lib.hid (HWS.out.rd.keep ((HJ.out.trans HJ9.out).trans HG7.out))
             have HM7 : Hid (Mod (fun _ => False) w w7) := Lib.hid (HM9.out.trans HG7.out)
             go_loopw [106] (fun i wr => ∃ k : Nat, i = .int .i64 (k : Int) ∧ k ≤ n3 ∧ ∃ ys : List Nat, ys.length = n3 ∧ (∀ y ∈ ys, y < 4) ∧ wr.heap[g]? = some (.cells (ys.map (keyV .u8)).toArray 5 (0, 0)) ∧ Mod (fun k => k = g) w7 wr ∧ Mod (fun _ => False) w wr ∧ Mod (fun _ => False) w5 wr) (fun i _ => n3 - (intOf i).toNat)
             case atStart => exact ⟨0, rfl, Nat.zero_le _, List.replicate n3 0, by simp, fun y hy => by rw [(List.mem_replicate.1 hy).2]; decide, HMK.out, Mod.refl _ _, HM7.out, HG7.out⟩
             case round =>
               obtain ⟨k2, rfl, hk2, ys, hyl, hy4, hyb, hmg, hmw, hm5⟩ := hrel
               have HYL := Lib.hid hyl
               have HY4 := Lib.hid hy4
               have HYB := Lib.hid hyb
               have HMG := Lib.hid hmg
               have HMW := Lib.hid hmw
               have HM5W := Lib.hid hm5
               clear hyl hy4 hyb hmg hmw hm5
               by_cases hkn3 : k2 < n3
               · by_cases hkm : k2 < m
                 · have hkmi : (k2 : Int) < (m : Int) := by omega
                   obtain ⟨y, hx⟩ : ∃ y, lc[k2]? = some y := ⟨_, List.getElem?_eq_getElem (by rw [← HNC.out]; exact hkm)⟩
                   obtain ⟨bo, offo, eo, hbo, q0⟩ := HC.out.cell _ _ rfl k2 (.int .u8 (y : Int)) (by rw [List.getElem?_map, hx]; rfl)
                   subst eo
                   replace q0 := HMW.out.cell q0
                   have zbo : bo < wr.heap.size := Nat.lt_of_lt_of_le hbo HMW.out.size
                   have p0 := cell_of_row HYB.out k2
                   have p0f := free_of_row HYB.out k2
                   have zp0 := lt_of_block HYB.out
                   have hty : Int.tmod (y : Int) 4 = ((y % 4 : Nat) : Int) := by rw [Int.tmod_eq_emod_of_nonneg (by omega)]; rfl
                   have hy4 : y % 4 < 4 := Nat.mod_lt _ (by decide)
                   obtain ⟨yv, hyv⟩ : ∃ yv, ys[k2]? = some yv := ⟨_, List.getElem?_eq_getElem (by rw [HYL.out]; exact hkn3)⟩
                   simp [hyv, keyV] at p0
                   clear hx hbo hyv
                   have HSE : Hid ((wr.setCell ⟨g, k2, none⟩ (.int .u8 ((y : Int) % 4))).heap[g]? = some (.cells ((ys.set k2 (y % 4)).map (keyV .u8)).toArray 5 (0, 0))) := Lib.hid (by
                     rw [row_setCell HYB.out k2 (.int .u8 ((y : Int) % 4))]
                     congr 2
                     apply Array.ext'
                     simp [List.map_set, keyV])
                   have HM8 : Hid (Mod (fun k => k = g) wr (wr.setCell ⟨g, k2, none⟩ (.int .u8 ((y : Int) % 4)))) := Lib.hid ((Mod.refl (fun k => k = g) wr).setCell (p := ⟨g, k2, none⟩) (fun _ => rfl) _)
                   have HY5 : Hid (∀ z ∈ ys.set k2 (y % 4), z < 4) := Lib.hid (fun z hz => by
                     rcases List.mem_or_eq_of_mem_set hz with h | h
                     · exact HY4.out z h
                     · rw [h]; exact hy4)
                   clear hy4
                   go_wp2
                   go_roundw
                   case rel => exact ⟨k2 + 1, by go_num, by omega, ys.set k2 (y % 4), by rw [List.length_set]; exact HYL.out, HY5.out, HSE.out, HMG.out.trans HM8.out, HMW.out.trans' HM8.out (fun i hi e => by have := HGG.out; have := HM9.out.size; omega), HM5W.out.trans' HM8.out (fun i hi e => by have := HGG.out; omega)⟩
                   case measure => simp [intOf]; omega
                 · have hkmi : ¬ (k2 : Int) < (m : Int) := by omega
                   go_wp2
                   go_roundw
                   case rel => exact ⟨k2 + 1, by go_num, by omega, ys, HYL.out, HY4.out, HYB.out, HMG.out, HMW.out, HM5W.out⟩
                   case measure => simp [intOf]; omega
               · have HW8 : Hid (WRd wr (.slice a3 n3 c3) ws) := Lib.hid (HWS.out.rd.keep ((HJ.out.trans HJ9.out).trans HM5W.out))
                 have HO8 := Lib.hid (row8 HYL.out (by unfold maxLen; omega) HYB.out).rdS
                 have HSM : Hid (gsum ws ys 4 = n3) := Lib.hid (by rw [HNW.out]; exact gsum_all HY4.out (by rw [HYL.out, HNW.out]))
                 have HSL : Hid (∀ j, gsum ws ys j ≤ j * 40) := Lib.hid (fun j => Nat.le_trans (gsum_le ws ys j) (Nat.mul_le_mul_left _ (by rw [← HNW.out]; exact hnw40)))
                 have HGL : Hid (∀ j, (grpL ws ys j).length ≤ 40) := Lib.hid (fun j => Nat.le_trans (grpL_len ws ys j) (by rw [← HNW.out]; exact hnw40))
                 go_wp2_with (go_at_call 30; go_loud (refine (HGR.out ys _ _ _ HW8.out HYL.out HY4.out HO8.out).mono ?_; (rintro e w9 ⟨hm9, b, v0, v1, v2, v3, rfl, hbx, hv0, hv1, hv2, hv3⟩); have HM10 : Hid (Mod (fun _ => False) w w9) := Lib.hid (HMW.out.trans hm9); have HBX := Lib.hid hbx; (have HVS : Hid (∀ j, j < 4 → ∃ v, (#[v0, v1, v2, v3] : Array Value)[j]? = some v ∧ WRd w9 v (grpL ws ys j)) := Lib.hid (fun j hj => match j, hj with | 0, _ => ⟨v0, rfl, hv0⟩ | 1, _ => ⟨v1, rfl, hv1⟩ | 2, _ => ⟨v2, rfl, hv2⟩ | 3, _ => ⟨v3, rfl, hv3⟩)); clear hm9 hbx hv0 hv1 hv2 hv3))
                 go_loopw [130, 21] (fun i s wr => ∃ j : Nat, i = .int .i64 (j : Int) ∧ j ≤ 4 ∧ s = .int .i64 ((gsum ws ys j : Nat) : Int) ∧ wr = w9) (fun i _ _ => 4 - (intOf i).toNat)
                 case atStart => exact ⟨0, rfl, by omega, rfl, rfl⟩
                 case round =>
                   obtain ⟨j4, rfl, hj4, rfl, rfl⟩ := hrel
                   by_cases hj44 : j4 < 4
                   · have hj4i : (j4 : Int) < 4 := by omega
                     obtain ⟨gv, hgv, hgw⟩ := HVS.out j4 hj44
                     have hcb := cell_of_row HBX.out j4
                     rw [hgv] at hcb
                     have zb := lt_of_block HBX.out
                     obtain ⟨agv, cgv, rfl, -⟩ := hgw.row.shape
                     have HGS : Hid (gsum ws ys (j4 + 1) = gsum ws ys j4 + (grpL ws ys j4).length) := Lib.hid rfl
                     have hsl := HSL.out j4
                     have hgl := HGL.out j4
                     generalize gsum ws ys j4 = gs at *
                     generalize (grpL ws ys j4).length = gn at *
                     clear hgv hgw
                     go_wp2
                     go_roundw
                     case rel => exact ⟨j4 + 1, by go_num, by omega, by rw [HGS.out]; go_num, by first | rfl | trivial⟩
                     case measure => simp [intOf]; omega
                   · have hj5 : j4 = 4 := by omega
                     subst hj5
                     rw [HSM.out]
                     go_wp2
                     go_ret
                     exact ⟨rfl, HM10.out⟩
           · go_wp2_with (first
               | (have hq := HRB.out; at_make; go_loud (refine wpList_make_full _ rfl _ _ 72 rfl 0 5 i8 _ 1 Tryz.underlying72 HI8.out.1 HI8.out.2.1 HI8.out.2.2.1 _ _ _ _ n3 rfl rfl rfl rfl (by rw [HI8.out.2.2.2]; omega) (by unfold maxLen; omega) (Nat.zero_le _) ?_; intro w7 hs7 hg7; (generalize hgg : (World.alloc w5 _).heap.size = g at hs7 ⊢); have HGG : Hid (w5.heap.size ≤ g) := Lib.hid (by rw [← hgg]; simp); have HMK := Lib.hid (made8 (by unfold maxLen; omega) hs7); have HG7 : Hid (Mod (fun _ => False) w5 w7) := Lib.hid (((Mod.refl _ _).alloc _).grown hg7 (fun b hb => by cases hb)); clear hs7 hg7 hq hgg))
               | (go_at_call 15; go_loud (refine (HRN2.out _ _ l5 _ HM6.out (HL5.out.1.keep HK6.out) HL5.out.2.2 HL5.out.2.1 HO6.out).mono ?_; (rintro e w5 ⟨e0, e1, av2, nv2, cv2, al2, nl2, cl2, ag2, cg2, rfl, hm5⟩); have HM9 : Hid (Mod (fun _ => False) w w5) := Lib.hid (HM6.out.trans hm5); have HJ9 : Hid (Mod (fun _ => False) wj w5) := Lib.hid (HJ6.out.trans hm5); have HRB := Lib.hid trivial; clear hm5))
               | (go_at_call 13; go_loud (refine (HOP.out _ _ (HOS.out.rd.keep ((HMR.out.trans HJ.out).trans HJ5.out))).mono ?_; (rintro e w6 ⟨a6, c6, rfl, hm6, ho6⟩); have HM6 : Hid (Mod (fun _ => False) w w6) := Lib.hid (HM5.out.trans hm6); have HJ6 : Hid (Mod (fun _ => False) wj w6) := Lib.hid (HJ5.out.trans hm6); have HK6 := Lib.hid hm6; have HO6 := Lib.hid ho6; clear hm6 ho6))
               | (go_at_call 18; go_loud (refine (HTW.out _ HWJ.out).mono ?_; (rintro e w4 ⟨a4, n4, c4, l5, rfl, hm4, hl4, hx4, hn4⟩); have HM5 : Hid (Mod (fun _ => False) w w4) := Lib.hid (HWJ.out.trans hm4); have HJ5 := Lib.hid hm4; have HL5 := Lib.hid (And.intro hl4 (And.intro hx4 hn4)); clear hm4 hl4 hx4 hn4)))
             have HWC : Hid (WRd w7 (.slice a3 n3 c3) ws) := Lib.hid (HWS.out.rd.keep ((HJ.out.trans HJ9.out).trans HG7.out))
             have HM7 : Hid (Mod (fun _ => False) w w7) := Lib.hid (HM9.out.trans HG7.out)
             go_loopw [106] (fun i wr => ∃ k : Nat, i = .int .i64 (k : Int) ∧ k ≤ n3 ∧ ∃ ys : List Nat, ys.length = n3 ∧ (∀ y ∈ ys, y < 4) ∧ wr.heap[g]? = some (.cells (ys.map (keyV .u8)).toArray 5 (0, 0)) ∧ Mod (fun k => k = g) w7 wr ∧ Mod (fun _ => False) w wr ∧ Mod (fun _ => False) w5 wr) (fun i _ => n3 - (intOf i).toNat)
             case atStart => exact ⟨0, rfl, Nat.zero_le _, List.replicate n3 0, by simp, fun y hy => by rw [(List.mem_replicate.1 hy).2]; decide, HMK.out, Mod.refl _ _, HM7.out, HG7.out⟩
             case round =>
               obtain ⟨k2, rfl, hk2, ys, hyl, hy4, hyb, hmg, hmw, hm5⟩ := hrel
               have HYL := Lib.hid hyl
               have HY4 := Lib.hid hy4
               have HYB := Lib.hid hyb
               have HMG := Lib.hid hmg
               have HMW := Lib.hid hmw
               have HM5W := Lib.hid hm5
               clear hyl hy4 hyb hmg hmw hm5
               by_cases hkn3 : k2 < n3
               · by_cases hkm : k2 < m
                 · have hkmi : (k2 : Int) < (m : Int) := by omega
                   obtain ⟨y, hx⟩ : ∃ y, lc[k2]? = some y := ⟨_, List.getElem?_eq_getElem (by rw [← HNC.out]; exact hkm)⟩
                   obtain ⟨bo, offo, eo, hbo, q0⟩ := HC.out.cell _ _ rfl k2 (.int .u8 (y : Int)) (by rw [List.getElem?_map, hx]; rfl)
                   subst eo
                   replace q0 := HMW.out.cell q0
                   have zbo : bo < wr.heap.size := Nat.lt_of_lt_of_le hbo HMW.out.size
                   have p0 := cell_of_row HYB.out k2
                   have p0f := free_of_row HYB.out k2
                   have zp0 := lt_of_block HYB.out
                   have hty : Int.tmod (y : Int) 4 = ((y % 4 : Nat) : Int) := by rw [Int.tmod_eq_emod_of_nonneg (by omega)]; rfl
                   have hy4 : y % 4 < 4 := Nat.mod_lt _ (by decide)
                   obtain ⟨yv, hyv⟩ : ∃ yv, ys[k2]? = some yv := ⟨_, List.getElem?_eq_getElem (by rw [HYL.out]; exact hkn3)⟩
                   simp [hyv, keyV] at p0
                   clear hx hbo hyv
                   have HSE : Hid ((wr.setCell ⟨g, k2, none⟩ (.int .u8 ((y : Int) % 4))).heap[g]? = some (.cells ((ys.set k2 (y % 4)).map (keyV .u8)).toArray 5 (0, 0))) := Lib.hid (by
                     rw [row_setCell HYB.out k2 (.int .u8 ((y : Int) % 4))]
                     congr 2
                     apply Array.ext'
                     simp [List.map_set, keyV])
                   have HM8 : Hid (Mod (fun k => k = g) wr (wr.setCell ⟨g, k2, none⟩ (.int .u8 ((y : Int) % 4)))) := Lib.hid ((Mod.refl (fun k => k = g) wr).setCell (p := ⟨g, k2, none⟩) (fun _ => rfl) _)
                   have HY5 : Hid (∀ z ∈ ys.set k2 (y % 4), z < 4) := Lib.hid (fun z hz => by
                     rcases List.mem_or_eq_of_mem_set hz with h | h
                     · exact HY4.out z h
                     · rw [h]; exact hy4)
                   clear hy4
                   go_wp2
                   go_roundw
                   case rel => exact ⟨k2 + 1, by go_num, by omega, ys.set k2 (y % 4), by rw [List.length_set]; exact HYL.out, HY5.out, HSE.out, HMG.out.trans HM8.out, HMW.out.trans' HM8.out (fun i hi e => by have := HGG.out; have := HM9.out.size; omega), HM5W.out.trans' HM8.out (fun i hi e => by have := HGG.out; omega)⟩
                   case measure => simp [intOf]; omega
                 · have hkmi : ¬ (k2 : Int) < (m : Int) := by omega
                   go_wp2
                   go_roundw
                   case rel => exact ⟨k2 + 1, by go_num, by omega, ys, HYL.out, HY4.out, HYB.out, HMG.out, HMW.out, HM5W.out⟩
                   case measure => simp [intOf]; omega
               · have HW8 : Hid (WRd wr (.slice a3 n3 c3) ws) := Lib.hid (HWS.out.rd.keep ((HJ.out.trans HJ9.out).trans HM5W.out))
                 have HO8 := Lib.hid (row8 HYL.out (by unfold maxLen; omega) HYB.out).rdS
                 have HSM : Hid (gsum ws ys 4 = n3) := Lib.hid (by rw [HNW.out]; exact gsum_all HY4.out (by rw [HYL.out, HNW.out]))
                 have HSL : Hid (∀ j, gsum ws ys j ≤ j * 40) := Lib.hid (fun j => Nat.le_trans (gsum_le ws ys j) (Nat.mul_le_mul_left _ (by rw [← HNW.out]; exact hnw40)))
                 have HGL : Hid (∀ j, (grpL ws ys j).length ≤ 40) := Lib.hid (fun j => Nat.le_trans (grpL_len ws ys j) (by rw [← HNW.out]; exact hnw40))
                 go_wp2_with (go_at_call 30; go_loud (refine (HGR.out ys _ _ _ HW8.out HYL.out HY4.out HO8.out).mono ?_; (rintro e w9 ⟨hm9, b, v0, v1, v2, v3, rfl, hbx, hv0, hv1, hv2, hv3⟩); have HM10 : Hid (Mod (fun _ => False) w w9) := Lib.hid (HMW.out.trans hm9); have HBX := Lib.hid hbx; (have HVS : Hid (∀ j, j < 4 → ∃ v, (#[v0, v1, v2, v3] : Array Value)[j]? = some v ∧ WRd w9 v (grpL ws ys j)) := Lib.hid (fun j hj => match j, hj with | 0, _ => ⟨v0, rfl, hv0⟩ | 1, _ => ⟨v1, rfl, hv1⟩ | 2, _ => ⟨v2, rfl, hv2⟩ | 3, _ => ⟨v3, rfl, hv3⟩)); clear hm9 hbx hv0 hv1 hv2 hv3))
                 go_loopw [130, 21] (fun i s wr => ∃ j : Nat, i = .int .i64 (j : Int) ∧ j ≤ 4 ∧ s = .int .i64 ((gsum ws ys j : Nat) : Int) ∧ wr = w9) (fun i _ _ => 4 - (intOf i).toNat)
                 case atStart => exact ⟨0, rfl, by omega, rfl, rfl⟩
                 case round =>
                   obtain ⟨j4, rfl, hj4, rfl, rfl⟩ := hrel
                   by_cases hj44 : j4 < 4
                   · have hj4i : (j4 : Int) < 4 := by omega
                     obtain ⟨gv, hgv, hgw⟩ := HVS.out j4 hj44
                     have hcb := cell_of_row HBX.out j4
                     rw [hgv] at hcb
                     have zb := lt_of_block HBX.out
                     obtain ⟨agv, cgv, rfl, -⟩ := hgw.row.shape
                     have HGS : Hid (gsum ws ys (j4 + 1) = gsum ws ys j4 + (grpL ws ys j4).length) := Lib.hid rfl
                     have hsl := HSL.out j4
                     have hgl := HGL.out j4
                     generalize gsum ws ys j4 = gs at *
                     generalize (grpL ws ys j4).length = gn at *
                     clear hgv hgw
                     go_wp2
                     go_roundw
                     case rel => exact ⟨j4 + 1, by go_num, by omega, by rw [HGS.out]; go_num, by first | rfl | trivial⟩
                     case measure => simp [intOf]; omega
                   · have hj5 : j4 = 4 := by omega
                     subst hj5
                     rw [HSM.out]
                     go_wp2
                     go_ret
                     exact ⟨rfl, HM10.out⟩
         · have hn0 : n3 = 0 := by rw [HNW.out, HW0.out hck0]; rfl
           have hck1 : ((ck : Int) == 0) = false := by simp; omega
           have hck2 : ¬ (ck : Int) = 0 := by omega
           subst hn0
           go_wp2
           go_ret
           exact ⟨rfl, HMW.out.trans HJ.out⟩
end Go.Proofs.YtlpdifinkcjckaaGreatDoor
