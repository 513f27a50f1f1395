/- ghost.Cuts, walked; its plain law. -/
import Derived.Test.YtdblilhkojafgaaG15
import Derived.Maps.RangeWalk
namespace Go.Proofs.Ytdblilhkojafgaa
set_option linter.unusedVariables false
open Go.RowKit Go.Maps

def cutK (H : Names) (x : Nat) : Bool := ((getG x H).getD []).any (cutB H)
def cutL (H : Names) : List Nat := (H.map (·.1)).filter (cutK H)
theorem Mod.grownNone {w w' : World} (m : Mod (fun _ => False) w w') : w.grownBy w' none := ⟨m.os, m.tape, m.output, m.size, fun i hi _ => m.block i hi (fun f => f)⟩
theorem atKey_val {es : Ents} {x : Nat} {c : Value} (h : ∀ zd, (entsD .u32 es).atKey (.int .u32 (x : Int)) zd = .held c) (hs : (getL x es).isSome = true) : getL x es = some c := by
  obtain ⟨d, hd⟩ := Option.isSome_iff_exists.1 hs
  have := h (.held c)
  rw [entsD_at, hd] at this
  simp only [Option.getD_some] at this
  injection this with this
  rw [hd, this]
theorem List.Nodup.length_le_of_mem9 {l1 l2 : List Nat} (h : l1.Nodup) (hs : ∀ x ∈ l1, x ∈ l2) : l1.length ≤ l2.length := by
  induction l1 generalizing l2 with
  | nil => simp
  | cons x r ih =>
    obtain ⟨h1, h2⟩ := List.nodup_cons.1 h
    have hx : x ∈ l2 := hs x (by simp)
    have := ih (l2 := l2.erase x) h2 (fun y hy => (List.mem_erase_of_ne (fun e => h1 (by rw [← e]; exact hy))).2 (hs y (by simp [hy])))
    rw [List.length_erase_of_mem hx] at this
    have := List.length_pos_of_mem hx
    simp only [List.length_cons]
    omega
theorem walk_cells {w : World} {r : Nat} (h : ∃ o : Obj, w.heap[r]? = some o ∧ o.isWalk = true) : ∃ o : Obj, w.heap[r]? = some o ∧ o.isCells = false := by
  obtain ⟨o, h1, h2⟩ := h
  refine ⟨o, h1, ?_⟩
  cases o <;> first | rfl | exact absurd h2 (by simp [Obj.isWalk])
theorem umap_walk {P : Program} {kt : TypeId} {q : IntKind} {w : World} {b : Nat} {es : Ents} (h : UMap P kt q w b es) : ∃ o, w.heap[b]? = some o ∧ o.isCells = false := by
  obtain ⟨⟨es', clock, hm, _⟩⟩ := h
  exact ⟨_, hm, rfl⟩
theorem rising_nat : ∀ {a b : List Nat}, a.Pairwise (· < ·) → b.Pairwise (· < ·) → (∀ p, p ∈ a ↔ p ∈ b) → a = b := by
  intro a b ha hb h
  have na : a.Nodup := ha.imp (fun h => Nat.ne_of_lt h)
  have nb : b.Nodup := hb.imp (fun h => Nat.ne_of_lt h)
  exact rising_eq hb ((List.perm_ext_iff_of_nodup na nb).2 h) (ha.imp fun h => Nat.le_of_lt h)
theorem filter_snoc (p : Nat → Bool) (l : List Nat) (x : Nat) : (l ++ [x]).filter p = if p x then l.filter p ++ [x] else l.filter p := by
  rw [List.filter_append, List.filter_cons, List.filter_nil]
  cases p x <;> simp

set_option maxRecDepth 100000 in
set_option maxHeartbeats 2000000 in
theorem cuts_any (v : Value) (l : List Vs) (w : World) (hv : LRd w v l) (hw : wt l < 999999) :
    Calls Try.prog 22 #[v] w fun e w' => ∃ vo, e = .returned vo ∧ SegN w w' vo (cutL (turnAll l)) := by
  have HO := Lib.hid (tof_any v l w hv hw)
  obtain ⟨a, c, rfl, -⟩ := hv.row.shape
  have HWT := Lib.hid hw
  clear hv hw
  generalize l.length = n0 at HO ⊢
  obtain ⟨i0, hi, hz0, hz1, hz2⟩ := info_parts infoU32
  have HI : Hid (Try.prog.info? 27 = some i0 ∧ i0.zero = some (.int .u32 0) ∧ i0.size = 1 ∧ i0.bytes = 4) := ⟨hi, hz0, hz1, hz2⟩
  clear hi hz0 hz1 hz2
  go_enter Try.func22, Try.ntmps22
  go_upto_region 3 with (go_at_call 46; refine HO.out.mono ?_; (rintro e w1 ⟨g, bh, bn, rfl, ho⟩); have HO1 := Lib.hid ho; clear ho)
  obtain ⟨W0, hW0⟩ : ∃ W0, W0 = w1.alloc (.cells #[.pointer (some ⟨g, 0, none⟩)] 71) := ⟨_, rfl⟩
  obtain ⟨Z, en, hT1, hH⟩ := HO1.out.tal
  have hm0 : Mod (fun _ => False) w1 W0 := by rw [hW0]; exact (Mod.refl _ _).alloc _
  have hT := hT1.keep hm0
  have HMW := Lib.hid (HO1.out.mod.trans hm0)
  have hbx : W0.heap[w1.heap.size]? = some (.cells #[.pointer (some ⟨g, 0, none⟩)] 71 (0, 0)) := by rw [hW0]; exact heap_alloc_new' w1 _
  have HPT : Hid (PtAt W0 w1.heap.size g bh bn (turnAll l) (wt l)) := Lib.hid ⟨⟨Z, en, hT, hH⟩, hbx⟩
  have HTT := Lib.hid hT
  have HHH := Lib.hid hH
  have c0 := cell_of_row hbx 0
  have d0 := cell_of_row hT.box 0
  have d1 := cell_of_row hT.box 1
  simp at c0 d0 d1
  have hown := hT.held.own
  have HRI := Lib.hid (UMap.rising hT.held (int_keyed Try.underlying27))
  rw [← hW0]
  clear hW0 hT1 hm0 hT hbx hH HO HO1
  go_wp2_with (first
    | (at_range; refine wpList_range_own _ rfl _ 108 rfl 27 50 (int_keyed Try.underlying27) Try.underlying108 _ bh (entsZ Z).length _ rfl hown ?_; intro w0 hrg0 hg0 hs0)
    | go_in)
  go_frame
  go_loopw [4] (fun o wr => ∃ (left : Lit → Bool) (cnt : Nat) (ss : List Nat), wr.ranges Try.prog 27 rawE bh W0.heap.size (entsZ Z).length (entsD .u32 (entsZ Z)) left cnt ∧ CollU .u32 (entsZ Z) left ss ∧ SegN W0 wr o (ss.filter (cutK (turnAll l))) ∧ ss.length ≤ (entsZ Z).length)
    (fun _ wr => wr.rangeLeft bh W0.heap.size)
  case atStart => exact ⟨_, _, [], hrg0, CollU.start _ _, SegN.nil ((Mod.refl _ _).grown hg0 (fun b hb _ => by cases hb)), by simp⟩
  case round =>
    obtain ⟨left, cnt, ss, hrg, hC, hS, hlen⟩ := hrel
    go_wp2_with (first
      | (at_next; refine wpList_next_ranges _ rfl _ rfl 27 (int_keyed Try.underlying27) rawE (keyV .u32) id (fun key kl hk => by obtain ⟨x, hx, _⟩ := key_nat (by simp) Try.underlying27 hk; exact ⟨x, hx⟩) (fun v _ _ => ⟨v, rfl⟩) bh W0.heap.size (entsZ Z).length _ _ _ rfl hrg ?_ ?_)
      | go_in)
    · intro hc0 hl0
      have HPM : Hid ((ss.filter (cutK (turnAll l))).Perm (cutL (turnAll l))) := Lib.hid (by
        have hp := hC.perm HRI.out hl0
        have e : (entsZ Z).map (·.1) = (turnAll l).map (·.1) := by
          rw [← HHH.out]
          simp [entsZ, namesZ, mapG, Function.comp_def]
        rw [e] at hp
        exact hp.filter _)
      have HCR : Hid ((cutL (turnAll l)).Pairwise (· < ·)) := Lib.hid (by
        unfold cutL
        refine List.Pairwise.filter _ ?_
        rw [List.pairwise_map]
        exact turnAll_ris l)
      have HSS := Lib.hid hS
      have HSO := Lib.hid (sortSeg_any u4 (ss.filter (cutK (turnAll l))) wr hS.seg (by
        have h1 := List.length_filter_le (cutK (turnAll l)) ss
        have h2 : (entsZ Z).length = Z.length := by simp [entsZ, mapG]
        have h3 := HTT.out.zlen
        have h4 := HWT.out
        omega))
      obtain ⟨a4, cs, hvs, -⟩ := hS.seg.shape
      clear hS hrg hC hrg0 hown hc0 hl0
      generalize (ss.filter (cutK (turnAll l))) = outs at *
      subst hvs
      go_wp2_with (go_at_call 52; refine HSO.out.mono ?_; (rintro e w4 ⟨rfl, ts, h1, h2, h3, h4⟩); have HT := Lib.hid (And.intro h1 (And.intro h2 (And.intro h3 h4))); clear h1 h2 h3 h4)
      go_ret
      obtain ⟨h1, h2, h3, h4⟩ := HT.out
      have e := rising_eq HCR.out (h1.trans HPM.out) h2
      have hm := HSS.out.more h1.length_eq h3 h4
      rw [e] at hm
      exact ⟨_, rfl, hm.seg, fun b hb => Nat.le_trans HMW.out.size (hm.own b hb), HMW.out.trans hm.mod⟩
    · intro x c kl yd yp w2 cnt2 hkey hlk hv hat hrg2 hlt hg2 hs2 hen
      obtain ⟨x', ex, rfl, _⟩ := key_nat (by simp) Try.underlying27 hkey
      obtain rfl : x = x' := keyV_inj ex
      have hy : yd = DataW.held c := by
        have h : some ((DataW.held c, []) : DataW Value × List MemPlace) = some (yd, yp) := hv
        injection h with h
        injection h with h1 h2
        exact h1.symm
      subst hy
      have hC2 := hC.step hlk hat
      have hhas : (getL x (entsZ Z)).isSome = true := by rw [← entsD_has .u32]; exact has_true_of_atKey hat
      have hgc := atKey_val hat hhas
      rw [getL_entsZ] at hgc
      obtain ⟨bz, hbz, hb1⟩ := Option.map_eq_some_iff.1 hgc
      obtain ⟨c', fars⟩ := bz
      simp only at hb1
      subst hb1
      have hseg := HTT.out.seg _ (getG_mem hbz)
      have HCK : Hid (cutK (turnAll l) x = fars.any (cutB (turnAll l))) := Lib.hid (by
        unfold cutK
        rw [← HHH.out, getG_namesZ, hbz]
        rfl)
      have hsg2 : SegN W0 w2 u4 (ss.filter (cutK (turnAll l))) := ⟨hS.seg.grown hg2 (fun r e => by cases e; exact walk_cells hrg.iter_walk), hS.own, hS.mod.grown hg2 (fun b hb hlt => by injection hb with hb; omega)⟩
      have HS2 := Lib.hid hsg2
      have HCF := Lib.hid (contU_any c' fars w1.heap.size g bh bn (turnAll l) (wt l) w2 (hseg.rd.keep hsg2.mod) hseg.fit (HPT.out.keep hsg2.mod))
      have hlen2 : (ss ++ [x]).length ≤ (entsZ Z).length := by
        have hk := hC2.1
        have h9 := List.Nodup.length_le_of_mem9 hk (l2 := (entsZ Z).map (·.1)) (fun y hy => (mem_keys _ _).2 ((hC2.2 y).1 hy).1)
        rwa [List.length_map] at h9
      have HLEN := Lib.hid hlen2
      have HOL : Hid ((ss.filter (cutK (turnAll l))).length ≤ 999999) := Lib.hid (by
        have h1 := List.length_filter_le (cutK (turnAll l)) ss
        have h2 : (entsZ Z).length = Z.length := by simp [entsZ, mapG]
        have h3 := HTT.out.zlen
        have h4 := HWT.out
        omega)
      have HC2 := Lib.hid hC2
      have HRG2 := Lib.hid hrg2
      have HLT : Hid (cnt2 < wr.rangeLeft bh W0.heap.size) := Lib.hid (by rw [hrg.left_eq]; exact hlt)
      have HFS := Lib.hid (filter_snoc (cutK (turnAll l)) ss x)
      obtain ⟨ac, cc, hce, -⟩ := hseg.rd.shape
      simp only at hce
      subst hce
      obtain ⟨a4, cs, rfl, -⟩ := hS.seg.shape
      have c0 := HS2.out.mod.cell c0
      clear hS hrg hC hrg0 hown hg2 hg0 hs0 hs2 hC2 hrg2 hsg2 hkey hlk hv hat hhas hgc hbz hseg hlt hlen2 hlen ex
      simp only [keyV] at hen
      generalize fars.any (cutB (turnAll l)) = q at HCF HCK
      rw [HCK.out] at HFS
      generalize ss.filter (cutK (turnAll l)) = outs at *
      obtain ⟨no, hno⟩ : ∃ no, no = outs.length := ⟨_, rfl⟩
      have HNO := Lib.hid hno
      rw [← hno] at HOL HS2 ⊢
      clear hno
      cases q with
      | false =>
        go_wp2_with (go_at_call 50; refine HCF.out.mono ?_; (rintro e w5 ⟨rfl, hm⟩); have HM5 := Lib.hid hm; clear hm)
        go_roundw
        case rel => exact ⟨_, cnt2, ss ++ [x], HRG2.out.kept HM5.out.grownNone (by simp) (by simp), HC2.out, by rw [HFS.out]; exact HS2.out.keep HM5.out, HLEN.out⟩
        case measure => rw [(HRG2.out.kept HM5.out.grownNone (by simp) (by simp)).left_eq]; exact HLT.out
      | true =>
        have HRK : Hid (∀ w5 : World, Mod (fun _ => False) w2 w5 → Seg (w5.alloc (.cells #[.int .u32 (x : Int)] 27)) 27 1 (.slice a4 no cs) no (outs.map (keyV .u32)) → ∀ w3 : World, (w5.alloc (.cells #[.int .u32 (x : Int)] 27)).grownBy w3 (Value.slice a4 no cs).ownBlock → w3.ranges Try.prog 27 rawE bh W0.heap.size (entsZ Z).length (entsD .u32 (entsZ Z)) (fun z => left z && !z.sameKey (.int .u32 (x : Int))) cnt2) := Lib.hid (fun w5 hm5 hsg w3 hg3 => by
          have hr5 := (HRG2.out.kept hm5.grownNone (by simp) (by simp)).alloc (.cells #[.int .u32 (x : Int)] 27)
          refine hr5.kept hg3 (fun e => ?_) (fun e => ?_)
          · obtain ⟨o, ho, hc⟩ := hsg.own_cells bh e.symm
            have hmap := ((HTT.out.held.keep (HS2.out.mod.trans hm5)).keep ((Mod.refl (fun _ => False) w5).alloc (.cells #[.int .u32 (x : Int)] 27)))
            obtain ⟨o', ho', hc'⟩ := umap_walk hmap
            rw [ho] at ho'; cases ho'; rw [hc] at hc'; cases hc'
          · obtain ⟨o, ho, hc⟩ := hsg.own_cells _ e.symm
            obtain ⟨o', ho', hc'⟩ := walk_cells hr5.iter_walk
            rw [ho] at ho'; cases ho'; rw [hc] at hc'; cases hc')
        have HSF := Lib.hid (fun w1 => src_cells (w := w1) rfl (size := 1) 27 #[.int .u32 (x : Int)] rfl (by simp [Value.oneCell']))
        go_wp2_with (first
          | (go_at_call 50; refine HCF.out.mono ?_; (rintro e w5 ⟨rfl, hm⟩); have HM5 := Lib.hid hm; have HS5 := Lib.hid (HS2.out.keep hm); have HRW : Hid (Seg (w5.alloc (.cells #[.int .u32 (x : Int)] 27)) 27 1 (.slice a4 no cs) no (outs.map (keyV .u32))) := Lib.hid (by have h := HS5.out.seg.alloc (.cells #[.int .u32 (x : Int)] 27); rwa [← HNO.out] at h); clear hm)
          | (at_builtin; refine wpList_append_seg rfl (.tmp 22) (.tmp 24) 50 rfl i0 _ 1 4 Try.underlying50 HI.out.1 HI.out.2.1 HI.out.2.2.1 HI.out.2.2.2 rfl (by decide) rfl HRW.out _ 1 _ rfl (HSF.out w5) (by have := HOL.out; unfold maxLen; omega) (by have := HOL.out; omega) ?_; intro v3 w3 hs3 hg3 ho3; have H3 := Lib.hid (HS5.out.snoc (k := x) (by rw [← HNO.out]; exact hs3) hg3 ho3);
             have HR3 := Lib.hid (HRK.out w5 HM5.out HRW.out w3 hg3);
             (obtain ⟨a3, c3, n3, rfl⟩ : ∃ a c n, v3 = .slice a n c := (by obtain ⟨a, c, e, _⟩ := hs3.shape; exact ⟨_, _, _, e⟩)); clear hs3 hg3 ho3))
        go_roundw
        case rel => exact ⟨_, cnt2, ss ++ [x], HR3.out, HC2.out, by rw [HFS.out]; exact H3.out, HLEN.out⟩
        case measure => rw [HR3.out.left_eq]; exact HLT.out

/-- Who has a half that leads elsewhere: the document's. -/
theorem cutL_ref (l : List Vs) : cutL (turnAll l) = cuAll (heldL l) (heldL l) := by
  have h1 : (cutL (turnAll l)).Pairwise (· < ·) := by
    unfold cutL
    refine List.Pairwise.filter _ ?_
    rw [List.pairwise_map]
    exact turnAll_ris l
  refine rising_nat h1 (cuAll_rising _ _) (fun p => ?_)
  rw [cuAll_mem]
  unfold cutL
  rw [List.mem_filter, List.mem_map]
  have cut : ∀ s ∈ heldL l, ∀ f ∈ keysS s, (cutB (turnAll l) f = true ↔ holdB (heldL l) f = false) := fun s hs f hf => by
    unfold cutB ofC
    rw [decide_eq_true_eq, ← get_held]
    have ht : 0 < tot (turnAll l) f := by rw [tot_held]; exact (cntS_pos _ _).2 ⟨s, hs, hf⟩
    cases hg : getG f (turnAll l) with
    | none => simp [ht]
    | some b => simp
  constructor
  · rintro ⟨⟨q, hq, rfl⟩, hc⟩
    obtain ⟨s, hs, rfl⟩ := (mem_turnAll l q).1 hq
    unfold cutK at hc
    rw [getG_of_mem (turnAll_ris l) hq] at hc
    obtain ⟨f, hf, hcf⟩ := List.any_eq_true.1 hc
    exact ⟨s, hs, rfl, f, hf, (cut s hs f hf).1 hcf⟩
  · rintro ⟨s, hs, rfl, f, hf, hh⟩
    have hm := (mem_turnAll l (s.x.id, keysS s)).2 ⟨s, hs, rfl⟩
    refine ⟨⟨_, hm, rfl⟩, ?_⟩
    unfold cutK
    rw [getG_of_mem (turnAll_ris l) hm]
    exact List.any_eq_true.2 ⟨f, hf, (cut s hs f hf).2 hh⟩
end Go.Proofs.Ytdblilhkojafgaa
