/- T8, T9, T10, T11, T12 in one. -/
import Derived.Test.YtdblilhkojafgaaTB
import Derived.Test.YtdblilhkojafgaaVF
import Derived.Test.YtdblilhkojafgaaA
import Derived.Test.YtdblilhkojafgaaVG

/- ghost.Count: the ghosts of a list, said without a map. -/
namespace Go.Proofs.Ytdblilhkojafgaa
set_option linter.unusedVariables false
open Go.RowKit Go.Maps

/-- The ghosts: whoever is named and not held, rising, with how often. -/
def GhostsOf (H : Names) (l : List (Nat × Nat)) : Prop := (l.Pairwise fun x y => x.1 < y.1) ∧ ∀ k n, (k, n) ∈ l ↔ (getG k H = none ∧ 0 < n ∧ n = tot H k)
theorem rising_ext : ∀ {a b : List (Nat × Nat)}, (a.Pairwise fun x y => x.1 < y.1) → (b.Pairwise fun x y => x.1 < y.1) → (∀ p, p ∈ a ↔ p ∈ b) → a = b
  | [], b, _, _, h => by
    cases b with
    | nil => rfl
    | cons y r => exact absurd ((h y).2 (by simp)) (by simp)
  | x :: r, [], _, _, h => absurd ((h x).1 (by simp)) (by simp)
  | x :: r, y :: s, ha, hb, h => by
    obtain ⟨h1, h2⟩ := List.pairwise_cons.1 ha
    obtain ⟨h3, h4⟩ := List.pairwise_cons.1 hb
    have e : x = y := by
      rcases List.mem_cons.1 ((h x).1 (by simp)) with e | hx
      · exact e
      · rcases List.mem_cons.1 ((h y).2 (by simp)) with e | hy
        · exact e.symm
        · have := h3 x hx
          have := h1 y hy
          omega
    subst e
    have hr : r = s := rising_ext h2 h4 (fun p => by
      constructor
      · intro hp
        rcases List.mem_cons.1 ((h p).1 (by simp [hp])) with e | hp'
        · have := h1 p hp
          rw [e] at this; omega
        · exact hp'
      · intro hp
        rcases List.mem_cons.1 ((h p).2 (by simp [hp])) with e | hp'
        · have := h3 p hp
          rw [e] at this; omega
        · exact hp')
    rw [hr]
theorem GhostsOf.uniq {H : Names} {a b : List (Nat × Nat)} (ha : GhostsOf H a) (hb : GhostsOf H b) : a = b :=
  rising_ext ha.1 hb.1 (fun p => by obtain ⟨k, n⟩ := p; rw [ha.2, hb.2])
theorem names_lt {w : World} {g bh bn : Nat} {Z : Zs} {en : Ents} {c : Nat → Nat} {m : Nat} (hT : TAt w g bh bn Z en c m) {k : Nat} (hk : 4294967296 ≤ k) : tot (namesZ Z) k = 0 := by
  unfold tot
  rw [List.count_eq_zero]
  intro hm
  obtain ⟨p, hp, hf⟩ := List.mem_flatMap.1 hm
  obtain ⟨z, hz, rfl⟩ := List.mem_map.1 hp
  have := (hT.seg z hz).fit k hf
  omega
theorem u32_wf {x : Nat} (h : (Lit.int .u32 (x : Int)).wf = true) : x < 4294967296 := by
  have e3 : IntKind.u32.max = 4294967295 := rfl
  simp [Lit.wf] at h
  omega
set_option maxRecDepth 100000 in
theorem key_lt {w : World} {b : Nat} {en : Ents} (hU : UMap Try.prog 27 .u32 w b en) {k : Nat} (hk : k ∈ en.map (·.1)) : k < 4294967296 := by
  obtain ⟨p, hp, rfl⟩ := List.mem_map.1 hk
  obtain ⟨es', hD', hko⟩ := hU.own.keysOf
  have e : es' = en.map fun p => ((.int .u32 (p.1 : Int) : Lit), (.held p.2 : DataW Value)) := by
    unfold entsD at hD'; injection hD' with hD'; exact hD'.symm
  obtain ⟨v, hv⟩ := hko (.int .u32 (p.1 : Int), .held p.2) (by rw [e]; exact List.mem_map.2 ⟨p, hp, rfl⟩)
  obtain ⟨x, -, h2, h3⟩ := key_nat (by simp) Try.underlying27 hv
  have e2 : p.1 = x := by injection h2 with _ h2; omega
  rw [e2]
  exact u32_wf h3
set_option maxRecDepth 100000 in
theorem glist_ghosts {w : World} {g bh bn : Nat} {Z : Zs} {en : Ents} {m : Nat} (hT : TAt w g bh bn Z en (tot (namesZ Z)) m) : GhostsOf (namesZ Z) (glist (namesZ Z) (tot (namesZ Z)) (en.map (·.1))) := by
  refine ⟨?_, fun k n => ?_⟩
  · unfold glist
    rw [List.pairwise_map]
    refine List.Pairwise.filter _ ?_
    rw [List.pairwise_map]
    exact UMap.rising hT.named (int_keyed Try.underlying27)
  · unfold glist
    rw [List.mem_map]
    constructor
    · rintro ⟨a, ha, e⟩
      injection e with e1 e2
      subst e1; subst e2
      obtain ⟨h1, h2⟩ := List.mem_filter.1 ha
      have hlt := key_lt hT.named h1
      refine ⟨by simpa using h2, ?_, rfl⟩
      have h3 := (mem_keys en a).1 h1
      rw [hT.cnt a hlt] at h3
      rcases Nat.eq_zero_or_pos (tot (namesZ Z) a) with h4 | h4
      · rw [if_pos h4] at h3; cases h3
      · exact h4
    · rintro ⟨h1, h2, h3⟩
      refine ⟨k, List.mem_filter.2 ⟨?_, by simp [h1]⟩, by rw [h3]⟩
      have hlt : k < 4294967296 := by
        rcases Nat.lt_or_ge k 4294967296 with h | h
        · exact h
        · have := names_lt hT h; omega
      rw [mem_keys, hT.cnt k hlt, if_neg (by omega)]; rfl

set_option maxRecDepth 100000 in
theorem count_any (v : Value) (l : List Vs) (w : World) (hv : LRd w v l) (hw : wt l < 999999) :
    Calls Try.prog 16 #[v] w fun e w' => ∃ vo gl, e = .returned vo ∧ SegP 60 w vo gl w' ∧ GhostsOf (turnAll l) gl := by
  have HO := Lib.hid (tof_any v l w hv hw)
  obtain ⟨a, c, rfl, -⟩ := hv.row.shape
  have HW := Lib.hid hw
  clear hv hw
  generalize l.length = n at HO ⊢
  go_enter Try.func16, Try.ntmps16
  go_wp2_with (first
    | (go_at_call 46; refine HO.out.mono ?_; (rintro e w1 ⟨g, bh, bn, rfl, ho⟩); have HO1 := Lib.hid ho; clear ho; (obtain ⟨Z, en, hT, hH⟩ := HO1.out.tal); have HL := Lib.hid (tlist_any g bh bn Z en _ _ w1 hT HW.out); have HGH := Lib.hid (glist_ghosts hT); have HH := Lib.hid hH; clear hT hH)
    | (go_at_call 28; refine HL.out.mono ?_; (rintro e w2 ⟨vo, rfl, hp⟩); have HP := Lib.hid hp; clear hp))
  go_ret
  exact ⟨vo, _, rfl, ⟨HP.out.seg, fun b hb => Nat.le_trans HO1.out.mod.size (HP.out.own b hb), HO1.out.mod.trans HP.out.mod⟩, HH.out ▸ HGH.out⟩
end Go.Proofs.Ytdblilhkojafgaa

/- gussetlaw12.ghosts, gussetref12.Same. -/
namespace Go.Proofs.Ytdblilhkojafgaa
set_option linter.unusedVariables false
open Go.RowKit

theorem pair_ent {w : World} {v : Value} {l : List (Nat × Nat)} {n : Nat} (h : RdS w 2 v n (gcells l)) {i : Nat} {x : Nat × Nat} (hi : l[i]? = some x) {a : Option Addr} {m c : Nat} (e : v = .slice a m c) :
    ∃ b off, a = some ⟨b, off, none⟩ ∧ b < w.heap.size ∧ w.cell? ⟨b, off + i * 2, none⟩ = some (.int .u32 (x.1 : Int)) ∧ w.cell? ⟨b, off + i * 2 + 1, none⟩ = some (.int .i64 (x.2 : Int)) := by
  obtain ⟨g0, g1⟩ := gcells_get l i x hi
  obtain ⟨a', c', e', -⟩ := h.shape
  rw [e] at e'
  injection e' with e1 e2 e3
  rw [e2] at e
  obtain ⟨b, off, ea, hb, h0⟩ := h.cell a c e (i * 2) _ g0
  obtain ⟨b1, off1, ea1, _, h1⟩ := h.cell a c e (i * 2 + 1) _ g1
  rw [ea] at ea1
  injection ea1 with e1; injection e1 with e1 e1'
  subst e1 e1'
  exact ⟨b, off, ea, hb, h0, by rw [Nat.add_assoc]; exact h1⟩
theorem infoRG : (Try.prog.info? 75).map (fun i => (i.zero, i.size, i.bytes)) = some (some (.agg #[.int .u32 0, .int .i64 0]), 2, 16) := by kernel_rfl

set_option maxRecDepth 100000 in
set_option maxHeartbeats 1000000 in
theorem ghosts_any (v : Value) (l : List (Nat × Nat)) (w : World) (hv : RdS w 2 v l.length (gcells l)) (hn : l.length ≤ 1000000) :
    Calls Try.prog 19 #[v] w fun e w' => ∃ vo, e = .returned vo ∧ SegP 75 w vo l w' := by
  have HV := Lib.hid hv
  obtain ⟨a, c, rfl, hc1, hc2, -⟩ := hv.shape
  clear hv
  obtain ⟨n, hl⟩ : ∃ n, n = l.length := ⟨_, rfl⟩
  have HN := Lib.hid hl
  rw [← hl] at HV hc1 hn ⊢
  clear hl
  obtain ⟨i0, hi, hz0, hz1, hz2⟩ := info_parts infoRG
  have HI : Hid (Try.prog.info? 75 = some i0 ∧ i0.zero = some (.agg #[.int .u32 0, .int .i64 0]) ∧ i0.size = 2 ∧ i0.bytes = 16) := ⟨hi, hz0, hz1, hz2⟩
  clear hi hz0 hz1 hz2
  go_enter Try.func19, Try.ntmps19
  go_wp2
  go_loopw [8, 3] (fun i o wr => ∃ k : Nat, i = .int .i64 k ∧ k ≤ n ∧ SegP 75 w o (l.take k) wr) (fun i _ _ => n - (intOf i).toNat)
  case atStart => exact ⟨0, rfl, Nat.zero_le _, SegP.nil _ (Mod.refl _ _)⟩
  case round =>
    obtain ⟨k, rfl, hk, hm⟩ := hrel
    have HM := Lib.hid hm
    clear hm
    obtain ⟨av, cv, nv, hvv⟩ : ∃ ao co no, u3 = .slice ao no co := by
      obtain ⟨a, c, e, _⟩ := HM.out.seg.shape
      exact ⟨_, _, _, e⟩
    subst hvv
    by_cases hkn : k < n
    · obtain ⟨x, hx⟩ : ∃ x, l[k]? = some x := ⟨_, List.getElem?_eq_getElem (by rw [← HN.out]; exact hkn)⟩
      obtain ⟨b, off, rfl, hb, p0, p1⟩ := pair_ent HV.out hx rfl
      have p0 := HM.out.mod.cell p0
      have p1 := HM.out.mod.cell p1
      have HT := Lib.hid (take_snoc hx)
      have HTL : Hid ((l.take k).length = k) := Lib.hid (by rw [List.length_take, ← HN.out]; omega)
      obtain ⟨rv, rn⟩ := x
      simp only at p0 p1
      have HJ := Lib.hid (HM.out.keep ((Mod.refl (fun _ => False) wr).alloc (.cells #[.int .u32 (rv : Int), .int .i64 (rn : Int)] 60)))
      have HA := Lib.hid (HJ.out.seg.alloc (.cells #[.int .u32 (rv : Int), .int .i64 (rn : Int)] 75))
      have HS := Lib.hid (src_cells (w := wr.alloc (.cells #[.int .u32 (rv : Int), .int .i64 (rn : Int)] 60)) (n0 := wr.heap.size + 1) (size := 2) (by simp) 75 #[.int .u32 (rv : Int), .int .i64 (rn : Int)] rfl (by simp [Value.oneCell']))
      clear hx hb
      go_wp2_with (at_builtin; refine wpList_append_seg rfl (.tmp 12) (.tmp 14) 64 rfl i0 _ 2 16 Try.underlying64 HI.out.1 HI.out.2.1 HI.out.2.2.1 HI.out.2.2.2 rfl (by decide) rfl HA.out _ 1 _ rfl HS.out (by have := HTL.out; unfold maxLen; omega) (by have := HTL.out; omega) ?_; (intro v3 w3 hs3 hg3 ho3)
                   have H3 := Lib.hid (HJ.out.snoc (p := (rv, rn)) hs3 hg3 ho3)
                   obtain ⟨a3, n3, c3, rfl⟩ : ∃ a n c, v3 = .slice a n c := (by obtain ⟨a, c, e, _⟩ := hs3.shape; exact ⟨_, _, _, e⟩)
                   clear hs3 hg3 ho3)
      go_roundw
      case rel => exact ⟨k + 1, by go_num, by omega, by rw [HT.out]; exact H3.out⟩
      case measure => simp [intOf]; omega
    · have HT : Hid (l.take k = l) := Lib.hid (by rw [List.take_of_length_le (by have := HN.out; omega)])
      rw [HT.out] at HM
      go_wp2
      go_ret
      exact ⟨_, rfl, HM.out⟩
end Go.Proofs.Ytdblilhkojafgaa

/- gussetlaw12.vertex; gussetref12.Same; gussetlaw12.awake. -/
namespace Go.Proofs.Ytdblilhkojafgaa
set_option linter.unusedVariables false
open Go.RowKit

set_option maxRecDepth 100000 in
set_option maxHeartbeats 1000000 in
theorem vertex12_any (id : Nat) (v : Value) (fs : List Nat) (w : World) (hid : id < 4294967296) (hf : ∀ f ∈ fs, f < 4294967296) (hv : RdS w 1 v fs.length (fs.map fun f : Nat => .int .u32 (f : Int))) (hn : fs.length ≤ 1000) :
    Calls Try.prog 40 #[.int .u32 (id : Int), v] w fun e w' => ∃ vh, e = .returned (.agg #[.int .u32 (id : Int), .bool true, .slice none 0 0, vh]) ∧ Mod (fun _ => False) w w' ∧ VNew w w' (.slice none 0 0) vh ⟨id, true, [], fs.map farE⟩ := by
  have HV := Lib.hid hv
  have HID := Lib.hid hid
  have HFF := Lib.hid hf
  obtain ⟨a, c, rfl, hc1, hc2, -⟩ := hv.shape
  clear hv hid hf
  obtain ⟨n, hl⟩ : ∃ n, n = fs.length := ⟨_, rfl⟩
  have HN := Lib.hid hl
  rw [← hl] at HV hc1 hn ⊢
  clear hl
  obtain ⟨i0, hi, hz0, hz1, hz2⟩ := info_parts infoHalf
  have HI : Hid (Try.prog.info? 96 = some i0 ∧ i0.zero = some (.agg #[.int .u32 0, .int .u8 0, .int .i64 0, zval]) ∧ i0.size = 4 ∧ i0.bytes = 40) := ⟨hi, hz0, hz1, hz2⟩
  clear hi hz0 hz1 hz2
  go_enter Try.func40, Try.ntmps40
  go_wp2
  go_loopw [12] (fun i wr => ∃ k vh, i = .int .i64 (k : Nat) ∧ k ≤ n ∧ VxAt w id vh ((fs.take k).map farE) wr) (fun i _ => n - (intOf i).toNat)
  case atStart => exact ⟨0, _, rfl, Nat.zero_le _, VxAt.begin w id⟩
  case round =>
    obtain ⟨k, vh, rfl, hk, hm⟩ := hrel
    have HM := Lib.hid hm
    clear hm
    obtain ⟨av, cv, nv, hvv⟩ : ∃ ao co no, vh = .slice ao no co := by
      obtain ⟨a, c, e, _⟩ := HM.out.seg.shape
      exact ⟨_, _, _, e⟩
    subst hvv
    have e0 := cell_of_row HM.out.box 0
    have e1 := cell_of_row HM.out.box 1
    have e2 := cell_of_row HM.out.box 2
    have e3 := cell_of_row HM.out.box 3
    simp at e0 e1 e2 e3
    have zb := lt_of_block HM.out.box
    by_cases hkn : k < n
    · obtain ⟨f, hf⟩ : ∃ f, fs[k]? = some f := ⟨_, List.getElem?_eq_getElem (by rw [← HN.out]; exact hkn)⟩
      obtain ⟨b, off, rfl, hb, p0⟩ := RdS.one HV.out (i := k) (x := .int .u32 (f : Int)) (by simp [hf]) rfl
      have p0 := HM.out.mod.cell p0
      have HT : Hid ((fs.take (k + 1)).map farE = (fs.take k).map farE ++ [farE f]) := Lib.hid (by
        obtain ⟨h1, h2⟩ := List.getElem?_eq_some_iff.1 hf
        rw [List.take_succ_eq_append_getElem h1, h2]; simp)
      have HJ := Lib.hid (HM.out.more ((Mod.refl (fun _ => False) wr).alloc (.cells #[.int .u32 (f : Int), .int .u8 0, .int .i64 0, zval] 96)))
      have HS := Lib.hid (src_cells (w := wr) (size := 4) rfl 96 #[.int .u32 (f : Int), .int .u8 0, .int .i64 0, zval] rfl (by simp [Value.oneCell', zval]))
      have HL : Hid (((fs.take k).map farE).length + 1 ≤ 1001) := Lib.hid (by simp; omega)
      simp only [zval] at HJ HS
      clear hf
      go_wp2_with (at_builtin; refine wpList_append_seg rfl (.tmp 17) (.tmp 20) 29 rfl i0 _ 4 40 Try.underlying29 HI.out.1 HI.out.2.1 HI.out.2.2.1 HI.out.2.2.2 rfl (by decide) rfl HJ.out.seg _ 1 _ rfl HS.out (by have := HL.out; unfold maxLen; omega) (by have := HL.out; omega) ?_; intro v3 w3 hs3 hg3 ho3; (obtain ⟨h3, hb3⟩ := HJ.out.app (farE f) hs3 hg3 ho3); have H3 := Lib.hid h3; have b0 := cell_of_row hb3 0; have b3 := cell_of_row hb3 3; have f3 := free_of_row hb3 3; simp at b0 b3; (obtain ⟨a3, c3, n3, rfl⟩ : ∃ a c n, v3 = .slice a n c := (by obtain ⟨a, c, e, _⟩ := hs3.shape; exact ⟨_, _, _, e⟩)); clear hs3 hg3 ho3 h3 hb3)
      go_roundw
      case rel => exact ⟨k + 1, _, by go_num, by omega, by rw [HT.out]; exact H3.out⟩
      case measure => simp [intOf]; omega
    · have HT : Hid ((fs.take k).map farE = fs.map farE) := Lib.hid (by rw [List.take_of_length_le (by have := HN.out; omega)])
      rw [HT.out] at HM
      have r0 := cell_of_row HM.out.ret 0
      have r1 := cell_of_row HM.out.ret 1
      have r2 := cell_of_row HM.out.ret 2
      have r3 := cell_of_row HM.out.ret 3
      have f0 := free_of_row HM.out.ret 0
      have f1 := free_of_row HM.out.ret 1
      have f2 := free_of_row HM.out.ret 2
      have f3 := free_of_row HM.out.ret 3
      simp at r0 r1 r2 r3
      have zr := lt_of_block HM.out.ret
      have HFIN : Hid (∀ u0 u1 u2 u3 : Value, Mod (fun _ => False) w ((((wr.setCell ⟨w.heap.size, 0, none⟩ u0).setCell ⟨w.heap.size, 1, none⟩ u1).setCell ⟨w.heap.size, 2, none⟩ u2).setCell ⟨w.heap.size, 3, none⟩ u3) ∧ VNew w ((((wr.setCell ⟨w.heap.size, 0, none⟩ u0).setCell ⟨w.heap.size, 1, none⟩ u1).setCell ⟨w.heap.size, 2, none⟩ u2).setCell ⟨w.heap.size, 3, none⟩ u3) (.slice none 0 0) (.slice av nv cv) ⟨id, true, [], fs.map farE⟩) := Lib.hid (by
        intro u0 u1 u2 u3
        have m4 : Mod (fun k => k = w.heap.size) wr ((((wr.setCell ⟨w.heap.size, 0, none⟩ u0).setCell ⟨w.heap.size, 1, none⟩ u1).setCell ⟨w.heap.size, 2, none⟩ u2).setCell ⟨w.heap.size, 3, none⟩ u3) :=
          ((((Mod.refl (fun k => k = w.heap.size) wr).setCell (fun _ => rfl) u0).setCell (fun _ => rfl) u1).setCell (fun _ => rfl) u2).setCell (fun _ => rfl) u3
        refine ⟨HM.out.mod.trans' m4 (fun i hi e => by omega), ⟨HID.out, by simp, ?_⟩, Seg.nil _ _ _, HM.out.seg.mod m4 (fun b hb e => by have := HM.out.own b hb; omega), fun b hb => by simp [Value.ownBlock] at hb, fun b hb => by have := HM.out.own b hb; omega⟩
        intro p hp
        simp only [List.mem_map] at hp
        obtain ⟨f, hf, rfl⟩ := hp
        exact ⟨HFF.out f hf, (show (0 : Nat) < 256 by omega), (show (-9223372036854775808 : Int) ≤ 0 ∧ (0 : Int) < 9223372036854775808 by omega), Nat.zero_le _⟩)
      go_wp2
      exact bodyPost_ret (v := .agg #[.int .u32 (id : Int), .bool true, .slice none 0 0, .slice av nv cv]) (by simp [results, Try.results40, go_sem, r0, r1, r2, r3]) rfl ⟨_, rfl, (HFIN.out _ _ _ _).1, (HFIN.out _ _ _ _).2⟩
set_option maxRecDepth 100000 in
set_option maxHeartbeats 1000000 in
theorem psame_yes (v u : Value) (l : List (Nat × Nat)) (w : World) (hv : RdS w 2 v l.length (gcells l)) (hu : RdS w 2 u l.length (gcells l)) :
    Calls Try.prog 18 #[v, u] w fun e w' => e = .returned (.bool true) ∧ Mod (fun _ => False) w w' := by
  have HV := Lib.hid hv
  have HU := Lib.hid hu
  obtain ⟨a, c, rfl, hc1, hc2, -⟩ := hv.shape
  obtain ⟨a', c', rfl, hc1', hc2', -⟩ := hu.shape
  clear hv hu
  obtain ⟨n, hl⟩ : ∃ n, n = l.length := ⟨_, rfl⟩
  have HN := Lib.hid hl
  rw [← hl] at HV HU hc1 hc1' ⊢
  clear hl
  go_enter Try.func18, Try.ntmps18
  go_wp2
  go_loopw [13] (fun i wr => ∃ k : Nat, i = .int .i64 k ∧ k ≤ n ∧ Mod (fun _ => False) w wr) (fun i _ => n - (intOf i).toNat)
  case atStart => exact ⟨0, rfl, Nat.zero_le _, Mod.refl _ _⟩
  case round =>
    obtain ⟨k, rfl, hk, hm⟩ := hrel
    have HM := Lib.hid hm
    clear hm
    by_cases hkn : k < n
    · obtain ⟨x, hx⟩ : ∃ x, l[k]? = some x := ⟨_, List.getElem?_eq_getElem (by rw [← HN.out]; exact hkn)⟩
      obtain ⟨b, off, rfl, hb, p0, p1⟩ := pair_ent HV.out hx rfl
      obtain ⟨b', off', rfl, hb', q0, q1⟩ := pair_ent HU.out hx rfl
      have p0 : ∀ x : MW wr, x.w.cell? _ = some _ := fun x => x.cell (HM.out.cell p0)
      have p1 : ∀ x : MW wr, x.w.cell? _ = some _ := fun x => x.cell (HM.out.cell p1)
      have q0 : ∀ x : MW wr, x.w.cell? _ = some _ := fun x => x.cell (HM.out.cell q0)
      have q1 : ∀ x : MW wr, x.w.cell? _ = some _ := fun x => x.cell (HM.out.cell q1)
      clear hx
      go_wp2_with fail
      refine wp_region_quietM (by kernel_rfl) (by kernel_rfl) ?_
      repeat (go_big_quiet_step (fail))
      refine wpQuiet_nil ?_
      intro w3 hm3
      have M3 : Hid (Mod (fun _ => False) w w3) := Lib.hid (HM.out.trans (MW.mod_of hm3))
      clear hm3 p0 p1 q0 q1
      go_wp2
      go_roundw
      case rel => exact ⟨k + 1, by go_num, by omega, M3.out⟩
      case measure => simp [intOf]; omega
    · go_wp2
      go_ret
      exact ⟨rfl, HM.out⟩

def v37 : Vtx := ⟨3, true, [], [5, 7].map farE⟩
def v73 : Vtx := ⟨7, true, [], [3, 5].map farE⟩
theorem nums_rd (w : World) (a b : Nat) (n0 : Nat) (h : w.heap.size = n0) : RdS (w.alloc (.cells #[.int .u32 (a : Int), .int .u32 (b : Int)] 27)) 1 (.slice (some ⟨n0, 0, none⟩) 2 2) [a, b].length ([a, b].map fun f : Nat => .int .u32 (f : Int)) :=
  rd_lit w 27 #[.int .u32 (a : Int), .int .u32 (b : Int)] 2 1 n0 h rfl (by simp [maxLen]) (by simp [Value.oneCell'])
def lsG (v1 v2 : Value) : List Vs := [⟨v37, .slice none 0 0, v1⟩, ⟨v73, .slice none 0 0, v2⟩]
theorem lsG_rd (w0 w0' w1 w2 : World) (v1 v2 : Value) (h1 : VNew w0 w1 (.slice none 0 0) v1 v37) (m : Mod (fun _ => False) w1 w2) (h2 : VNew w0' w2 (.slice none 0 0) v2 v73) (o1 : v1.oneCell' = true) (o2 : v2.oneCell' = true) :
    LRd (w2.alloc (.cells #[.int .u32 3, .bool true, .slice none 0 0, v1, .int .u32 7, .bool true, .slice none 0 0, v2] 31)) (.slice (some ⟨w2.heap.size, 0, none⟩) 2 2) (lsG v1 v2) := by
  refine ⟨rd_lit w2 _ #[.int .u32 3, .bool true, .slice none 0 0, v1, .int .u32 7, .bool true, .slice none 0 0, v2] 2 4 _ rfl rfl (by simp [maxLen]) (fun u hu => by
    simp only [List.mem_cons, List.not_mem_nil, or_false] at hu
    rcases hu with rfl | rfl | rfl | rfl | rfl | rfl | rfl | rfl <;> first | rfl | assumption), ?_⟩
  intro s hs
  simp only [lsG, List.mem_cons, List.not_mem_nil, or_false] at hs
  rcases hs with rfl | rfl
  · exact (h1.rd.keep m).keep ((Mod.refl (fun _ => False) _).alloc _)
  · exact h2.rd.keep ((Mod.refl (fun _ => False) _).alloc _)
theorem turnG (v1 v2 : Value) : turnAll (lsG v1 v2) = [(3, [5, 7]), (7, [3, 5])] := by
  simp [turnAll, lsG, turnH, v37, v73, farE, putG, insG, delG]
theorem ghostsG : GhostsOf [(3, [5, 7]), (7, [3, 5])] [(5, 2)] := by
  refine ⟨by simp, fun k n => ?_⟩
  have ht : tot [(3, [5, 7]), (7, [3, 5])] k = [5, 7, 3, 5].count k := rfl
  rw [ht]
  constructor
  · intro h
    simp at h
    obtain ⟨rfl, rfl⟩ := h
    exact ⟨by simp [getG], by omega, by decide⟩
  · rintro ⟨h1, h2, h3⟩
    have hm : k ∈ [5, 7, 3, 5] := List.count_pos_iff.1 (by omega)
    simp only [List.mem_cons, List.not_mem_nil, or_false] at hm
    rcases hm with rfl | rfl | rfl | rfl
    · have : n = 2 := h3
      simp [this]
    · simp [getG] at h1
    · simp [getG] at h1
    · have : n = 2 := h3
      simp [this]

set_option maxRecDepth 100000 in
set_option maxHeartbeats 2000000 in
theorem awake12_any (w : World) :
    Calls Try.prog 13 #[] w fun e w' => e = .returned (.bool true) ∧ Mod (fun _ => False) w w' := by
  have A1 := Lib.hid (vertex12_any 3 (.slice (some ⟨w.heap.size, 0, none⟩) 2 2) [5, 7] _ (by omega) (by simp) (nums_rd w 5 7 _ rfl) (by simp))
  have A2 := Lib.hid (fun w1 : World => vertex12_any 7 (.slice (some ⟨w1.heap.size, 0, none⟩) 2 2) [3, 5] _ (by omega) (by simp) (nums_rd w1 3 5 _ rfl) (by simp))
  go_enter Try.func13, Try.ntmps13
  go_wp2_with (first
    | (go_at_call 18; refine (psame_yes _ _ [(5, 2)] (w4.alloc (.cells #[.int .u32 5, .int .i64 2] 75)) (HP4.out.seg.rdS.keep ((Mod.refl (fun _ => False) _).alloc _)) (rd_lit w4 _ #[.int .u32 5, .int .i64 2] 1 2 _ rfl rfl (by simp [maxLen]) (by simp [Value.oneCell']))).mono ?_; (rintro e w5 ⟨rfl, hm⟩); have M5 : Hid (Mod (fun _ => False) w w5) := Lib.hid (M4.out.trans (((Mod.refl (fun _ => False) _).alloc _).trans hm)); clear hm)
    | (go_at_call 19; refine (ghosts_any _ [(5, 2)] w3 HP3.out.seg.rdS (by simp)).mono ?_; (rintro e w4 ⟨vo, rfl, hg⟩); have HP4 := Lib.hid hg; have M4 : Hid (Mod (fun _ => False) w w4) := Lib.hid (M3.out.trans hg.mod); (obtain ⟨ao, co, rfl, -⟩ := hg.seg.shape); clear hg)
    | (go_at_call 16; refine (count_any _ (lsG _ _) _ (lsG_rd _ _ w1 w2 _ _ HN1.out (((Mod.refl (fun _ => False) _).alloc _).trans M2.out) HN2.out rfl rfl) (by simp [wt, lsG, v37, v73])).mono ?_; (rintro e w3 ⟨vo, gl, rfl, hp, hg⟩); (rw [turnG] at hg); (obtain rfl : gl = [(5, 2)] := hg.uniq ghostsG); have HP3 := Lib.hid hp; have M3 : Hid (Mod (fun _ => False) w w3) := Lib.hid (((Mod.refl (fun _ => False) _).alloc _).trans (M1.out.trans (((Mod.refl (fun _ => False) _).alloc _).trans (M2.out.trans (((Mod.refl (fun _ => False) _).alloc _).trans hp.mod))))); (obtain ⟨ao, co, rfl, -⟩ := hp.seg.shape); clear hp hg)
    | (go_at_call 40; have hdum := M1; clear hdum; refine (A2.out w1).mono ?_; (rintro e w2 ⟨vh2, rfl, hm2, hn2⟩); (obtain ⟨a2, c2, l2, rfl⟩ : ∃ a c n, vh2 = .slice a n c := (by obtain ⟨a, c, e, _⟩ := hn2.halves.shape; exact ⟨_, _, _, e⟩)); have M2 := Lib.hid hm2; have HN2 : Hid (VNew _ w2 _ _ v73) := Lib.hid hn2; clear hm2 hn2)
    | (go_at_call 40; refine A1.out.mono ?_; (rintro e w1 ⟨vh1, rfl, hm1, hn1⟩); (obtain ⟨a1, c1, l1, rfl⟩ : ∃ a c n, vh1 = .slice a n c := (by obtain ⟨a, c, e, _⟩ := hn1.halves.shape; exact ⟨_, _, _, e⟩)); have M1 := Lib.hid hm1; have HN1 : Hid (VNew _ w1 _ _ v37) := Lib.hid hn1; clear hm1 hn1))
  go_ret
  exact ⟨rfl, M5.out⟩
end Go.Proofs.Ytdblilhkojafgaa

/- gussetref02.Form; gussetref03.Number, Right, DocPut of nothing. -/
namespace Go.Proofs.Ytdblilhkojafgaa
set_option linter.unusedVariables false
open Go.RowKit

theorem num_any (v : Nat) (w : World) : Calls Try.prog 56 #[.int .u32 (v : Int)] w fun e w' => e = .returned (.bool (numB v)) ∧ w = w' := by
  by_cases h1 : 0 < v
  · have t1 : (0 : Int) < (v : Int) := by omega
    by_cases h2 : v ≤ 40
    · have t2 : (v : Int) ≤ 40 := by omega
      have HF : Hid (numB v = true) := Lib.hid (by simp [numB]; omega)
      clear h1 h2
      go_enter Try.func56, Try.ntmps56
      go_wp2
      go_ret
      exact ⟨ret_bool HF.out.symm, rfl⟩
    · have t2 : ¬ (v : Int) ≤ 40 := by omega
      have HF : Hid (numB v = false) := Lib.hid (by simp [numB]; omega)
      clear h1 h2
      go_enter Try.func56, Try.ntmps56
      go_wp2
      go_ret
      exact ⟨ret_bool HF.out.symm, rfl⟩
  · have t1 : ¬ (0 : Int) < (v : Int) := by omega
    have HF : Hid (numB v = false) := Lib.hid (by simp [numB]; omega)
    clear h1
    go_enter Try.func56, Try.ntmps56
    go_wp2
    go_ret
    exact ⟨ret_bool HF.out.symm, rfl⟩

set_option maxRecDepth 100000 in
set_option maxHeartbeats 2000000 in
theorem form_text (s : ByteArray) (hs : s.size ≤ 8) (w : World) : Calls Try.prog 57 #[.agg #[.int .u8 2, .int .i64 0, .string s]] w fun e w' => e = .returned (.bool (textB s)) ∧ Mod (fun _ => False) w w' := by
  go_enter Try.func57, Try.ntmps57
  go_wp2
  go_loopw [3] (fun i wr => ∃ k : Nat, i = .int .i64 k ∧ k ≤ s.size ∧ (s.data.toList.take k).all (fun c => letterB c.toNat) = true ∧ Mod (fun _ => False) w wr ∧ wr.heap[w.heap.size]? = some (.cells #[.int .u8 2, .int .i64 0, .string s] 94 (0, 0))) (fun i _ => s.size - (intOf i).toNat)
  case atStart => exact ⟨0, rfl, Nat.zero_le _, rfl, (Mod.refl _ _).alloc _, heap_alloc_new' w _⟩
  case round =>
    obtain ⟨k, rfl, hk, hall, hm, hbx⟩ := hrel
    have HA := Lib.hid hall
    have HM := Lib.hid hm
    have HBX := Lib.hid hbx
    have b2 := cell_of_row hbx 2
    simp at b2
    clear hall hm hbx
    by_cases hlt : k < s.size
    · have hts : s.data.toList.take (k + 1) = s.data.toList.take k ++ [s[k]] := by
        rw [List.take_succ_eq_append_getElem (by simpa using hlt)]; rfl
      have HS : Hid (∀ b, letterB s[k].toNat = b → (s.data.toList.take (k + 1)).all (fun c => letterB c.toNat) = b) := Lib.hid (by
        intro b hb
        rw [hts, List.all_append, HA.out]
        simp [hb])
      have hb256 := UInt8.toNat_lt s[k]
      have HBAD : Hid (letterB s[k].toNat = false → textB s = false) := Lib.hid (fun hb => by
        unfold textB
        have h1 := HS.out false hb
        have h2 : s.data.toList.all (fun c => letterB c.toNat) = false := by
          rw [List.all_eq_false] at h1 ⊢
          obtain ⟨c, hc, hn⟩ := h1
          exact ⟨c, List.mem_of_mem_take hc, hn⟩
        rw [h2]; rfl)
      clear hts
      have HGO : Hid (letterB s[k].toNat = true → (s.data.toList.take (k + 1)).all (fun c => letterB c.toNat) = true) := Lib.hid (fun hb => HS.out true hb)
      clear HS
      have hcs : (97 ≤ s[k].toNat ∧ s[k].toNat ≤ 122) ∨ (122 < s[k].toNat) ∨ (48 ≤ s[k].toNat ∧ s[k].toNat ≤ 57) ∨ (57 < s[k].toNat ∧ s[k].toNat < 97) ∨ (s[k].toNat = 46) ∨ (s[k].toNat = 45) ∨ (s[k].toNat < 48 ∧ s[k].toNat ≠ 46 ∧ s[k].toNat ≠ 45) := by omega
      rcases hcs with hcs | hcs | hcs | hcs | hcs | hcs | hcs
      · have t1 : (97 : Int) ≤ (s[k].toNat : Int) := by omega
        have t2 : (s[k].toNat : Int) ≤ 122 := by omega
        have t3 : (48 : Int) ≤ (s[k].toNat : Int) := by omega
        have t4 : ¬ (s[k].toNat : Int) ≤ 57 := by omega
        have HL : Hid (letterB s[k].toNat = true) := Lib.hid (by simp [letterB]; omega)
        clear hcs
        go_wp2
        go_roundw
        case rel => exact ⟨k + 1, by go_num, by omega, HGO.out HL.out, HM.out, HBX.out⟩
        case measure => simp [intOf]; omega
      · have t1 : (97 : Int) ≤ (s[k].toNat : Int) := by omega
        have t2 : ¬ (s[k].toNat : Int) ≤ 122 := by omega
        have t3 : (48 : Int) ≤ (s[k].toNat : Int) := by omega
        have t4 : ¬ (s[k].toNat : Int) ≤ 57 := by omega
        have t5 : ((s[k].toNat : Int) != 46) = true := by simp; omega
        have t6 : ((s[k].toNat : Int) != 45) = true := by simp; omega
        have HL : Hid (letterB s[k].toNat = false) := Lib.hid (by simp [letterB]; omega)
        clear hcs
        go_wp2
        go_ret
        exact ⟨ret_bool (HBAD.out HL.out).symm, HM.out⟩
      · have t1 : ¬ (97 : Int) ≤ (s[k].toNat : Int) := by omega
        have t3 : (48 : Int) ≤ (s[k].toNat : Int) := by omega
        have t4 : (s[k].toNat : Int) ≤ 57 := by omega
        have HL : Hid (letterB s[k].toNat = true) := Lib.hid (by simp [letterB]; omega)
        clear hcs
        go_wp2
        go_roundw
        case rel => exact ⟨k + 1, by go_num, by omega, HGO.out HL.out, HM.out, HBX.out⟩
        case measure => simp [intOf]; omega
      · have t1 : ¬ (97 : Int) ≤ (s[k].toNat : Int) := by omega
        have t3 : (48 : Int) ≤ (s[k].toNat : Int) := by omega
        have t4 : ¬ (s[k].toNat : Int) ≤ 57 := by omega
        have t5 : ((s[k].toNat : Int) != 46) = true := by simp; omega
        have t6 : ((s[k].toNat : Int) != 45) = true := by simp; omega
        have HL : Hid (letterB s[k].toNat = false) := Lib.hid (by simp [letterB]; omega)
        clear hcs
        go_wp2
        go_ret
        exact ⟨ret_bool (HBAD.out HL.out).symm, HM.out⟩
      · have t1 : ¬ (97 : Int) ≤ (s[k].toNat : Int) := by omega
        have t3 : ¬ (48 : Int) ≤ (s[k].toNat : Int) := by omega
        have t5 : ((s[k].toNat : Int) != 46) = false := by simp; omega
        have HL : Hid (letterB s[k].toNat = true) := Lib.hid (by simp [letterB]; omega)
        clear hcs
        go_wp2
        go_roundw
        case rel => exact ⟨k + 1, by go_num, by omega, HGO.out HL.out, HM.out, HBX.out⟩
        case measure => simp [intOf]; omega
      · have t1 : ¬ (97 : Int) ≤ (s[k].toNat : Int) := by omega
        have t3 : ¬ (48 : Int) ≤ (s[k].toNat : Int) := by omega
        have t5 : ((s[k].toNat : Int) != 46) = true := by simp; omega
        have t6 : ((s[k].toNat : Int) != 45) = false := by simp; omega
        have HL : Hid (letterB s[k].toNat = true) := Lib.hid (by simp [letterB]; omega)
        clear hcs
        go_wp2
        go_roundw
        case rel => exact ⟨k + 1, by go_num, by omega, HGO.out HL.out, HM.out, HBX.out⟩
        case measure => simp [intOf]; omega
      · have t1 : ¬ (97 : Int) ≤ (s[k].toNat : Int) := by omega
        have t3 : ¬ (48 : Int) ≤ (s[k].toNat : Int) := by omega
        have t5 : ((s[k].toNat : Int) != 46) = true := by simp; omega
        have t6 : ((s[k].toNat : Int) != 45) = true := by simp; omega
        have HL : Hid (letterB s[k].toNat = false) := Lib.hid (by simp [letterB]; omega)
        clear hcs
        go_wp2
        go_ret
        exact ⟨ret_bool (HBAD.out HL.out).symm, HM.out⟩
    · have HF : Hid (textB s = true) := Lib.hid (by
        unfold textB
        have h1 := HA.out
        rw [List.take_of_length_le (by simp; omega)] at h1
        rw [h1]
        simp
        omega)
      go_wp2
      go_ret
      exact ⟨ret_bool HF.out.symm, HM.out⟩
end Go.Proofs.Ytdblilhkojafgaa

/- gussetref02.Form. -/
namespace Go.Proofs.Ytdblilhkojafgaa
set_option linter.unusedVariables false
open Go.RowKit

theorem empty_size (s : ByteArray) : s.toList.isEmpty = decide (s.size = 0) := by
  rw [ByteArray.toList_eq]
  obtain ⟨⟨l⟩⟩ := s
  cases l <;> simp [ByteArray.size]
set_option maxRecDepth 100000 in
set_option maxHeartbeats 2000000 in
theorem form_any (v : Val) (hv : v.Fits) (w : World) : Calls Try.prog 57 #[v.v] w fun e w' => e = .returned (.bool v.ok) ∧ Mod (fun _ => False) w w' := by
  obtain ⟨k, n, s⟩ := v
  have hk := hv.k
  simp only at hk
  have hk0 : (0 : Int) ≤ (k : Int) := by omega
  have hk1 : (k : Int) < 256 := by omega
  show Calls _ _ #[.agg #[.int .u8 (k : Int), .int .i64 n, .string s]] w _
  by_cases h2 : k = 2
  · subst h2
    by_cases hn : n = 0
    · subst hn
      by_cases h8 : s.size ≤ 8
      · refine (form_text s h8 w).mono ?_
        rintro e w' ⟨rfl, hm⟩
        exact ⟨ret_bool (by simp [Val.ok]), hm⟩
      · have t8 : (8 : Int) < (s.size : Int) := by omega
        have HF : Hid (Val.ok ⟨2, 0, s⟩ = false) := Lib.hid (by simp [Val.ok, textB, h8])
        clear h8 hv
        go_enter Try.func57, Try.ntmps57
        go_wp2
        go_ret
        exact ⟨ret_bool HF.out.symm, (Mod.refl _ _).alloc _⟩
    · have n2 : (n != 0) = true := by simp [hn]
      have HF : Hid (Val.ok ⟨2, n, s⟩ = false) := Lib.hid (by simp [Val.ok, hn])
      clear hn hv
      go_enter Try.func57, Try.ntmps57
      go_wp2
      go_ret
      exact ⟨ret_bool HF.out.symm, (Mod.refl _ _).alloc _⟩
  · have k2 : ((k : Int) != 2) = true := by simp; omega
    by_cases h0 : k = 0
    · subst h0
      obtain ⟨eb, heb⟩ : ∃ eb, eb = s.toList.isEmpty := ⟨_, rfl⟩
      by_cases hn : n = 0
      · subst hn
        have HF : Hid (Val.ok ⟨0, 0, s⟩ = eb) := Lib.hid (by simp [Val.ok, heb])
        cases eb
        all_goals
          have es := heb.symm
          clear heb h2 hv
          go_enter Try.func57, Try.ntmps57
          go_wp2
          go_ret
          exact ⟨ret_bool (by rw [HF.out]), (Mod.refl _ _).alloc _⟩
      · have n1 : (n == 0) = false := by simp [hn]
        have HF : Hid (Val.ok ⟨0, n, s⟩ = false) := Lib.hid (by simp [Val.ok, hn])
        clear heb h2 hv
        go_enter Try.func57, Try.ntmps57
        go_wp2
        go_ret
        exact ⟨ret_bool HF.out.symm, (Mod.refl _ _).alloc _⟩
    · have k0 : ((k : Int) == 0) = false := by simp; omega
      by_cases h1 : k = 1
      · subst h1
        clear h2 h0 hv
        have HE : Hid (Val.ok ⟨1, n, s⟩ = decide (s.size = 0)) := Lib.hid (by simp [Val.ok, empty_size])
        by_cases hs0 : s.size = 0
        · have HF : Hid (Val.ok ⟨1, n, s⟩ = true) := Lib.hid (by rw [HE.out]; simp [hs0])
          have t0 : ((s.size : Int) == 0) = true := by simp [hs0]
          go_enter Try.func57, Try.ntmps57
          go_wp2
          go_ret
          exact ⟨ret_bool (by rw [HF.out]), (Mod.refl _ _).alloc _⟩
        · have HF : Hid (Val.ok ⟨1, n, s⟩ = false) := Lib.hid (by rw [HE.out]; simp [hs0])
          have t0 : ((s.size : Int) == 0) = false := by simp [hs0]
          go_enter Try.func57, Try.ntmps57
          go_wp2
          go_ret
          exact ⟨ret_bool (by rw [HF.out]), (Mod.refl _ _).alloc _⟩
      · have k1 : ((k : Int) == 1) = false := by simp; omega
        have HF : Hid (Val.ok ⟨k, n, s⟩ = false) := Lib.hid (by simp [Val.ok, h0, h1, h2])
        clear hv h0 h1 h2
        go_enter Try.func57, Try.ntmps57
        go_wp2
        go_ret
        exact ⟨ret_bool HF.out.symm, (Mod.refl _ _).alloc _⟩
end Go.Proofs.Ytdblilhkojafgaa
