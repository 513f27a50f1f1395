/- The contracts of the reference's Int and Text. -/
import Derived.Test.YtggbohdgcalblaaDoorR15
namespace Go.Proofs.YtggbohdgcalblaaDoor
set_option linter.unusedVariables false
open Go.RowKit

/-- append([]byte{b}, p[1:]...) -/
theorem head_app {w w1 w3 : World} {v3 : Value} {b : Nat} {l : List Nat} (m : Mod (fun _ => False) w w1)
    (hs : Seg w3 5 1 v3 (1 + l.length) ((#[.int .u8 (b : Int)] : Array Value).toList ++ bs l)) (hg : (w1.alloc (.cells #[.int .u8 (b : Int)] 5)).grownBy w3 (Value.ownBlock (.slice (some ⟨w1.heap.size, 0, none⟩) 1 1)))
    (ho : v3.ownBlock = Value.ownBlock (.slice (some ⟨w1.heap.size, 0, none⟩) 1 1) ∨ v3.ownBlock = some (w1.alloc (.cells #[.int .u8 (b : Int)] 5)).heap.size) : Bytes w w3 v3 (b :: l) := by
  have hsz := m.size
  refine ⟨by simpa [bs, Nat.add_comm] using hs, fun c hc => ?_, (m.alloc _).grown hg (fun c hc hlt => ?_)⟩
  · rcases ho with e | e
    · rw [e] at hc; simp [Value.ownBlock] at hc; omega
    · rw [e] at hc; simp at hc; omega
  · simp [Value.ownBlock] at hc; omega
theorem one_seg (w : World) (b : Nat) : Seg (w.alloc (.cells #[.int .u8 (b : Int)] 5)) 5 1 (.slice (some ⟨w.heap.size, 0, none⟩) 1 1) 1 (#[.int .u8 (b : Int)] : Array Value).toList := by
  have := Seg.lit (e := 5) (size := 1) w #[.int .u8 (b : Int)] 1 rfl (by decide) (by simp [Value.oneCell'])
  exact this

theorem grown_undrew {w w' : World} {r : Option Nat} (h : w.drew.grownBy w' r) : w.grownBy w' r := ⟨h.os, h.tape, h.output, h.size, h.block⟩
set_option maxRecDepth 100000 in
set_option maxHeartbeats 8000000 in
theorem refInt_nonneg (n : Nat) (hn : n < 9223372036854775808) (w : World) : Calls Tryd.prog 18 #[.int .i64 n] w (GivesBytes w (codeI n)) := by
  have HCODE := Lib.hid (show codeI n = (16 + sizeN n) :: be (sizeN n) n by simp [codeI])
  have HU := Lib.hid (refUint_any n (by omega) w)
  have hn0 : (0 : Int) ≤ (n : Int) := by omega
  have hwrap : Hid (IntKind.u64.wrap (n : Int) = (n : Int)) := IntWalk.u64_in _ (by omega)
  obtain ⟨k, hkd⟩ : ∃ k, k = sizeN n := ⟨_, rfl⟩
  have hk : k ≤ 8 := by rw [hkd]; exact sizeN_le (by omega)
  have hc2 : codeU n = k :: be k n := by rw [hkd]; rfl
  rw [hc2] at HU
  rw [← hkd] at HCODE
  obtain ⟨i0, hi, hz0, hz1, hz2⟩ := info_parts infoU8
  have HI : Hid (Tryd.prog.info? 5 = some i0 ∧ i0.zero = some (.int .u8 0) ∧ i0.size = 1 ∧ i0.bytes = 1) := ⟨hi, hz0, hz1, hz2⟩
  clear hn hkd hc2 hi hz0 hz1 hz2
  go_enter Tryd.func18, Tryd.ntmps18
  go_wp2_with fail
  rw [hwrap.out]
  refine HU.out.mono ?_
  rintro e w1 ⟨v, rfl, hB⟩
  obtain ⟨g, off, cap, rfl, hg0, hg1, hcap, hc⟩ := hB.opened (by simp)
  have c0 := (hc 0 (by simp)).1
  simp only [Nat.add_zero, List.getD_cons_zero] at c0
  have hlen : (k :: be k n).length = k + 1 := by simp [be_length]
  have hbl : (be k n).length = k := be_length k n
  have HB := Lib.hid hB
  have HSEG := Lib.hid hB.seg
  rw [hlen] at hcap HSEG ⊢
  have hcm : cap ≤ 9223372036854775807 := by
    obtain ⟨a', c', e, h1, h2⟩ := HSEG.out.shape
    injection e with e1 e2 e3
    unfold maxLen at h2; omega
  have k1 : (1 : Nat) ≤ k + 1 := by omega
  have k2 : (1 : Int) ≤ ((k + 1 : Nat) : Int) := by omega
  have k3 : (0 : Int) < ((k + 1 : Nat) : Int) := by omega
  have e16 : (16 : Int) + (k : Int) = ((16 + k : Nat) : Int) := by omega
  have HE := Lib.hid e16
  have HONE := one_seg w1 (16 + k)
  rw [← e16] at HONE
  have HO := Lib.hid HONE
  have HBL := Lib.hid hbl
  clear hc hB hlen hbl e16 HONE
  have HSRC : Hid (∀ v', v' = Value.slice (some (if cap = 1 then ⟨g, off, none⟩ else ⟨g, off + 1, none⟩)) (k + 1 - 1) (cap - 1) → ∀ w', Mod (fun _ => False) w1 w' → Src w' 1 v' (be k n).length (bs (be k n))) := by
    intro v' hv' w' m
    have hx : (bs (k :: be k n)).drop 1 = bs (be k n) := rfl
    rw [HBL.out]
    by_cases hc1 : cap = 1
    · obtain rfl : k = 0 := by omega
      have := HSEG.out.none_lit (by omega)
      rw [hv', if_pos hc1, hc1]
      exact this.src.keep m
    · have := HSEG.out.from_lit (k := 1) (by omega) hc1
      rw [hv', if_neg hc1]
      rw [Nat.one_mul, hx] at this
      have h3 := this.src.keep m
      rw [show k + 1 - 1 = k by omega] at h3 ⊢
      exact h3
  by_cases hc1 : cap = 1
  · obtain rfl : k = 0 := by omega
    subst hc1
    have HF : Hid (∀ w' : World, w' = w1.alloc (.cells #[.int .u8 16] 5) → GivesBytes w (codeI n) (.returned (.slice (some ⟨w1.heap.size, 0, none⟩) 1 1)) w'.drew) := by
      show ∀ w' : World, _ → GivesBytes _ _ _ _
      intro w' hw'
      rw [HCODE.out, hw']
      have := (Bytes.begin1 w1 16).from HB.out.mod
      exact ⟨_, rfl, ⟨this.seg.drew, this.own, this.mod.drew⟩⟩
    go_wp2_with fail
    go_region
    go_wp2
    go_ret
    exact HF.out _ rfl
  · have HS := Lib.hid (HSRC.out _ rfl)
    rw [if_neg hc1] at HS
    have k4 : (1 : Int) ≤ (k : Int) + 1 := by omega
    have k5 : IntKind.u8.wrap (16 + (k : Int)) = 16 + (k : Int) := IntWalk.u8_in _ (by omega)
    go_wp2_with fail
    go_region_law (refine step_append_seg rfl (.tmp 17) (.tmp 19) 23 rfl i0 _ 1 1 Tryd.underlying23 HI.out.1 HI.out.2.1 HI.out.2.2.1 HI.out.2.2.2 rfl (by decide) rfl HO.out.drew _ _ _ rfl (HS.out _ ((Mod.refl _ _).alloc _).drew) (by have := HBL.out; unfold maxLen; omega) (by have := HBL.out; omega) ?_; intro v3 w3 hs3 hg3 ho3)
    have HF : Hid (GivesBytes w (codeI n) (.returned v3) w3) := by
      show GivesBytes _ _ _ _
      rw [HCODE.out]
      exact ⟨v3, rfl, head_app HB.out.mod hs3 (grown_undrew hg3) ho3⟩
    clear hs3 hg3 ho3
    go_wp2
    go_ret
    exact HF.out

theorem Rd.older {w : World} {v : Value} {xs : List Nat} {o : Obj} (h : Rd (w.alloc o) v xs) (hb : ∀ b, v.ownBlock = some b → b < w.heap.size) : Rd w v xs := by
  refine ⟨h.shape, h.big, fun a c e i hi => ?_⟩
  obtain ⟨b, off, ea, _, hc⟩ := h.cell a c e i hi
  have hlt := hb b (by rw [e, ea]; rfl)
  exact ⟨b, off, ea, hlt, (World.cell?_of_block (w := w) (heap_alloc_old' w o b hlt)).symm.trans hc⟩
theorem be_byte {k n i : Nat} (hi : i < k) : (be k n).getD i 0 < 256 := be_lt hi
theorem NegRel.next {w wr w3 : World} {v v3 : Value} {b0 q b : Nat} {l : List Nat} (h : Bytes w wr v (b0 :: (l.take q).map (255 - ·))) (hq : q < l.length) (hb : b = l.getD q 0) (hb2 : b < 256)
    (hs : Seg w3 5 1 v3 ((b0 :: (l.take q).map (255 - ·)).length + 1) (bs (b0 :: (l.take q).map (255 - ·)) ++ (#[.int .u8 (255 - (b : Int))] : Array Value).toList)) (hg : (wr.alloc (.cells #[.int .u8 (255 - (b : Int))] 5)).grownBy w3 v.ownBlock)
    (ho : v3.ownBlock = v.ownBlock ∨ v3.ownBlock = some (wr.alloc (.cells #[.int .u8 (255 - (b : Int))] 5)).heap.size) : Bytes w w3 v3 (b0 :: (l.take (q + 1)).map (255 - ·)) := by
  have e : (255 - (b : Int)) = ((255 - b : Nat) : Int) := by omega
  rw [e] at hs hg ho
  have := h.pushed hs hg ho
  rw [List.take_succ_eq_append_getElem hq, List.map_append, List.map_cons, List.map_nil]
  have e2 : l[q] = b := by rw [hb]; simp [List.getD_eq_getElem?_getD, hq]
  rw [e2]
  exact this

theorem neg_rd {w1 : World} {g off cap k n : Nat} {o : Obj} {v1 : Value} {xs : List Nat} (h : Rd (w1.alloc o) v1 ((k :: xs).drop 1)) (ho : v1.ownBlock = Value.ownBlock (.slice (some ⟨g, off, none⟩) n cap)) (hg : g < w1.heap.size) : Rd w1 v1 xs :=
  h.older fun b hb => by rw [ho] at hb; simp [Value.ownBlock] at hb; omega
set_option maxRecDepth 100000 in
set_option maxHeartbeats 8000000 in
theorem refInt_neg (m : Int) (n : Nat) (hmn : m = -1 - (n : Int)) (hn : n < 9223372036854775808) (w : World) : Calls Tryd.prog 18 #[.int .i64 m] w (GivesBytes w (codeI m)) := by
  have HCODE := Lib.hid (show codeI m = (15 - sizeN n) :: (be (sizeN n) n).map (255 - ·) by
    unfold codeI
    rw [if_neg (by omega)]
    have : (-1 - m).toNat = n := by omega
    rw [this])
  have hU := refUint_any n (by omega) w
  have e0 : (n : Int) = -1 - m := by omega
  rw [e0] at hU
  have HU := Lib.hid hU
  have hm0 : m < 0 := by omega
  have hm1 : -9223372036854775808 ≤ m := by omega
  obtain ⟨k, hkd⟩ : ∃ k, k = sizeN n := ⟨_, rfl⟩
  have hk : k ≤ 8 := by rw [hkd]; exact sizeN_le (by omega)
  have hc2 : codeU n = k :: be k n := by rw [hkd]; rfl
  rw [hc2] at HU
  rw [← hkd] at HCODE
  obtain ⟨i0, hi, hz0, hz1, hz2⟩ := info_parts infoU8
  have HI : Hid (Tryd.prog.info? 5 = some i0 ∧ i0.zero = some (.int .u8 0) ∧ i0.size = 1 ∧ i0.bytes = 1) := ⟨hi, hz0, hz1, hz2⟩
  have HBL := Lib.hid (be_length k n)
  clear hn hkd hc2 hi hz0 hz1 hz2 hU e0 hmn
  go_enter Tryd.func18, Tryd.ntmps18
  go_wp2_with fail
  refine HU.out.mono ?_
  rintro e w1 ⟨v, rfl, hB⟩
  obtain ⟨g, off, cap, rfl, hg0, hg1, hcap, hc⟩ := hB.opened (by simp)
  have c0 := (hc 0 (by simp)).1
  simp only [Nat.add_zero, List.getD_cons_zero] at c0
  have hlen : (k :: be k n).length = k + 1 := by simp [be_length]
  have HB := Lib.hid hB
  have k3 : (0 : Int) < ((k + 1 : Nat) : Int) := by omega
  have HRD := Lib.hid (hB.rd.keep ((Mod.refl _ w1).alloc (.cells #[.int .u8 (15 - (k : Int))] 5)))
  have hone : 1 ≤ (k :: be k n).length := by omega
  rw [hlen] at HRD hcap ⊢
  have HONE := Lib.hid hone
  clear hc hB hlen hone
  go_wp2_with (refine wpList_from_rd rfl (.tmp 30) (.const (.int .i64 1)) 23 rfl HRD.out 1 .i64 rfl rfl HONE.out Tryd.underlying23 sizeU8 ?_; intro v1 hv1 ho1; have HV1 := Lib.hid (neg_rd hv1 ho1 hg1); (obtain ⟨a1, c1, rfl, -⟩ := hv1.shape); clear hv1 ho1)
  rw [HBL.out]
  have HC := Lib.hid (HV1.out.cell _ _ rfl)
  rw [HBL.out] at HC
  have HL := Lib.hid HBL.out
  have e15 : (15 - (k : Int)) = ((15 - k : Nat) : Int) := by omega
  have HST := (Bytes.begin1 w1 (15 - k))
  rw [← e15] at HST
  have HS0 := Lib.hid HST
  clear HST e15 HV1
  go_wp2_with fail
  go_loopw [5, 33] (fun v i wr => ∃ q : Nat, i = .int .i64 q ∧ q ≤ k ∧ Bytes w1 wr v ((15 - k) :: ((be k n).take q).map (255 - ·))) (fun _ i _ => k - (intOf i).toNat)
  case atStart => exact ⟨0, rfl, Nat.zero_le _, by simpa using HS0.out⟩
  case round =>
    obtain ⟨q, rfl, hq, hb⟩ := hrel
    have HB2 := Lib.hid hb
    have hl : ((15 - k) :: ((be k n).take q).map (255 - ·)).length ≤ 9 := by simp; omega
    have HL9 := Lib.hid hl
    clear hl
    by_cases hqk : q < k
    · obtain ⟨p1, o1, rfl, hp1, q1⟩ := HC.out q hqk
      have d1 : wr.cell? ⟨p1, o1 + q, none⟩ = some (.int .u8 (((be k n).getD q 0 : Nat) : Int)) := (World.cell?_of_block (w := w1) (hb.mod.block p1 hp1 (fun f => f))).trans q1
      have hlt := be_byte (n := n) hqk
      obtain ⟨b, hbd⟩ : ∃ b, b = (be k n).getD q 0 := ⟨_, rfl⟩
      have HD := Lib.hid hbd
      rw [← hbd] at d1 hlt
      clear hbd q1 hb
      go_wp2_with (first | (at_builtin; refine wpList_append_seg rfl (.tmp 37) (.tmp 40) 23 rfl i0 _ 1 1 Tryd.underlying23 HI.out.1 HI.out.2.1 HI.out.2.2.1 HI.out.2.2.2 rfl (by decide) rfl (HB2.out.seg.alloc _) _ 1 _ rfl (Src.one (size := 1) wr #[.int .u8 (255 - (b : Int))] 5 1 1 rfl (by simp [Value.oneCell'])) (by have := HL9.out; unfold maxLen; omega) (by have := HL9.out; omega) ?_; intro v3 w3 hs3 hg3 ho3))
      have HN2 := Lib.hid (NegRel.next HB2.out (by rw [HL.out]; exact hqk) HD.out hlt hs3 hg3 ho3)
      clear hs3 hg3 ho3
      go_roundw
      case rel => exact ⟨q + 1, by go_num, by omega, HN2.out⟩
      case measure => simp [intOf]; omega
    · obtain rfl : q = k := by omega
      have HF : Hid (GivesBytes w (codeI m) (.returned u5) wr) := by
        show GivesBytes _ _ _ _
        have := hb
        rw [List.take_of_length_le (by rw [HL.out]; exact Nat.le_refl _), ← HCODE.out] at this
        exact ⟨_, rfl, this.from HB.out.mod⟩
      clear hb
      go_wp2
      go_ret
      exact HF.out

theorem esc1_len (b : Nat) : (esc1 b).length ≤ 2 := by unfold esc1; split <;> simp
theorem esc_take_succ {zs : List Nat} {i : Nat} (hi : i < zs.length) {b : Nat} (hb : b = zs.getD i 0) : esc (zs.take (i + 1)) = esc (zs.take i) ++ esc1 b := by
  rw [List.take_succ_eq_append_getElem hi, esc_append]
  have : zs[i] = b := by rw [hb]; simp [List.getD_eq_getElem?_getD, hi]
  rw [this]; simp [esc]
set_option maxRecDepth 100000 in
set_option maxHeartbeats 8000000 in
theorem refText_any (v : Value) (zs : List Nat) (w : World) (hv : Rd w v zs) (hl : zs.length ≤ 1000000) : Calls Tryd.prog 19 #[v] w (GivesBytes w (codeT zs)) := by
  obtain ⟨a, c, hva, -⟩ := hv.shape
  have HU := Lib.hid (hv.cell a c hva)
  subst hva
  obtain ⟨i0, hi, hz0, hz1, hz2⟩ := info_parts infoU8
  have HI : Hid (Tryd.prog.info? 5 = some i0 ∧ i0.zero = some (.int .u8 0) ∧ i0.size = 1 ∧ i0.bytes = 1) := ⟨hi, hz0, hz1, hz2⟩
  clear hi hz0 hz1 hz2 hv
  go_enter Tryd.func19, Tryd.ntmps19
  go_wp2_with fail
  go_loopw [3, 8] (fun v i wr => ∃ q : Nat, i = .int .i64 q ∧ q ≤ zs.length ∧ Bytes w wr v (esc (zs.take q))) (fun _ i _ => zs.length - (intOf i).toNat)
  case atStart => exact ⟨0, rfl, Nat.zero_le _, by simpa [esc_nil] using Bytes.nil w⟩
  case round =>
    obtain ⟨q, rfl, hq, hb⟩ := hrel
    have HB := Lib.hid hb
    have he : (esc (zs.take q)).length ≤ 2000000 := by
      have := List.count_le_length (a := 0) (l := zs.take q)
      have h2 : (zs.take q).length ≤ zs.length := by simp; omega
      rw [esc_length]; omega
    have HE := Lib.hid he
    clear he
    by_cases hqk : q < zs.length
    · obtain ⟨p1, o1, rfl, hp1, q1⟩ := HU.out q hqk
      have d1 : wr.cell? ⟨p1, o1 + q, none⟩ = some (.int .u8 ((zs.getD q 0 : Nat) : Int)) := (World.cell?_of_block (w := w) (hb.mod.block p1 hp1 (fun f => f))).trans q1
      obtain ⟨b, hbd⟩ : ∃ b, b = zs.getD q 0 := ⟨_, rfl⟩
      have hes := esc_take_succ hqk hbd
      rw [← hbd] at d1
      clear hbd q1 hb
      by_cases hb0 : b = 0
      · subst hb0
        have HES : Hid (esc (zs.take (q + 1)) = esc (zs.take q) ++ [0] ++ [255]) := Lib.hid (by rw [hes]; simp [esc1])
        clear hes
        go_wp2_with (first
          | (at_builtin; refine wpList_append_seg rfl (.tmp 12) (.tmp 14) 23 rfl i0 _ 1 1 Tryd.underlying23 HI.out.1 HI.out.2.1 HI.out.2.2.1 HI.out.2.2.2 rfl (by decide) rfl (HB.out.seg.alloc _) _ 1 _ rfl (Src.one (size := 1) wr #[.int .u8 0] 5 1 1 rfl (by simp [Value.oneCell'])) (by have := HE.out; unfold maxLen; omega) (by have := HE.out; omega) ?_; intro v3 w3 hs3 hg3 ho3; (have HB3 : Hid (Bytes w w3 v3 (esc (zs.take q) ++ [0])) := HB.out.pushed (b := 0) hs3 hg3 ho3); clear hs3 hg3 ho3)
          | (at_builtin; refine wpList_append_seg rfl (.tmp 18) (.tmp 19) 23 rfl i0 _ 1 1 Tryd.underlying23 HI.out.1 HI.out.2.1 HI.out.2.2.1 HI.out.2.2.2 rfl (by decide) rfl (HB3.out.seg.alloc _) _ 1 _ rfl (Src.one (size := 1) w3 #[.int .u8 255] 5 1 1 rfl (by simp [Value.oneCell'])) (by have := HE.out; simp only [List.length_append, List.length_singleton]; unfold maxLen; omega) (by have := HE.out; simp only [List.length_append, List.length_singleton]; omega) ?_; intro v5 w5 hs5 hg5 ho5; (have HB5 : Hid (Bytes w w5 v5 (esc (zs.take q) ++ [0] ++ [255])) := HB3.out.pushed (b := 255) hs5 hg5 ho5); clear hs5 hg5 ho5))
        go_roundw
        case rel => exact ⟨q + 1, by go_num, by omega, by rw [HES.out]; exact HB5.out⟩
        case measure => simp [intOf]; omega
      · have HES : Hid (esc (zs.take (q + 1)) = esc (zs.take q) ++ [b]) := Lib.hid (by rw [hes]; simp [esc1, hb0])
        have x2 : ((b : Int) == 0) = false := by simp; omega
        clear hes hb0
        go_wp2_with (first
          | (at_builtin; refine wpList_append_seg rfl (.tmp 12) (.tmp 14) 23 rfl i0 _ 1 1 Tryd.underlying23 HI.out.1 HI.out.2.1 HI.out.2.2.1 HI.out.2.2.2 rfl (by decide) rfl (HB.out.seg.alloc _) _ 1 _ rfl (Src.one (size := 1) wr #[.int .u8 (b : Int)] 5 1 1 rfl (by simp [Value.oneCell'])) (by have := HE.out; unfold maxLen; omega) (by have := HE.out; omega) ?_; intro v3 w3 hs3 hg3 ho3; (have HB3 : Hid (Bytes w w3 v3 (esc (zs.take q) ++ [b])) := HB.out.pushed (b := b) hs3 hg3 ho3); clear hs3 hg3 ho3))
        go_roundw
        case rel => exact ⟨q + 1, by go_num, by omega, by rw [HES.out]; exact HB3.out⟩
        case measure => simp [intOf]; omega
    · obtain rfl : q = zs.length := by omega
      rw [List.take_length] at hb HE
      have HB2 := Lib.hid hb
      clear hb HB
      go_wp2_with (first | (at_builtin; refine wpList_append_seg rfl (.tmp 22) (.tmp 23) 23 rfl i0 _ 1 1 Tryd.underlying23 HI.out.1 HI.out.2.1 HI.out.2.2.1 HI.out.2.2.2 rfl (by decide) rfl (HB2.out.seg.alloc _) _ 2 _ rfl (text_src _) (by have := HE.out; unfold maxLen; omega) (by have := HE.out; omega) ?_; intro v5 w5 hs5 hg5 ho5; (have HF : Hid (GivesBytes w (codeT zs) (.returned v5) w5) := ⟨v5, rfl, text_last HB2 hs5 hg5 ho5⟩); clear hs5 hg5 ho5))
      go_ret
      exact HF.out
end Go.Proofs.YtggbohdgcalblaaDoor
