/- The contracts of the reference's Uint, Int and Text. -/
import Derived.Test.YtggbohdgcalblaaDoorR13
namespace Go.Proofs.YtggbohdgcalblaaDoor
set_option linter.unusedVariables false
open Go.RowKit

theorem be_rev (k n j : Nat) (hj : j < k) : (be k n).reverse.getD j 0 = n / 256 ^ j % 256 := by
  induction k with
  | zero => omega
  | succ k ih =>
    rw [be, List.reverse_cons, List.getD_eq_getElem?_getD]
    by_cases h : j < k
    · rw [List.getElem?_append_left (by simp [be_length]; exact h), ← List.getD_eq_getElem?_getD, ih h]
    · obtain rfl : j = k := by omega
      rw [List.getElem?_append_right (by simp [be_length])]
      simp [be_length]
theorem size_gt {n j : Nat} (hn : n < 18446744073709551616) (h : 0 < n / 256 ^ j) : j < sizeN n := by
  refine Nat.lt_of_not_le fun hle => ?_
  have h1 := lt_size hn
  have h2 : 256 ^ sizeN n ≤ 256 ^ j := Nat.pow_le_pow_right (by decide) hle
  rw [Nat.div_eq_of_lt (by omega)] at h
  omega
theorem size_of_div {n j : Nat} (hn : n < 18446744073709551616) (h : n / 256 ^ j = 0) (hj : j ≤ sizeN n) : j = sizeN n := by
  have hp : 0 < 256 ^ j := Nat.pow_pos (by decide)
  have h1 : n < 256 ^ j := by
    rcases Nat.div_eq_zero_iff.1 h with h | h
    · omega
    · exact h
  have := size_le_of hn h1
  omega

structure LowRel (w : World) (n j q : Nat) (v : Value) (wr : World) : Prop where
  hq : q = n / 256 ^ j
  hj : j ≤ sizeN n
  bytes : Bytes w wr v (be j n).reverse
theorem LowRel.next {w wr w3 : World} {n j q : Nat} {v v3 : Value} (hn : n < 18446744073709551616) (h : LowRel w n j q v wr) (hq : 0 < q)
    (hs : Seg w3 5 1 v3 ((be j n).reverse.length + 1) (bs (be j n).reverse ++ (#[.int .u8 ((q : Int) % 256)] : Array Value).toList)) (hg : (wr.alloc (.cells #[.int .u8 ((q : Int) % 256)] 5)).grownBy w3 v.ownBlock)
    (ho : v3.ownBlock = v.ownBlock ∨ v3.ownBlock = some (wr.alloc (.cells #[.int .u8 ((q : Int) % 256)] 5)).heap.size) : LowRel w n (j + 1) (q / 256) v3 w3 := by
  have e : ((q : Int) % 256) = ((q % 256 : Nat) : Int) := by omega
  rw [e] at hs hg ho
  have hb := h.bytes.pushed hs hg ho
  refine ⟨by rw [h.hq, Nat.pow_succ, Nat.div_div_eq_div_mul], size_gt hn (by rw [← h.hq]; exact hq), ?_⟩
  rw [be, List.reverse_cons, ← h.hq]
  exact hb
theorem LowRel.done {w wr : World} {n j q : Nat} {v : Value} (hn : n < 18446744073709551616) (h : LowRel w n j q v wr) (hq : q = 0) : Bytes w wr v (be (sizeN n) n).reverse := by
  have e := size_of_div hn (by rw [← h.hq]; exact hq) h.hj
  rw [← e]; exact h.bytes

theorem Bytes.begin1 (w : World) (b : Nat) : Bytes w (w.alloc (.cells #[.int .u8 (b : Int)] 5)) (.slice (some ⟨w.heap.size, 0, none⟩) 1 1) [b] :=
  ⟨by simpa [bs] using Seg.lit (e := 5) (size := 1) w #[.int .u8 (b : Int)] 1 rfl (by decide) (by simp [Value.oneCell']), by simp [Value.ownBlock], (Mod.refl _ _).alloc _⟩

theorem UintRel.next {w wr w3 : World} {n k j : Nat} {v v3 : Value} (h : UintRel w n k (j + 1) v wr) {l : List Nat} (hb : Bytes w wr v l) (hl : l ++ be (j + 1) n = k :: be k n) (hll : l.length = k + 1 - (j + 1)) (hj : j + 1 ≤ k)
    (hs : Seg w3 5 1 v3 (l.length + 1) (bs l ++ (#[.int .u8 ((n / 256 ^ j % 256 : Nat) : Int)] : Array Value).toList)) (hg : (wr.alloc (.cells #[.int .u8 ((n / 256 ^ j % 256 : Nat) : Int)] 5)).grownBy w3 v.ownBlock)
    (ho : v3.ownBlock = v.ownBlock ∨ v3.ownBlock = some (wr.alloc (.cells #[.int .u8 ((n / 256 ^ j % 256 : Nat) : Int)] 5)).heap.size) : UintRel w n k j v3 w3 := by
  have hb2 := hb.pushed hs hg ho
  exact ⟨_, hb2, by rw [List.append_assoc]; exact hl, by simp; omega⟩

theorem GivesBytes.from {w0 w w1 : World} {l : List Nat} {e : Ending} (m : Mod (fun _ => False) w0 w) (h : GivesBytes w l e w1) : GivesBytes w0 l e w1 := by
  obtain ⟨v, rfl, hb⟩ := h
  exact ⟨v, rfl, hb.from m⟩
set_option maxRecDepth 100000 in
set_option maxHeartbeats 8000000 in
theorem refUint_any (n : Nat) (hn : n < 18446744073709551616) (w : World) : Calls Tryd.prog 17 #[.int .u64 n] w (GivesBytes w (codeU n)) := by
  have HN := Lib.hid hn
  obtain ⟨k, hkd⟩ : ∃ k, k = sizeN n := ⟨_, rfl⟩
  have hcode : codeU n = k :: be k n := by rw [hkd]; rfl
  have HCODE := Lib.hid hcode
  have hk : k ≤ 8 := by rw [hkd]; exact sizeN_le hn
  have HKD := Lib.hid hkd
  obtain ⟨i0, hi, hz0, hz1, hz2⟩ := info_parts infoU8
  have HI : Hid (Tryd.prog.info? 5 = some i0 ∧ i0.zero = some (.int .u8 0) ∧ i0.size = 1 ∧ i0.bytes = 1) := ⟨hi, hz0, hz1, hz2⟩
  clear hcode hi hz0 hz1 hz2 hkd hn
  go_enter Tryd.func17, Tryd.ntmps17
  go_wp2_with fail
  go_loopw [0, 3] (fun m v wr => ∃ j q : Nat, m = .int .u64 q ∧ LowRel w n j q v wr) (fun m _ _ => (intOf m).toNat)
  case atStart => exact ⟨0, n, rfl, by simp, Nat.zero_le _, Bytes.nil w⟩
  case round =>
    obtain ⟨j, q, rfl, hL⟩ := hrel
    obtain ⟨wo, rfl⟩ : ∃ wo : World, wo = wr := ⟨_, rfl⟩
    have HL := Lib.hid hL
    have hll : (be j n).reverse.length = j := by simp [be_length]
    have HLL := Lib.hid hll
    have hj8 : j ≤ 8 := Nat.le_trans hL.hj (HKD.out ▸ hk)
    have hjl : (be j n).reverse.length ≤ 8 := by omega
    have HJL := Lib.hid hjl
    have hqb : (q : Int) < 18446744073709551616 := by
      have h1 := hL.hq
      have h2 := Nat.div_le_self n (256 ^ j)
      have h3 := HN.out
      omega
    clear hL hll hjl
    rcases Nat.eq_zero_or_pos q with hq | hq
    · have hB := HL.out.done HN.out hq
      rw [← HKD.out] at hB
      have HB := Lib.hid hB
      have hseg := hB.seg
      have hlr : (be k n).reverse.length = k := by simp [be_length]
      rw [hlr] at hseg
      obtain ⟨a1, c1, rfl, -⟩ := hseg.shape
      have HC := Lib.hid (hB.rd.cell a1 c1 (by rw [hlr]))
      rw [hlr] at HC
      have HW := Lib.hid (IntWalk.u64_in (k : Int) (by omega))
      subst hq
      clear hB hseg hlr HLL HJL HL
      go_wp2_with fail
      go_loopw [4, 5] (fun v i wx => ∃ j : Nat, i = .int .i64 ((j : Int) - 1) ∧ j ≤ k ∧ UintRel wo n k j v wx) (fun _ i _ => (intOf i + 1).toNat)
      case atStart => exact ⟨k, rfl, Nat.le_refl _, [k], Bytes.begin1 wo k, rfl, by simp⟩
      case round =>
        obtain ⟨j2, rfl, hj2, hU⟩ := hrel
        have HU := Lib.hid hU
        clear hU
        cases j2 with
        | zero =>
          rw [show (((0 : Nat) : Int) - 1) = -1 from rfl]
          have HF := Lib.hid (uint_end HU.out HCODE.out)
          go_wp2
          go_ret
          exact HF.out.from HB.out.mod
        | succ j2 =>
          rw [show (((j2 + 1 : Nat) : Int) - 1) = (j2 : Int) by omega]
          obtain ⟨l, hb, hl, hll⟩ := HU.out
          obtain ⟨p1, o1, rfl, hp1, q1⟩ := HC.out j2 (by omega)
          rw [be_rev k n j2 (by omega)] at q1
          have d1 : wr.cell? ⟨p1, o1 + j2, none⟩ = some (.int .u8 ((n / 256 ^ j2 % 256 : Nat) : Int)) := (World.cell?_of_block (w := wo) (hb.mod.block p1 hp1 (fun f => f))).trans q1
          have HL1 := Lib.hid hl
          have HL2 := Lib.hid hll
          have HB2 := Lib.hid hb
          have hl9 : l.length ≤ 9 := by omega
          have H1 : Hid (UintRel wo n k (j2 + 1) _ wr) := HU.out
          generalize hd : n / 256 ^ j2 % 256 = b at d1
          have HD := Lib.hid hd
          clear hd q1 hl hll hb
          go_wp2_with (first | (at_builtin; refine wpList_append_seg rfl (.tmp 27) (.tmp 32) 23 rfl i0 _ 1 1 Tryd.underlying23 HI.out.1 HI.out.2.1 HI.out.2.2.1 HI.out.2.2.2 rfl (by decide) rfl (HB2.out.seg.alloc _) _ 1 _ rfl (Src.one (size := 1) wr #[.int .u8 (b : Int)] 5 1 1 rfl (by simp [Value.oneCell'])) (by unfold maxLen; omega) (by omega) ?_; intro v3 w3 hs3 hg3 ho3))
          have HN2 : Hid (UintRel wo n k j2 v3 w3) := by
            show UintRel _ _ _ _ _ _
            rw [← HD.out] at hs3 hg3 ho3
            exact H1.out.next HB2.out HL1.out HL2.out (by omega) hs3 hg3 ho3
          clear hs3 hg3 ho3
          go_roundw
          case rel => exact ⟨j2, rfl, by omega, HN2.out⟩
          case measure => simp [intOf]; omega
    · obtain ⟨a1, c1, e1, -⟩ := HL.out.bytes.seg.shape
      have hq2 : (q : Int) / 256 = ((q / 256 : Nat) : Int) := by omega
      have HQ2 := Lib.hid hq2
      have hq3 : ((0 : Int) < (q : Int)) := by omega
      clear hq2 e1
      go_wp2_with (first | (at_builtin; refine wpList_append_seg rfl (.tmp 8) (.tmp 12) 23 rfl i0 _ 1 1 Tryd.underlying23 HI.out.1 HI.out.2.1 HI.out.2.2.1 HI.out.2.2.2 rfl (by decide) rfl (HL.out.bytes.seg.alloc _) _ 1 _ rfl (Src.one (size := 1) wo #[.int .u8 ((q : Int) % 256)] 5 1 1 rfl (by simp [Value.oneCell'])) (by unfold maxLen; have := HJL.out; omega) (by have := HJL.out; omega) ?_; intro v3 w3 hs3 hg3 ho3))
      have HN2 := Lib.hid (HL.out.next HN.out hq hs3 hg3 ho3)
      clear hs3 hg3 ho3
      go_roundw
      case rel => exact ⟨j + 1, q / 256, by rw [HQ2.out], HN2.out⟩
      case measure => simp [intOf]; omega
end Go.Proofs.YtggbohdgcalblaaDoor
