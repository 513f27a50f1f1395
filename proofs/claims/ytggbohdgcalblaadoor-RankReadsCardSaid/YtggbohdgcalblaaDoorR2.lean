/- The contract of Int. -/
import Derived.Test.YtggbohdgcalblaaDoorR1
namespace Go.Proofs.YtggbohdgcalblaaDoor
set_option linter.unusedVariables false
open Go.RowKit

theorem Bytes.opened {w w' : World} {v : Value} {l : List Nat} (h : Bytes w w' v l) (hl : l ≠ []) : ∃ g off cap, v = .slice (some ⟨g, off, none⟩) l.length cap ∧ w.heap.size ≤ g ∧ g < w'.heap.size ∧ l.length ≤ cap ∧
    (∀ j, j < l.length → w'.cell? ⟨g, off + j, none⟩ = some (.int .u8 ((l.getD j 0 : Nat) : Int)) ∧ w'.frozen? ⟨g, off + j, none⟩ = false) := by
  have hpos : 0 < l.length := List.length_pos_iff.2 hl
  obtain ⟨g, off, cap, e, h1, h2, hg, hc⟩ := h.seg.open hpos
  refine ⟨g, off, cap, e, h.own g (by rw [e]; rfl), hg, h1, fun j hj => ?_⟩
  have := hc j (by omega)
  refine ⟨this.1.trans ?_, this.2⟩
  simp [bs, List.getD, hj]
theorem Bytes.set {w w' : World} {g off cap : Nat} {l : List Nat} (h : Bytes w w' (.slice (some ⟨g, off, none⟩) l.length cap) l) {j : Nat} (hj : j < l.length) (b : Nat) : Bytes w (w'.setCell ⟨g, off + j, none⟩ (.int .u8 (b : Int))) (.slice (some ⟨g, off, none⟩) (l.set j b).length cap) (l.set j b) := by
  refine ⟨?_, fun c hc => h.own c hc, h.mod.setCell (fun hlt => ?_) _⟩
  · have := h.seg.set (j := j) (by omega) (.int .u8 (b : Int)) rfl
    have e : (bs l).set j (.int .u8 (b : Int)) = bs (l.set j b) := by simp [bs, List.map_set]
    rw [e] at this
    simpa using this
  · have := h.own g rfl; simp at hlt; omega

def codeI (m : Int) : List Nat := if 0 ≤ m then (16 + sizeN m.toNat) :: be (sizeN m.toNat) m.toNat else (15 - sizeN (-1 - m).toNat) :: (be (sizeN (-1 - m).toNat) (-1 - m).toNat).map (255 - ·)

theorem int_nonneg (n : Nat) (hn : n < 9223372036854775808) (hs : Lib.bitLen n ≤ 64) (w : World) : Calls Tryd.prog 10 #[.int .i64 n] w (GivesBytes w (codeI n)) := by
  have hk : sizeN n ≤ 8 := by unfold sizeN; omega
  have HCODE := Lib.hid (show codeI n = (16 + sizeN n) :: be (sizeN n) n by simp [codeI])
  have HU := Lib.hid (uint_any n (by omega) hs w)
  have hn0 : (0 : Int) ≤ (n : Int) := by omega
  have hwrap : Hid (IntKind.u64.wrap (n : Int) = (n : Int)) := IntWalk.u64_in _ (by omega)
  clear hn hs
  go_enter Tryd.func10, Tryd.ntmps10
  go_wp2_with fail
  rw [hwrap.out]
  refine HU.out.mono ?_
  rintro e w1 ⟨v, rfl, hB⟩
  obtain ⟨g, off, cap, rfl, hg0, hg1, hcap, hc⟩ := hB.opened (by simp [codeU])
  have c0 := (hc 0 (by simp [codeU])).1
  have f0 := (hc 0 (by simp [codeU])).2
  simp only [Nat.add_zero] at c0 f0
  have hlen : (codeU n).length = sizeN n + 1 := by simp [codeU, be_length]
  have hl0 : (0 : Int) < ((codeU n).length : Int) := by omega
  have hd0 : (codeU n).getD 0 0 = sizeN n := rfl
  rw [hd0] at c0
  have hfin := hB.set (j := 0) (by omega) (16 + sizeN n)
  have e2 : (codeU n).set 0 (16 + sizeN n) = codeI n := by rw [HCODE.out]; rfl
  rw [e2] at hfin
  have e3 : ((16 + sizeN n : Nat) : Int) = (sizeN n : Int) + 16 := by omega
  rw [e3] at hfin
  have e4 : (codeI (n : Int)).length = (codeU n).length := by rw [HCODE.out]; simp [codeU]
  rw [e4, Nat.add_zero] at hfin
  have HF : Hid (GivesBytes w (codeI n) (.returned (.slice (some ⟨g, off, none⟩) (codeU n).length cap)) (w1.setCell ⟨g, off, none⟩ (.int .u8 ((sizeN n : Int) + 16)))) := ⟨_, rfl, hfin⟩
  clear hc hfin e2 e3 e4 hB hlen hd0
  go_wp2
  go_ret
  exact HF.out

/-- The bytes in the midst of the turning over. -/
def half (l : List Nat) (i : Nat) : List Nat := (l.take i).map (255 - ·) ++ l.drop i
theorem half_length (l : List Nat) (i : Nat) (hi : i ≤ l.length) : (half l i).length = l.length := by simp [half]; omega
theorem half_get (l : List Nat) (i : Nat) (hi : i < l.length) : (half l i).getD i 0 = l.getD i 0 := by
  have h1 : (List.map (255 - ·) (l.take i)).length = i := by simp; omega
  unfold half
  rw [List.getD_eq_getElem?_getD, List.getElem?_append_right (by omega), h1]
  simp
theorem half_set (l : List Nat) (i : Nat) (hi : i < l.length) : (half l i).set i (255 - l.getD i 0) = half l (i + 1) := by
  have h1 : (List.map (255 - ·) (l.take i)).length = i := by simp; omega
  unfold half
  rw [List.set_append_right _ _ (by omega), h1, Nat.sub_self, List.drop_eq_getElem_cons hi, List.set_cons_zero, List.take_succ_eq_append_getElem hi, List.map_append, List.append_assoc]
  simp only [List.getD_eq_getElem?_getD, List.getElem?_eq_getElem hi, Option.getD_some, List.map_cons, List.map_nil, List.cons_append, List.nil_append]
theorem half_zero (l : List Nat) : half l 0 = l := by simp [half]
theorem half_all (l : List Nat) : half l l.length = l.map (255 - ·) := by simp [half]
theorem be_lt {k n i : Nat} (hi : i < k) : (be k n).getD i 0 < 256 := by
  induction k generalizing i with
  | zero => omega
  | succ k ih =>
    cases i with
    | zero => simp [be]; omega
    | succ i => simpa [be] using ih (by omega)

theorem Bytes.cells {w w' : World} {g off cap m : Nat} {l : List Nat} (h : Bytes w w' (.slice (some ⟨g, off, none⟩) m cap) l) {j : Nat} (hj : j < l.length) :
    w'.cell? ⟨g, off + j, none⟩ = some (.int .u8 ((l.getD j 0 : Nat) : Int)) ∧ w'.frozen? ⟨g, off + j, none⟩ = false := by
  obtain ⟨g', off', cap', e, _, _, _, hc⟩ := h.opened (by intro e; subst e; simp at hj)
  simp only [Value.slice.injEq, Option.some.injEq, Addr.mk.injEq, and_true] at e
  obtain ⟨⟨rfl, rfl⟩, rfl, rfl⟩ := e
  exact hc j hj
def IntRel (w : World) (n : Nat) (g off cap : Nat) (i : Nat) (wr : World) : Prop := Bytes w wr (.slice (some ⟨g, off, none⟩) (sizeN n + 1) cap) ((15 - sizeN n) :: half (be (sizeN n) n) i)

theorem turn_byte (a : Nat) (ha : a < 256) : bits .xor .u8 (a : Int) 255 = ((255 - a : Nat) : Int) := by
  have h := u8_xor_nat a 255 ha (by decide)
  have h2 : ∀ a, a < 256 → a ^^^ 255 = 255 - a := by decide +kernel
  rw [h2 a ha] at h
  exact h

theorem IntRel.cell {w : World} {n g off cap q : Nat} {wr : World} (h : IntRel w n g off cap q wr) (hq : q < sizeN n) :
    wr.cell? ⟨g, off + (1 + q), none⟩ = some (.int .u8 (((be (sizeN n) n).getD q 0 : Nat) : Int)) ∧ wr.frozen? ⟨g, off + (1 + q), none⟩ = false := by
  have hl : (half (be (sizeN n) n) q).length = sizeN n := by rw [half_length _ _ (by rw [be_length]; omega), be_length]
  have h1 := Bytes.cells h (j := q + 1) (by simp [hl]; omega)
  rw [List.getD_cons_succ, half_get _ _ (by rw [be_length]; exact hq), Nat.add_comm q 1] at h1
  exact h1
theorem IntRel.next {w : World} {n g off cap q : Nat} {wr : World} (h : IntRel w n g off cap q wr) (hq : q < sizeN n) :
    IntRel w n g off cap (q + 1) (wr.setCell ⟨g, off + (1 + q), none⟩ (.int .u8 (bits .xor .u8 (((be (sizeN n) n).getD q 0 : Nat) : Int) 255))) := by
  have hl : (half (be (sizeN n) n) q).length = sizeN n := by rw [half_length _ _ (by rw [be_length]; omega), be_length]
  have h0 : Bytes w wr (.slice (some ⟨g, off, none⟩) ((15 - sizeN n) :: half (be (sizeN n) n) q).length cap) ((15 - sizeN n) :: half (be (sizeN n) n) q) := by
    have := h; unfold IntRel at this; simpa [hl] using this
  have h1 := h0.set (j := q + 1) (by simp [hl]; omega) (255 - (be (sizeN n) n).getD q 0)
  rw [List.set_cons_succ, half_set _ _ (by rw [be_length]; exact hq)] at h1
  have hl2 : (half (be (sizeN n) n) (q + 1)).length = sizeN n := by rw [half_length _ _ (by rw [be_length]; omega), be_length]
  rw [turn_byte _ (be_lt hq), Nat.add_comm 1 q]
  unfold IntRel
  simpa [hl2] using h1
theorem IntRel.done {w : World} {n g off cap : Nat} {wr : World} (h : IntRel w n g off cap (sizeN n) wr) (hc : codeI (-1 - (n : Int)) = (15 - sizeN n) :: (be (sizeN n) n).map (255 - ·)) :
    GivesBytes w (codeI (-1 - (n : Int))) (.returned (.slice (some ⟨g, off, none⟩) (sizeN n + 1) cap)) wr := by
  refine ⟨_, rfl, ?_⟩
  have := h
  unfold IntRel at this
  have e := half_all (be (sizeN n) n)
  rw [be_length] at e
  rw [e] at this
  rw [hc]; exact this
theorem not_neg (a : Nat) (ha : a < 9223372036854775808) : bits .xor .i64 (-1) (-1 - (a : Int)) = (a : Int) := by
  show IntKind.i64.wrap ((BitVec.ofInt 64 (-1) ^^^ BitVec.ofInt 64 (-1 - (a : Int))).toNat : Int) = _
  have h1 : BitVec.ofInt 64 (-1) = BitVec.allOnes 64 := by decide
  rw [h1, BitVec.allOnes_xor, BitVec.toNat_not, BitVec.toNat_ofInt]
  simp [IntKind.wrap, IntKind.bits, IntKind.signed]
  omega
theorem int_neg (n : Nat) (hn : n < 9223372036854775808) (hs : Lib.bitLen n ≤ 64) (w : World) : Calls Tryd.prog 10 #[.int .i64 (-1 - (n : Int))] w (GivesBytes w (codeI (-1 - (n : Int)))) := by
  have hk : sizeN n ≤ 8 := by unfold sizeN; omega
  have HCODE := Lib.hid (show codeI (-1 - (n : Int)) = (15 - sizeN n) :: (be (sizeN n) n).map (255 - ·) by
    have e : (-1 - (-1 - (n : Int))).toNat = n := by omega
    rw [codeI, if_neg (by omega), e])
  have HU := Lib.hid (uint_any n (by omega) hs w)
  have hn0 : (-1 : Int) < (n : Int) := by omega
  have hwrap : Hid (IntKind.u64.wrap (bits .xor .i64 (-1) (-1 - (n : Int))) = (n : Int)) := by
    have h := not_neg n hn
    show _ = _
    rw [h]
    exact IntWalk.u64_in _ (by omega)
  clear hn hs
  go_enter Tryd.func10, Tryd.ntmps10
  go_wp2_with fail
  rw [hwrap.out]
  refine HU.out.mono ?_
  rintro e w1 ⟨v, rfl, hB⟩
  obtain ⟨g, off, cap, rfl, hg0, hg1, hcap, hc⟩ := hB.opened (by simp [codeU])
  have c0 := (hc 0 (by simp [codeU])).1
  have f0 := (hc 0 (by simp [codeU])).2
  simp only [Nat.add_zero] at c0 f0
  have hlen : (codeU n).length = sizeN n + 1 := by simp [codeU, be_length]
  have hd0 : (codeU n).getD 0 0 = sizeN n := rfl
  rw [hd0] at c0
  have hB2 := hB.set (j := 0) (by omega) (15 - sizeN n)
  have e2 : (codeU n).set 0 (15 - sizeN n) = (15 - sizeN n) :: be (sizeN n) n := rfl
  have e3 : ((15 - sizeN n : Nat) : Int) = 15 - (sizeN n : Int) := by omega
  rw [e2, e3, Nat.add_zero] at hB2
  have hrel : IntRel w n g off cap 0 (w1.setCell ⟨g, off, none⟩ (.int .u8 (15 - (sizeN n : Int)))) := by
    unfold IntRel
    rw [half_zero]
    simpa [be_length] using hB2
  rw [hlen] at hcap ⊢
  have HREL := Lib.hid hrel
  have hsg : Seg (w1.setCell ⟨g, off, none⟩ (.int .u8 (15 - (sizeN n : Int)))) 5 1 (.slice (some ⟨g, off, none⟩) (sizeN n + 1) cap) (sizeN n + 1) (bs ((15 - sizeN n) :: be (sizeN n) n)) := by simpa [be_length] using hB2.seg
  clear hrel hB2 hc e2 e3 hB hlen hd0
  obtain ⟨k, hkd⟩ : ∃ k, k = sizeN n := ⟨_, rfl⟩
  have HKD := Lib.hid hkd
  rw [← hkd] at hk HCODE hcap c0 hsg HREL ⊢
  clear hkd
  go_wp2_with (first | (refine wpList_from_seg rfl (.tmp 27) (.const (.int .i64 1)) 23 rfl hsg 1 .i64 rfl rfl (by omega) Tryd.underlying23 sizeU8 ?_; intro v' hs' ho'; obtain ⟨a', c', rfl, hq1, hq2⟩ := hs'.shape; clear hs' ho' hq1 hq2))
  go_loopw [30] (fun i wr => ∃ q : Nat, i = .int .i64 q ∧ q ≤ k ∧ IntRel w n g off cap q wr) (fun i _ => k - (intOf i).toNat)
  case atStart => exact ⟨0, rfl, Nat.zero_le _, HREL.out⟩
  case round =>
    obtain ⟨q, rfl, hq, hR⟩ := hrel
    have HR := Lib.hid hR
    clear hR
    by_cases hqk : q < k
    · have hqk' : q < sizeN n := by rw [← HKD.out]; exact hqk
      obtain ⟨c1, f1⟩ := HR.out.cell hqk'
      have HN := Lib.hid (HR.out.next hqk')
      clear hqk'
      generalize (((be (sizeN n) n).getD q 0 : Nat) : Int) = b at c1 HN
      go_wp2
      go_roundw
      case rel => exact ⟨q + 1, by go_num, by omega, HN.out⟩
      case measure => simp [intOf]; omega
    · obtain rfl : q = k := by omega
      have HF : Hid (GivesBytes w (codeI (-1 - (n : Int))) (.returned (.slice (some ⟨g, off, none⟩) (q + 1) cap)) wr) := by
        have h1 := HR.out
        have h2 := HCODE.out
        have h3 := HKD.out
        show GivesBytes _ _ _ _
        subst h3
        exact h1.done h2
      go_wp2
      go_ret
      exact HF.out
end Go.Proofs.YtggbohdgcalblaaDoor
