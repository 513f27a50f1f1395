/- The walk of RankWrites. -/
import Derived.Test.YtggbohdgcalblaaDoorR14
import Derived.Test.YtggbohdgcalblaaDoorR16
import Derived.Test.YtggbohdgcalblaaDoorIn
namespace Go.Proofs.YtggbohdgcalblaaDoor
set_option linter.unusedVariables false
open Go.RowKit

theorem Rd.src {w : World} {v : Value} {l : List Nat} (h : Rd w v l) : Src w 1 v l.length (bs l) := by
  refine ⟨bs_length l, bs_ones l, ?_⟩
  obtain ⟨a, c, e, h1, h2, h3⟩ := h.shape
  cases a with
  | none =>
    obtain rfl := h3 rfl
    have : l.length = 0 := by omega
    exact .inl ⟨by rw [e, this], this⟩
  | some ad =>
    refine .inr ⟨ad, c, e, fun j u hu => ?_⟩
    have hj : j < l.length := by have := (List.getElem?_eq_some_iff.1 hu).1; simpa [bs] using this
    obtain ⟨b, off, ea, _, hc⟩ := h.cell _ _ e j hj
    injection ea with ea
    subst ea
    rw [addr_add, hc]
    simp only [bs, List.getElem?_map] at hu
    rw [← hu, List.getD_eq_getElem?_getD, List.getElem?_eq_getElem hj]
    simp
theorem Bytes.appSrc {w w2 w3 : World} {v v3 : Value} {l l' : List Nat} (h : Bytes w w2 v l)
    (hs : Seg w3 5 1 v3 (l.length + l'.length) (bs l ++ bs l')) (hg : w2.grownBy w3 v.ownBlock) (ho : v3.ownBlock = v.ownBlock ∨ v3.ownBlock = some w2.heap.size) : Bytes w w3 v3 (l ++ l') := by
  have h1 := h.mod.size
  refine ⟨by rw [List.length_append, bs_append]; exact hs, fun b hb => ?_, h.mod.grown hg (fun b hb hlt => ?_)⟩
  · rcases ho with e | e
    · exact h.own b (e ▸ hb)
    · rw [e] at hb; injection hb with hb; omega
  · have := h.own b hb; omega
theorem codeU_byte {n : Nat} (h : n < 18446744073709551616) : ∀ b ∈ codeU n, b < 256 := by
  intro b hb
  simp only [codeU, List.mem_cons] at hb
  rcases hb with rfl | hb
  · have := sizeN_le h; omega
  · exact be_bytes _ _ b hb
theorem codeI_byte {m : Int} (h : -9223372036854775808 ≤ m ∧ m < 9223372036854775808) : ∀ b ∈ codeI m, b < 256 := by
  intro b hb
  unfold codeI at hb
  split at hb
  · have := sizeN_le (n := m.toNat) (by omega)
    simp only [List.mem_cons] at hb
    rcases hb with rfl | hb
    · omega
    · exact be_bytes _ _ b hb
  · simp only [List.mem_cons, List.mem_map] at hb
    rcases hb with rfl | ⟨c, hc, rfl⟩ <;> omega
theorem refInt_any (m : Int) (h : -9223372036854775808 ≤ m ∧ m < 9223372036854775808) (w : World) : Calls Tryd.prog 18 #[.int .i64 m] w (GivesBytes w (codeI m)) := by
  by_cases h0 : 0 ≤ m
  · obtain ⟨n, rfl⟩ := Int.eq_ofNat_of_zero_le h0
    exact refInt_nonneg n (by omega) w
  · exact refInt_neg m (-1 - m).toNat (by omega) (by omega) w
/-- What Spare has laid, as an argument. -/
theorem spare_arg {w w' : World} {g off cap : Nat} {l : List Nat} (h : Bytes w w' (.slice (some ⟨g, off, none⟩) (l.length + 3) cap) (l ++ mark)) (hb : ∀ b ∈ l, b < 256) : Arg w' (.slice (some ⟨g, off, none⟩) l.length cap) l := by
  have hr := h.rd.front
  obtain ⟨a, c, e, h1, h2, h3⟩ := hr.shape
  injection e with e1 e2 e3
  subst e1 e3
  refine .inr (.inr ⟨g, off, l.length, cap, rfl, h2, rfl, h1, ?_, fun i hi => ?_, hb⟩)
  · obtain ⟨b, o, e, hb, _⟩ := h.rd.cell (some ⟨g, off, none⟩) cap (by simp [mark]) l.length (by simp [mark])
    injection e with e; injection e with e1 e2 e3
    omega
  · obtain ⟨b, o, e, _, hc⟩ := hr.cell _ _ rfl i hi
    injection e with e; injection e with e1 e2 e3
    subst e1 e2
    exact hc

theorem readU_codes (v : Value) (n : Nat) (more : List Nat) (w : World) (hn : n < 18446744073709551616) (hv : Rd w v (codeU n ++ more)) (hb : ∀ b ∈ more, b < 256) :
    Calls Tryd.prog 21 #[v] w fun e w' => e = .returned (.tuple #[.int .u64 (n : Int), .int .i64 ((codeU n).length : Int), .int .i64 0]) ∧ Mod (fun _ => False) w w' :=
  (readU_any _ _ _ hv (fun b h => (List.mem_append.1 h).elim (codeU_byte hn b) (hb b))).mono fun e w' h => ⟨h.1.trans (by rw [readU_code hn more]; rfl), h.2⟩
theorem readI_codes (v : Value) (m : Int) (more : List Nat) (w : World) (hm : -9223372036854775808 ≤ m ∧ m < 9223372036854775808) (hv : Rd w v (codeI m ++ more)) (hb : ∀ b ∈ more, b < 256) :
    Calls Tryd.prog 23 #[v] w fun e w' => e = .returned (.tuple #[.int .i64 m, .int .i64 ((codeI m).length : Int), .int .i64 0]) ∧ Mod (fun _ => False) w w' :=
  (readI_any _ _ _ hv (fun b h => (List.mem_append.1 h).elim (codeI_byte hm b) (hb b))).mono fun e w' h => ⟨h.1.trans (by rw [readI_code hm more]; rfl), h.2⟩
theorem readT_codes (v : Value) (l more : List Nat) (most : Nat) (w : World) (hv : Rd w v (codeT l ++ more)) (hl : l.length ≤ most) (hm : most ≤ 65536) :
    Calls Tryd.prog 24 #[v, .int .i64 (most : Int)] w fun e w' => ∃ z, e = .returned (.tuple #[z, .int .i64 ((codeT l).length : Int), .int .i64 0]) ∧ Bytes w w' z l :=
  (readT_any _ _ most _ hv hm).mono fun e w' h => by
    rw [readT_code hl more] at h
    exact h

structure WSt (w : World) (n : Nat) (m : Int) (us vs : List Nat) (va vb vc vp vm : Value) (g off cap : Nat) (wx : World) : Prop where
  ra : Rd wx va (codeU n)
  rb : Rd wx vb (codeI m)
  rc : Rd wx vc (codeT us)
  rp : Rd wx vp us
  rm : Rd wx vm vs
  rf : Rd wx (.slice (some ⟨g, off, none⟩) (us.length + 3) cap) (us ++ mark)
  mod : Mod (fun _ => False) w wx
theorem WSt.keep {w : World} {n : Nat} {m : Int} {us vs : List Nat} {va vb vc vp vm : Value} {g off cap : Nat} {wx wy : World} (h : WSt w n m us vs va vb vc vp vm g off cap wx) (k : Mod (fun _ => False) wx wy) : WSt w n m us vs va vb vc vp vm g off cap wy :=
  ⟨h.ra.keep k, h.rb.keep k, h.rc.keep k, h.rp.keep k, h.rm.keep k, h.rf.keep k, h.mod.trans k⟩

set_option maxRecDepth 100000 in
set_option maxHeartbeats 8000000 in
theorem writes_core (n : Nat) (m : Int) (a1 a2 : Option Addr) (l1 c1 l2 c2 : Nat) (xs ys : List Nat) (w : World) (hn : n < 18446744073709551616) (hm : -9223372036854775808 ≤ m ∧ m < 9223372036854775808)
    (hx : RowIn w a1 l1 c1 xs) (hy : RowIn w a2 l2 c2 ys) (hxb : ∀ b ∈ xs, b < 256) (hyb : ∀ b ∈ ys, b < 256) :
    Calls Tryd.prog 6 #[.int .u64 n, .int .i64 m, .slice a1 l1 c1, .slice a2 l2 c2] w fun e w' => e = .returned (.bool true) ∧ Mod (fun _ => False) w w' := by
  obtain ⟨k1, hk1⟩ : ∃ k : Nat, k = min l1 2000 := ⟨_, rfl⟩
  obtain ⟨k2, hk2⟩ : ∃ k : Nat, k = min l2 50 := ⟨_, rfl⟩
  have m1 := hx.le
  have m2 := hy.le
  have z1 := hx.nil
  have z2 := hy.nil
  have B1 := Lib.hid (hx.arg.to (k := k1) (by omega))
  have B2 := Lib.hid (hy.arg.to (k := k2) (by omega))
  have n1 : k1 ≤ c1 := by omega
  have n2 : k2 ≤ c2 := by omega
  have i1 : min (l1 : Int) 2000 = (k1 : Int) := by omega
  have i2 : min (l2 : Int) 50 = (k2 : Int) := by omega
  have G1 : Hid (k1 ≤ 2000) := Lib.hid (by omega)
  have G2 : Hid (k2 ≤ 50) := Lib.hid (by omega)
  have HXB : Hid (∀ b ∈ xs.take k1, b < 256) := fun b hb => hxb b (List.mem_of_mem_take hb)
  have HYB : Hid (∀ b ∈ ys.take k2, b < 256) := fun b hb => hyb b (List.mem_of_mem_take hb)
  clear hx hy hxb hyb
  have D1 : Hid ((xs.take k1).length ≤ 2000) := Lib.hid (by simp; have := G1.out; omega)
  have D2 : Hid ((ys.take k2).length ≤ 50) := Lib.hid (by simp; have := G2.out; omega)
  generalize hu : xs.take k1 = us at B1 D1 HXB
  generalize hv : ys.take k2 = vs at B2 D2 HYB
  have HN := Lib.hid hn
  have HM := Lib.hid hm
  have P1 := Lib.hid B1.out.rd
  have P2 := Lib.hid B2.out.rd
  clear hu hv G1 G2 B1 B2 hn hm
  have HK1 : Hid (k1 = us.length) := by
    show _ = _
    obtain ⟨a, c, e, -⟩ := P1.out.shape
    injection e
  go_enter Tryd.func6, Tryd.ntmps6
  go_wp2_with fail
  refine (awake_any _).mono ?_
  rintro e w1 ⟨rfl, hm⟩
  have M1 := Lib.hid hm
  clear hm
  go_upto_region 4 with fail
  go_cut [2, 3] (fun p q wx => p = .slice a1 k1 c1 ∧ q = .slice a2 k2 c2 ∧ Mod (fun _ => False) w wx)
  case first =>
    cases a1 <;> cases a2
    case' none.none =>
      obtain rfl := z1 rfl
      obtain rfl := z2 rfl
      obtain rfl : l1 = 0 := by omega
      obtain rfl : l2 = 0 := by omega
      obtain rfl : k1 = 0 := by omega
      obtain rfl : k2 = 0 := by omega
      clear i1 i2
    case' none.some =>
      obtain rfl := z1 rfl
      obtain rfl : l1 = 0 := by omega
      obtain rfl : k1 = 0 := by omega
      clear i1
    case' some.none =>
      obtain rfl := z2 rfl
      obtain rfl : l2 = 0 := by omega
      obtain rfl : k2 = 0 := by omega
      clear i2
    all_goals
      clear z1 z2 hk1 hk2 m1 m2
      go_region
      go_wp2
      go_meet
      exact ⟨rfl, rfl, M1.out.drew⟩
  case rest =>
    obtain ⟨rfl, rfl, hmod⟩ := hcut
    have M2 := Lib.hid hmod
    clear hmod z1 z2 hk1 hk2 m1 m2 n1 n2 i1 i2 M1
    go_wp2_with fail
    refine (spare_any _ us _ (P1.out.keep M2.out).src (by have := D1.out; omega)).mono ?_
    rintro e w3 ⟨g, off, cap, rfl, hsp, hcap, hcm⟩
    have B3 := Lib.hid hsp
    clear hsp
    go_wp2_with fail
    refine (uint_all n HN.out _).mono ?_
    rintro e w4 ⟨va, rfl, hB⟩
    obtain ⟨aa, ca, rfl, -⟩ := hB.seg.shape
    have BA := Lib.hid hB
    clear hB
    go_wp2_with fail
    refine (int_any m HM.out _).mono ?_
    rintro e w5 ⟨vb, rfl, hB⟩
    obtain ⟨ab, cb, rfl, -⟩ := hB.seg.shape
    have BB := Lib.hid hB
    clear hB
    go_wp2_with fail
    refine (text_any _ us _ (spare_arg ((B3.out.fwd BA.out.mod).fwd BB.out.mod) HXB.out) (by have := D1.out; omega)).mono ?_
    rintro e w6 ⟨vc, rfl, hB⟩
    obtain ⟨ac, cc, rfl, -⟩ := hB.seg.shape
    have BC := Lib.hid hB
    clear hB
    have S6 : Hid (WSt w n m us vs (.slice aa (codeU n).length ca) (.slice ab (codeI m).length cb) (.slice ac (codeT us).length cc) (.slice a1 k1 c1) (.slice a2 k2 c2) g off cap w6) :=
      ⟨(BA.out.fwd (BB.out.mod.trans BC.out.mod)).rd, (BB.out.fwd BC.out.mod).rd, BC.out.rd, P1.out.keep (M2.out.trans (B3.out.mod.trans (BA.out.mod.trans (BB.out.mod.trans BC.out.mod)))), P2.out.keep (M2.out.trans (B3.out.mod.trans (BA.out.mod.trans (BB.out.mod.trans BC.out.mod)))),
        by have := (B3.out.fwd (BA.out.mod.trans (BB.out.mod.trans BC.out.mod))).rd; exact this, M2.out.trans (B3.out.mod.trans (BA.out.mod.trans (BB.out.mod.trans BC.out.mod)))⟩
    clear BA BB BC B3 P1 P2 M2
    go_wp2_with fail
    refine (refUint_any n HN.out _).mono ?_
    rintro e w7 ⟨v7, rfl, hB⟩
    have S7 := Lib.hid (S6.out.keep hB.mod)
    have R7 := Lib.hid hB.rd
    clear hB S6
    go_wp2_with fail
    refine (same_any _ _ _ _ _ S7.out.ra R7.out).mono ?_
    rintro e w8 ⟨rfl, hm⟩
    rw [show sameB (codeU n) (codeU n) = true by simp [sameB]]
    have S8 := Lib.hid (S7.out.keep hm)
    clear hm S7 R7
    go_wp2_with fail
    refine (refInt_any m HM.out _).mono ?_
    rintro e w9 ⟨v9, rfl, hB⟩
    have S9 := Lib.hid (S8.out.keep hB.mod)
    have R9 := Lib.hid hB.rd
    clear hB S8
    go_wp2_with fail
    refine (same_any _ _ _ _ _ S9.out.rb R9.out).mono ?_
    rintro e w10 ⟨rfl, hm⟩
    rw [show sameB (codeI m) (codeI m) = true by simp [sameB]]
    have S10 := Lib.hid (S9.out.keep hm)
    clear hm S9 R9
    go_wp2_with fail
    refine (refText_any _ us _ S10.out.rp (by have := D1.out; omega)).mono ?_
    rintro e w11 ⟨v11, rfl, hB⟩
    have S11 := Lib.hid (S10.out.keep hB.mod)
    have R11 := Lib.hid hB.rd
    clear hB S10
    go_wp2_with fail
    refine (same_any _ _ _ _ _ S11.out.rc R11.out).mono ?_
    rintro e w12 ⟨rfl, hm⟩
    rw [show sameB (codeT us) (codeT us) = true by simp [sameB]]
    have S12 := Lib.hid (S11.out.keep hm)
    clear hm S11 R11
    go_wp2_with fail
    refine (kept_any g off cap _ us _ S12.out.rf S12.out.rp).mono ?_
    rintro e w13 ⟨rfl, hm⟩
    have S13 := Lib.hid (S12.out.keep hm)
    clear hm S12
    have la := codeU_len n HN.out
    have lb := codeI_len m HM.out
    have lc := codeT_len us
    have l0 := D1.out
    have l2 := D2.out
    have LA := Lib.hid la
    have LB := Lib.hid lb
    have LC : Hid ((codeT us).length ≤ 4002) := Lib.hid (by omega)
    clear la lb lc l0 l2
    obtain ⟨i0, hi, hz0, hz1, hz2⟩ := info_parts infoU8
    have HI : Hid (Tryd.prog.info? 5 = some i0 ∧ i0.zero = some (.int .u8 0) ∧ i0.size = 1 ∧ i0.bytes = 1) := ⟨hi, hz0, hz1, hz2⟩
    clear hi hz0 hz1 hz2
    go_wp2_with fail
    refine (twin_any _ (codeU n) _ S13.out.ra.src (by have := LA.out; omega)).mono ?_
    rintro e w14 ⟨v14, rfl, hB⟩
    have S14 := Lib.hid (S13.out.keep hB.mod)
    have B14 := Lib.hid hB
    clear hB
    have HLS : Hid (vs.length ≤ 50) := D2
    go_wp2_with (at_builtin; refine wpList_append_seg rfl (.tmp 73) (.tmp 74) 23 rfl i0 _ 1 1 Tryd.underlying23 HI.out.1 HI.out.2.1 HI.out.2.2.1 HI.out.2.2.2 rfl (by decide) rfl B14.out.seg _ _ _ rfl S14.out.rm.src (by have := LA.out; have := HLS.out; unfold maxLen; omega) (by have := LA.out; have := HLS.out; omega) ?_; intro v15 w15 hs hg ho; (have B15 : Hid (Bytes _ w15 v15 (codeU n ++ vs)) := B14.out.appSrc hs hg ho); clear hs hg ho)
    have S15 := Lib.hid (S13.out.keep B15.out.mod)
    obtain ⟨a15, c15, rfl, -⟩ := B15.out.seg.shape
    have R15 := Lib.hid B15.out.rd
    clear S13 S14 B14 B15
    refine (readU_codes _ n vs _ HN.out R15.out HYB.out).mono ?_
    rintro e w16 ⟨rfl, hm⟩
    have S16 := Lib.hid (S15.out.keep hm)
    clear hm S15 R15
    go_wp2_with fail
    refine (twin_any _ (codeI m) _ S16.out.rb.src (by have := LB.out; omega)).mono ?_
    rintro e w17 ⟨v17, rfl, hB⟩
    have S17 := Lib.hid (S16.out.keep hB.mod)
    have B17 := Lib.hid hB
    clear hB
    go_wp2_with (at_builtin; refine wpList_append_seg rfl (.tmp 82) (.tmp 83) 23 rfl i0 _ 1 1 Tryd.underlying23 HI.out.1 HI.out.2.1 HI.out.2.2.1 HI.out.2.2.2 rfl (by decide) rfl B17.out.seg _ _ _ rfl S17.out.rm.src (by have := LB.out; have := HLS.out; unfold maxLen; omega) (by have := LB.out; have := HLS.out; omega) ?_; intro v18 w18 hs hg ho; (have B18 : Hid (Bytes _ w18 v18 (codeI m ++ vs)) := B17.out.appSrc hs hg ho); clear hs hg ho)
    have S18 := Lib.hid (S16.out.keep B18.out.mod)
    obtain ⟨a18, c18, rfl, -⟩ := B18.out.seg.shape
    have R18 := Lib.hid B18.out.rd
    clear S16 S17 B17 B18
    refine (readI_codes _ m vs _ HM.out R18.out HYB.out).mono ?_
    rintro e w19 ⟨rfl, hm⟩
    have S19 := Lib.hid (S18.out.keep hm)
    clear hm S18 R18
    go_wp2_with fail
    refine (twin_any _ (codeT us) _ S19.out.rc.src (by have := LC.out; omega)).mono ?_
    rintro e w20 ⟨v20, rfl, hB⟩
    have S20 := Lib.hid (S19.out.keep hB.mod)
    have B20 := Lib.hid hB
    clear hB
    have e1 := HK1.out
    subst e1
    go_wp2_with (at_builtin; refine wpList_append_seg rfl (.tmp 91) (.tmp 92) 23 rfl i0 _ 1 1 Tryd.underlying23 HI.out.1 HI.out.2.1 HI.out.2.2.1 HI.out.2.2.2 rfl (by decide) rfl B20.out.seg _ _ _ rfl S20.out.rm.src (by have := LC.out; have := HLS.out; unfold maxLen; omega) (by have := LC.out; have := HLS.out; omega) ?_; intro v21 w21 hs hg ho; (have B21 : Hid (Bytes _ w21 v21 (codeT us ++ vs)) := B20.out.appSrc hs hg ho); clear hs hg ho)
    have S21 := Lib.hid (S19.out.keep B21.out.mod)
    obtain ⟨a21, c21, rfl, -⟩ := B21.out.seg.shape
    have R21 := Lib.hid B21.out.rd
    clear S19 S20 B20 B21
    refine (readT_codes _ us vs us.length _ R21.out (Nat.le_refl _) (by have := D1.out; omega)).mono ?_
    rintro e w22 ⟨z, rfl, hB⟩
    have S22 := Lib.hid (S21.out.keep hB.mod)
    have R22 := Lib.hid hB.rd
    obtain ⟨az, cz, rfl, -⟩ := hB.seg.shape
    clear hB S21 R21
    go_wp2_with fail
    refine (same_any _ _ _ _ _ R22.out S22.out.rp).mono ?_
    rintro e w23 ⟨rfl, hm⟩
    rw [show sameB us us = true by simp [sameB]]
    have S23 := Lib.hid (S22.out.keep hm)
    clear hm S22 R22
    go_wp2
    go_ret
    exact ⟨rfl, S23.out.mod⟩
end Go.Proofs.YtggbohdgcalblaaDoor
