/- The walk of RankApart. -/
import Derived.Test.YtggbohdgcalblaaDoorIn2
namespace Go.Proofs.YtggbohdgcalblaaDoor
set_option linter.unusedVariables false
open Go.RowKit

theorem codeR_parse {N1 N2 : Int} {M1 M2 : Nat} {S1 S2 r s : List Nat} (h1 : -9223372036854775808 ≤ N1 ∧ N1 < 9223372036854775808) (h2 : -9223372036854775808 ≤ N2 ∧ N2 < 9223372036854775808) (m1 : M1 < 18446744073709551616) (m2 : M2 < 18446744073709551616)
    (h : codeR N1 S1 M1 ++ r = codeR N2 S2 M2 ++ s) : N1 = N2 ∧ S1 = S2 ∧ M1 = M2 ∧ r = s := by
  unfold codeR at h
  rw [List.append_assoc, List.append_assoc, List.append_assoc, List.append_assoc] at h
  obtain ⟨a, h⟩ := codeI_parse h1 h2 h
  obtain ⟨b, h⟩ := codeT_parse h
  obtain ⟨c, h⟩ := codeU_parse m1 m2 h
  exact ⟨a, b, c, h⟩
def oneR (N1 : Int) (S1 : List Nat) (M1 : Nat) (N2 : Int) (S2 : List Nat) (M2 : Nat) : Bool := decide (N1 = N2 ∧ S1 = S2 ∧ M1 = M2)
theorem codeR_same {N1 N2 : Int} {M1 M2 : Nat} {S1 S2 : List Nat} (h1 : -9223372036854775808 ≤ N1 ∧ N1 < 9223372036854775808) (h2 : -9223372036854775808 ≤ N2 ∧ N2 < 9223372036854775808) (m1 : M1 < 18446744073709551616) (m2 : M2 < 18446744073709551616) :
    sameB (codeR N1 S1 M1) (codeR N2 S2 M2) = oneR N1 S1 M1 N2 S2 M2 := by
  unfold sameB oneR
  congr 1
  refine propext ⟨fun h => ?_, fun ⟨a, b, c⟩ => by rw [a, b, c]⟩
  obtain ⟨a, b, c, _⟩ := codeR_parse (r := []) (s := []) h1 h2 m1 m2 (by rw [h])
  exact ⟨a, b, c⟩
theorem codeR_front {N1 N2 : Int} {M1 M2 : Nat} {S1 S2 : List Nat} (h1 : -9223372036854775808 ≤ N1 ∧ N1 < 9223372036854775808) (h2 : -9223372036854775808 ≤ N2 ∧ N2 < 9223372036854775808) (m1 : M1 < 18446744073709551616) (m2 : M2 < 18446744073709551616)
    (hl : (codeR N1 S1 M1).length < (codeR N2 S2 M2).length) : sameB (codeR N1 S1 M1) ((codeR N2 S2 M2).take (codeR N1 S1 M1).length) = false := by
  unfold sameB
  rw [decide_eq_false_iff_not]
  intro h
  have e := List.take_append_drop (codeR N1 S1 M1).length (codeR N2 S2 M2)
  rw [← h] at e
  obtain ⟨_, _, _, hd⟩ := codeR_parse (s := []) h1 h2 m1 m2 (by rw [e, List.append_nil])
  have := congrArg List.length hd
  simp at this
  omega
theorem codeR_ne (N : Int) (S : List Nat) (M : Nat) : codeR N S M ≠ [] := by
  unfold codeR codeU; simp
theorem codeR_length (N : Int) (S : List Nat) (M : Nat) : (codeR N S M).length = (codeI N).length + (codeT S).length + (codeU M).length := by
  unfold codeR; simp [Nat.add_assoc]
theorem codeR_drop1 (N : Int) (S : List Nat) (M : Nat) : (codeR N S M).drop (codeI N).length = codeT S ++ codeU M := by
  unfold codeR; rw [List.append_assoc, List.drop_left]
theorem codeR_drop2 (N : Int) (S : List Nat) (M : Nat) : (codeR N S M).drop ((codeI N).length + (codeT S).length) = codeU M := by
  unfold codeR; rw [← List.length_append, List.drop_left]
theorem Rd.take_lit {w : World} {ad : Addr} {l : List Nat} {n cap k : Nat} (h : Rd w (.slice (some ad) n cap) l) (hk : k ≤ l.length) : Rd w (.slice (some ad) k cap) (l.take k) := by
  have e : l = l.take k ++ l.drop k := (List.take_append_drop k l).symm
  rw [e] at h
  have := h.front
  rwa [show (l.take k).length = k by simp; omega] at this

structure ASt (w : World) (N1 N2 : Int) (s1 s2 : Value) (M1 M2 : Nat) (us vs : List Nat) (pp pq : Value) (wx : World) : Prop where
  rows : RowsAt w #[.int .i64 N1, s1, .int .u64 M1] #[.int .i64 N2, s2, .int .u64 M2] wx
  rp : Rd wx pp (codeR N1 us M1)
  rq : Rd wx pq (codeR N2 vs M2)
  r1 : Rd wx s1 us
  r2 : Rd wx s2 vs
theorem ASt.keep {w : World} {N1 N2 : Int} {s1 s2 : Value} {M1 M2 : Nat} {us vs : List Nat} {pp pq : Value} {wx wy : World} (h : ASt w N1 N2 s1 s2 M1 M2 us vs pp pq wx) (k : Mod (fun _ => False) wx wy) : ASt w N1 N2 s1 s2 M1 M2 us vs pp pq wy :=
  ⟨h.rows.more k, h.rp.keep k, h.rq.keep k, h.r1.keep k, h.r2.keep k⟩
theorem RowsAt.first {w wx : World} {o2 : Array Value} {x y z : Value} (h : RowsAt w #[x, y, z] o2 wx) : wx.cell? ⟨w.heap.size, 0, none⟩ = some x ∧ wx.cell? ⟨w.heap.size, 1, none⟩ = some y ∧ wx.cell? ⟨w.heap.size, 2, none⟩ = some z :=
  ⟨cell_of_row h.r1 0, cell_of_row h.r1 1, cell_of_row h.r1 2⟩

theorem codeT_byte {l : List Nat} (h : ∀ b ∈ l, b < 256) : ∀ b ∈ codeT l, b < 256 := by
  intro b hb
  simp only [codeT, esc, List.mem_append, List.mem_flatMap] at hb
  rcases hb with ⟨a, ha, hb⟩ | hb
  · have := h a ha
    unfold esc1 at hb
    split at hb <;> simp at hb <;> omega
  · simp at hb; omega
theorem readT_500 (v : Value) (l more : List Nat) (w : World) (hv : Rd w v (codeT l ++ more)) (hl : l.length ≤ 500) :
    Calls Tryd.prog 24 #[v, .int .i64 500] w fun e w' => ∃ z, e = .returned (.tuple #[z, .int .i64 ((codeT l).length : Int), .int .i64 0]) ∧ Bytes w w' z l :=
  readT_codes v l more 500 w hv hl (by decide)
theorem apart_rd6 {w : World} {v : Value} {l a b : List Nat} {k : Nat} (e : l.drop k = a ++ b) (h : Rd w v (l.drop k)) : ∃ x n d, v = .slice x n d ∧ Hid (Rd w (.slice x n d) (a ++ b)) := by
  obtain ⟨x, d, rfl, -⟩ := h.shape
  rw [e] at h ⊢
  exact ⟨_, _, _, rfl, h⟩
theorem apart_rd8 {w : World} {v : Value} {l b : List Nat} {k : Nat} (e : l.drop k = b) (h : Rd w v (l.drop k)) : ∃ x n d, v = .slice x n d ∧ Hid (Rd w (.slice x n d) (b ++ [])) :=
  apart_rd6 (by rw [List.append_nil, e]) h
set_option maxRecDepth 100000 in
set_option maxHeartbeats 8000000 in
theorem apart_core (N1 N2 : Int) (M1 M2 : Nat) (a1 a2 : Option Addr) (l1 c1 l2 c2 : Nat) (xs ys : List Nat) (w : World) (hN1 : -9223372036854775808 ≤ N1 ∧ N1 < 9223372036854775808) (hN2 : -9223372036854775808 ≤ N2 ∧ N2 < 9223372036854775808)
    (hM1 : M1 < 18446744073709551616) (hM2 : M2 < 18446744073709551616) (hx : RowIn w a1 l1 c1 xs) (hy : RowIn w a2 l2 c2 ys) (hxb : ∀ b ∈ xs, b < 256) :
    Calls Tryd.prog 8 #[.agg #[.int .i64 N1, .slice a1 l1 c1, .int .u64 M1], .agg #[.int .i64 N2, .slice a2 l2 c2, .int .u64 M2]] w fun e w' => e = .returned (.bool true) ∧ Mod (fun _ => False) w w' := by
  obtain ⟨k1, hk1⟩ : ∃ k : Nat, k = min l1 500 := ⟨_, rfl⟩
  obtain ⟨k2, hk2⟩ : ∃ k : Nat, k = min l2 500 := ⟨_, rfl⟩
  have m1 := hx.le
  have m2 := hy.le
  have z1 := hx.nil
  have z2 := hy.nil
  have B1 := Lib.hid (hx.arg.to (k := k1) (by omega))
  have B2 := Lib.hid (hy.arg.to (k := k2) (by omega))
  have n1 : k1 ≤ c1 := by omega
  have n2 : k2 ≤ c2 := by omega
  have i1 : min (l1 : Int) 500 = (k1 : Int) := by omega
  have i2 : min (l2 : Int) 500 = (k2 : Int) := by omega
  have G1 : Hid (k1 ≤ 500) := Lib.hid (by omega)
  have G2 : Hid (k2 ≤ 500) := Lib.hid (by omega)
  clear hx hy
  generalize hu : xs.take k1 = us at B1
  generalize hv : ys.take k2 = vs at B2
  have D1 : us.length ≤ 500 := by rw [← hu]; simp; have := G1.out; omega
  have D2 : vs.length ≤ 500 := by rw [← hv]; simp; have := G2.out; omega
  have HBU : Hid (∀ b ∈ us, b < 256) := fun b hb => hxb b (List.mem_of_mem_take (hu ▸ hb))
  clear hu hv hxb
  have T1 : Hid (∀ w' : World, Mod (fun _ => False) w w' → Calls Tryd.prog 15 #[.agg #[.int .i64 N1, .slice a1 k1 c1, .int .u64 M1]] w' (GivesBytes w' (codeR N1 us M1))) := fun w' m => row_any N1 hN1 _ us M1 hM1 w' (B1.out.mod m (fun _ _ f => f)) D1
  have T2 : Hid (∀ w' : World, Mod (fun _ => False) w w' → Calls Tryd.prog 15 #[.agg #[.int .i64 N2, .slice a2 k2 c2, .int .u64 M2]] w' (GivesBytes w' (codeR N2 vs M2))) := fun w' m => row_any N2 hN2 _ vs M2 hM2 w' (B2.out.mod m (fun _ _ f => f)) D2
  have Q1 := Lib.hid B1.out.rd
  have Q2 := Lib.hid B2.out.rd
  have LF := Lib.hid (codeR_front (S1 := us) (S2 := vs) hN1 hN2 hM1 hM2)
  have LS := Lib.hid (codeR_same (S1 := us) (S2 := vs) hN1 hN2 hM1 hM2)
  have HD1 := Lib.hid D1
  have HD2 := Lib.hid D2
  have HN1 := Lib.hid hN1
  have HM1 := Lib.hid hM1
  clear B1 B2 D1 D2 G1 G2 hN1 hN2 hM1 hM2
  obtain ⟨s1, hs1⟩ : ∃ s, s = Value.slice a1 k1 c1 := ⟨_, rfl⟩
  obtain ⟨s2, hs2⟩ : ∃ s, s = Value.slice a2 k2 c2 := ⟨_, rfl⟩
  rw [← hs1] at T1 Q1
  rw [← hs2] at T2 Q2
  have HS1 := Lib.hid hs1
  have HS2 := Lib.hid hs2
  clear hs1 hs2
  go_enter Tryd.func8, Tryd.ntmps8
  go_wp2_with fail
  refine (awake_any _).mono ?_
  rintro e w1 ⟨rfl, hm⟩
  have R0 := Lib.hid ((RowsAt.begin w _ _).more hm)
  clear hm
  have e0 := R0.out.cells 0
  have e1 := R0.out.cells 1
  have e2 := R0.out.cells 2
  simp at e0 e1 e2
  obtain ⟨q10, q20, g10, g20⟩ := e0
  obtain ⟨q11, q21, g11, g21⟩ := e1
  obtain ⟨q12, q22, g12, g22⟩ := e2
  have zw := lt_of_block R0.out.r2
  go_upto_region 4 with fail
  go_cut [] (fun wx => RowsAt w #[.int .i64 N1, s1, .int .u64 M1] #[.int .i64 N2, s2, .int .u64 M2] wx)
  case first =>
    /- F0 -/
    cases a1 <;> cases a2
    case' none.none =>
      obtain rfl := z1 rfl
      obtain rfl := z2 rfl
      obtain rfl : l1 = 0 := by omega
      obtain rfl : l2 = 0 := by omega
      obtain rfl : k1 = 0 := by omega
      obtain rfl : k2 = 0 := by omega
      clear i1 i2
    case' none.some =>
      obtain rfl := z1 rfl
      obtain rfl : l1 = 0 := by omega
      obtain rfl : k1 = 0 := by omega
      clear i1
    case' some.none =>
      obtain rfl := z2 rfl
      obtain rfl : l2 = 0 := by omega
      obtain rfl : k2 = 0 := by omega
      clear i2
    all_goals
      clear z1 z2 hk1 hk2 m1 m2
      go_region
      all_goals
        go_wp2
        go_meet
        rw [HS1.out, HS2.out]
        repeat (first | exact (R0.out.store1 1 _).store2 1 _ | exact (R0.out.store2 1 _).store1 1 _ | apply RowsAt.drew)
    /- F1 -/
  case rest =>
    clear R0 q10 q20 g10 g20 q11 q21 g11 g21 q12 q22 g12 g22 zw HS1 HS2 z1 z2 hk1 hk2 m1 m2 n1 n2 i1 i2
    have HR := Lib.hid hcut
    obtain ⟨q10, q11, q12⟩ := hcut.first
    obtain ⟨q20, q21, q22⟩ := hcut.second
    clear hcut
    go_upto_region 5 with fail
    go_cut [5, 6] (fun p q wx => ∃ g1 o1 c1 g2 o2 c2, p = .slice (some ⟨g1, o1, none⟩) (codeR N1 us M1).length c1 ∧ q = .slice (some ⟨g2, o2, none⟩) (codeR N2 vs M2).length c2 ∧ (codeR N2 vs M2).length ≤ c2 ∧ ASt w N1 N2 s1 s2 M1 M2 us vs p q wx)
    case first =>
      go_region_law (first
        | (go_simp; go_at_call_of 15 s1; refine (T1.out _ (by first | exact HR.out.mod | exact HR.out.mod.drew)).mono ?_; rintro e w5 ⟨v5, rfl, hB⟩; have B5 : Hid (Bytes wc w5 v5 (codeR N1 us M1)) := (by show Bytes _ _ _ _; first | exact hB | exact hB.undrew); clear hB; have HR5 := Lib.hid (HR.out.more B5.out.mod); obtain ⟨q50, q51, q52⟩ := HR5.out.second)
        | (go_simp; go_at_call_of 15 s2; refine (T2.out _ (by first | exact HR5.out.mod | exact HR5.out.mod.drew)).mono ?_; rintro e w6 ⟨v6, rfl, hB⟩; have B6 : Hid (Bytes w5 w6 v6 (codeR N2 vs M2)) := (by show Bytes _ _ _ _; first | exact hB | exact hB.undrew); clear hB))
      all_goals
        go_wp2
        go_meet
        obtain ⟨g1, o1, c1, e5, -⟩ := B5.out.opened (codeR_ne _ _ _)
        obtain ⟨g2, o2, c2, e6, -, -, hc, -⟩ := B6.out.opened (codeR_ne _ _ _)
        have hst : ASt w N1 N2 s1 s2 M1 M2 us vs v5 v6 w6 := ⟨HR5.out.more B6.out.mod, B5.out.rd.keep B6.out.mod, B6.out.rd, Q1.out.keep (HR5.out.mod.trans B6.out.mod), Q2.out.keep (HR5.out.mod.trans B6.out.mod)⟩
        exact ⟨g1, o1, c1, g2, o2, c2, e5, e6, hc, hst⟩
    case rest =>
      obtain ⟨g1, o1, c1, g2, o2, c2, rfl, rfl, hc2, hst⟩ := hcut
      clear HR q10 q11 q12 q20 q21 q22 T1 T2 Q1 Q2
      have S0 := Lib.hid hst
      obtain ⟨q10, q11, q12⟩ := hst.rows.first
      obtain ⟨q20, q21, q22⟩ := hst.rows.second
      clear hst
      have hcm2 : c2 ≤ 9223372036854775807 := by
        obtain ⟨a, c, e, _, h, _⟩ := S0.out.rq.shape
        injection e with e1 e2 e3
        omega
      go_upto_region 5 with fail
      go_cut [7] (fun o wx => o = .bool (oneR N1 us M1 N2 vs M2) ∧ ASt w N1 N2 s1 s2 M1 M2 us vs (.slice (some ⟨g1, o1, none⟩) (codeR N1 us M1).length c1) (.slice (some ⟨g2, o2, none⟩) (codeR N2 vs M2).length c2) wx)
      case first =>
        by_cases hN : N1 = N2
        · have hb2 : (N1 == N2) = true := by simp [hN]
          have HN := Lib.hid hN
          clear hN
          go_wp2_with fail
          refine (same_any _ _ _ _ _ S0.out.r1 S0.out.r2).mono ?_
          rintro e w3 ⟨rfl, hm⟩
          have S3 := Lib.hid (S0.out.keep hm)
          clear hm S0 q10 q11 q12 q20 q21 q22
          obtain ⟨q10, q11, q12⟩ := S3.out.rows.first
          obtain ⟨q20, q21, q22⟩ := S3.out.rows.second
          by_cases hS : us = vs
          · have hb3 : sameB us vs = true := by simp [sameB, hS]
            have HS := Lib.hid hS
            rw [hb3]
            clear hS hb3
            go_wp2
            go_meet
            refine ⟨?_, S3.out⟩
            unfold oneR
            rw [natBeq]
            simp [HN.out, HS.out]
          · have hb3 : sameB us vs = false := by simp [sameB, hS]
            have HS := Lib.hid hS
            rw [hb3]
            clear hS hb3
            go_wp2
            go_meet
            exact ⟨by unfold oneR; simp [HS.out], S3.out⟩
        · have hb2 : (N1 == N2) = false := by simp [hN]
          have HN := Lib.hid hN
          clear hN
          go_wp2
          go_meet
          exact ⟨by unfold oneR; simp [HN.out], S0.out⟩
      case rest =>
        obtain ⟨rfl, hst⟩ := hcut
        clear S0 q10 q11 q12 q20 q21 q22
        have S0 := Lib.hid hst
        clear hst
        have HLEN := Lib.hid (codeR_length N1 us M1)
        have HB1 := Lib.hid (codeI_len N1 HN1.out)
        have HB2 := Lib.hid (codeT_len us)
        have HB3 := Lib.hid (codeU_len M1 HM1.out)
        have HE1 := Lib.hid (codeR_drop1 N1 us M1)
        have HE2 := Lib.hid (codeR_drop2 N1 us M1)
        have HP : Hid (Rd wc (.slice (some ⟨g1, o1, none⟩) (codeR N1 us M1).length c1) (codeR N1 us M1)) := S0.out.rp
        go_upto_region 6 with fail
        go_cut [77] (fun b wx => b = .bool false ∧ ASt w N1 N2 s1 s2 M1 M2 us vs (.slice (some ⟨g1, o1, none⟩) (codeR N1 us M1).length c1) (.slice (some ⟨g2, o2, none⟩) (codeR N2 vs M2).length c2) wx)
        case first =>
          by_cases hlt : (codeR N1 us M1).length < (codeR N2 vs M2).length
          · have hle : (codeR N1 us M1).length ≤ c2 := by omega
            have HF := Lib.hid (LF.out hlt)
            have HT := Lib.hid (S0.out.rq.take_lit (k := (codeR N1 us M1).length) (by omega))
            have hlt2 : ((codeR N1 us M1).length : Int) < ((codeR N2 vs M2).length : Int) := by omega
            go_wp2_with fail
            refine (same_any _ _ _ _ _ S0.out.rp HT.out).mono ?_
            rintro e w3 ⟨rfl, hm⟩
            rw [HF.out]
            have S3 := Lib.hid (S0.out.keep hm)
            clear hm S0
            go_wp2_with fail
            refine (same_any _ _ _ _ _ S3.out.rp S3.out.rq).mono ?_
            rintro e w4 ⟨rfl, hm⟩
            rw [LS.out]
            have S4 := Lib.hid (S3.out.keep hm)
            clear hm S3
            go_wp2
            go_meet
            exact ⟨by cases oneR N1 us M1 N2 vs M2 <;> rfl, S4.out⟩
          · have hlt2 : ¬ ((codeR N1 us M1).length : Int) < ((codeR N2 vs M2).length : Int) := by omega
            go_wp2_with fail
            refine (same_any _ _ _ _ _ S0.out.rp S0.out.rq).mono ?_
            rintro e w4 ⟨rfl, hm⟩
            rw [LS.out]
            have S4 := Lib.hid (S0.out.keep hm)
            clear hm S0
            go_wp2
            go_meet
            exact ⟨by cases oneR N1 us M1 N2 vs M2 <;> rfl, S4.out⟩
        case rest =>
          obtain ⟨rfl, hst⟩ := hcut
          clear S0 HP
          have S0 := Lib.hid hst
          clear hst
          have hap : codeR N1 us M1 = codeI N1 ++ (codeT us ++ codeU M1) := by unfold codeR; rw [List.append_assoc]
          have HAP := Lib.hid hap
          clear hap
          have HR1 : Hid (Rd wc (.slice (some ⟨g1, o1, none⟩) (codeR N1 us M1).length c1) (codeI N1 ++ (codeT us ++ codeU M1))) := by
            show Rd _ _ _
            have := S0.out.rp
            have e := HAP.out
            rw [e] at this ⊢
            exact this
          have hby : ∀ b ∈ codeT us ++ codeU M1, b < 256 := fun b hb => (List.mem_append.1 hb).elim (codeT_byte HBU.out b) (codeU_byte HM1.out b)
          have HBY := Lib.hid hby
          clear hby
          go_wp2_with fail
          refine (readI_codes _ N1 _ _ HN1.out HR1.out HBY.out).mono ?_
          rintro e w5 ⟨rfl, hm⟩
          have S5 := Lib.hid (S0.out.keep hm)
          clear hm S0 HR1
          have hli : (codeI N1).length ≤ (codeR N1 us M1).length := by rw [HLEN.out]; omega
          have hlj : (codeI N1).length + (codeT us).length ≤ (codeR N1 us M1).length := by rw [HLEN.out]; omega
          have HLI := Lib.hid hli
          have HLJ := Lib.hid hlj
          have b1 := HB1.out
          have b2 := HB2.out
          have b3 := HB3.out
          have b4 := HD1.out
          have b5 : (codeT us).length ≤ 1002 := by omega
          clear hli hlj b2 b4
          go_wp2_with (refine wpList_from_rd rfl (.tmp 87) (.tmp 88) 23 rfl S5.out.rp (codeI N1).length .i64 rfl rfl HLI.out Tryd.underlying23 sizeU8 ?_; intro v6 hv6 ho6; (obtain ⟨a6, n6, d6, rfl, HV6⟩ := apart_rd6 HE1.out hv6); clear hv6 ho6)
          refine (readT_500 _ us _ _ HV6.out HD1.out).mono ?_
          rintro e w7 ⟨z, rfl, hB⟩
          have S7 := Lib.hid (S5.out.keep hB.mod)
          have HZ := Lib.hid hB.rd
          clear hB S5 HV6
          have HSUM : Hid (((codeI N1).length : Int) + ((codeT us).length : Int) = (((codeI N1).length + (codeT us).length : Nat) : Int)) := Lib.hid (by omega)
          go_wp2_with (refine wpList_from_rd rfl (.tmp 97) (.tmp 100) 23 rfl S7.out.rp ((codeI N1).length + (codeT us).length) .i64 rfl rfl HLJ.out Tryd.underlying23 sizeU8 ?_; intro v8 hv8 ho8; (obtain ⟨a8, n8, d8, rfl, HV8⟩ := apart_rd8 HE2.out hv8); clear hv8 ho8)
          refine (readU_codes _ M1 [] _ HM1.out HV8.out (by simp)).mono ?_
          rintro e w9 ⟨rfl, hm⟩
          have S9 := Lib.hid (S7.out.keep hm)
          have HZ9 := Lib.hid (HZ.out.keep hm)
          clear hm S7 HZ HV8
          obtain ⟨q10, q11, q12⟩ := S9.out.rows.first
          obtain ⟨az, cz, rfl, -⟩ := HZ9.out.shape
          go_wp2_with fail
          refine (same_any _ _ _ _ _ HZ9.out S9.out.r1).mono ?_
          rintro e w10 ⟨rfl, hm⟩
          rw [show sameB us us = true by simp [sameB]]
          have S10 := Lib.hid (S9.out.keep hm)
          clear hm S9 HZ9 q10 q11 q12
          obtain ⟨q10, q11, q12⟩ := S10.out.rows.first
          have heq : (((codeI N1).length : Int) + ((codeT us).length : Int) + ((codeU M1).length : Int) == ((codeR N1 us M1).length : Int)) = true := by
            rw [HLEN.out]; simp
          go_wp2
          go_ret
          exact ⟨rfl, S10.out.rows.mod⟩
theorem apart_all (v0 v1 : Value) (w : World) (h0 : InRow w v0) (h1 : InRow w v1) : Calls Tryd.prog 8 #[v0, v1] w fun e w' => e = .returned (.bool true) ∧ Below w.heap.size w w' := by
  obtain ⟨N1, a1, l1, c1, M1, xs, rfl, hN1, hM1, hx⟩ := h0
  obtain ⟨N2, a2, l2, c2, M2, ys, rfl, hN2, hM2, hy⟩ := h1
  exact (apart_core N1 N2 M1 M2 a1 a2 l1 c1 l2 c2 xs ys w hN1 hN2 hM1 hM2 hx hy hx.arg.byte).mono fun _ _ ⟨h, m⟩ => ⟨h, m.toBelow (Nat.le_refl _) (fun _ _ f => f)⟩
end Go.Proofs.YtggbohdgcalblaaDoor
