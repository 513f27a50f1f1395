/- The contract of bytes.Replace where a zero becomes a zero and 255. -/
import Derived.Test.YtggbohdgcalblaaDoorR2
import Derived.Test.YtggbohdgcalblaaDoorP3
namespace Go.Proofs.YtggbohdgcalblaaDoor
set_option linter.unusedVariables false
open Go.RowKit

/-- A slice of bytes that may be read: an address, so many bytes. -/
structure ReadAt (w : World) (b off n c : Nat) (zs : List Nat) : Prop where
  len : zs.length = n
  cap : n ≤ c
  lt : b < w.heap.size
  cell : ∀ i, i < n → w.cell? ⟨b, off + i, none⟩ = some (.int .u8 ((zs.getD i 0 : Nat) : Int))
  byte : ∀ x ∈ zs, x < 256
theorem ReadAt.mod {S : Nat → Prop} {w w' : World} {b off n c : Nat} {zs : List Nat} (h : ReadAt w b off n c zs) (m : Mod S w w') (hs : ¬ S b) : ReadAt w' b off n c zs :=
  ⟨h.len, h.cap, Nat.lt_of_lt_of_le h.lt m.size, fun i hi => (World.cell?_of_block (w := w) (m.block b h.lt hs)).trans (h.cell i hi), h.byte⟩
theorem ReadAt.at (w : World) {b off n c : Nat} {zs : List Nat} (h : ReadAt w b off n c zs) (st : Nat) : ∀ i, i < n - st → w.cell? ((⟨b, off + st, none⟩ : Addr).add i) = some (.int .u8 ((ints (zs.drop st)).getD i 0)) := by
  intro i hi
  rw [addr_add, ints_getD, Nat.add_assoc, h.cell (st + i) (by omega)]
  simp [List.getD_eq_getElem?_getD, List.getElem?_drop]

structure RepAt (w0 wr : World) (g N : Nat) (zs : List Nat) (st i : Nat) : Prop where
  hst : st ≤ zs.length
  cnt : (zs.take st).count 0 = i
  row : ∃ cur : List Value, wr.heap[g]? = some (.cells cur.toArray 5 (0, 0)) ∧ cur.length = N ∧ cur.take (bs (esc (zs.take st))).length = bs (esc (zs.take st))
  below : Below w0.heap.size w0 wr
  hg : w0.heap.size ≤ g

theorem RepAt.len {w0 wr : World} {g N : Nat} {zs : List Nat} {st i : Nat} (h : RepAt w0 wr g N zs st i) : (bs (esc (zs.take st))).length = st + i := by
  rw [bs_length, esc_length, h.cnt, List.length_take, Nat.min_eq_left h.hst, Nat.mul_one]
theorem RepAt.next {w0 wr w6 : World} {g N : Nat} {zs : List Nat} {st i k : Nat} {cur : List Value} (h : RepAt w0 wr g N zs st i) (hcur : cur.length = N) (hpre : cur.take (bs (esc (zs.take st))).length = bs (esc (zs.take st)))
    (hk : (zs.drop st)[k]? = some 0) (hp : ∀ b ∈ (zs.drop st).take k, b ≠ 0) (hN : zs.length + zs.count 0 ≤ N)
    (hg : w6.heap[g]? = some (.cells (splice (splice cur (st + i) (bs ((zs.drop st).take k))) (st + i + k) (bs [0, 255])).toArray 5 (0, 0))) (hb : Below w0.heap.size w0 w6) : RepAt w0 w6 g N zs (st + k + 1) (i + 1) := by
  have hl := h.len
  have hkl : k < (zs.drop st).length := (List.getElem?_eq_some_iff.1 hk).1
  have hkl2 : st + k + 1 ≤ zs.length := by rw [List.length_drop] at hkl; omega
  have hX : (bs ((zs.drop st).take k)).length = k := by rw [bs_length, List.length_take, Nat.min_eq_left (by omega), Nat.mul_one]
  have hcr := count_round zs st k hk hp
  have hle : (zs.take (st + k + 1)).count 0 ≤ zs.count 0 := (List.take_sublist _ _).count_le 0
  have hc := h.cnt
  have h1 : (splice cur (st + i) (bs ((zs.drop st).take k))).take (bs (esc (zs.take st)) ++ bs ((zs.drop st).take k)).length = bs (esc (zs.take st)) ++ bs ((zs.drop st).take k) := by
    rw [← hl]; exact splice_ahead hpre
  have hl1 : (splice cur (st + i) (bs ((zs.drop st).take k))).length = N := by rw [length_splice _ _ _ (by rw [hX]; omega)]; exact hcur
  have hl2 : (bs (esc (zs.take st)) ++ bs ((zs.drop st).take k)).length = st + i + k := by rw [List.length_append, hl, hX]
  have h2 := splice_ahead (c := bs [0, 255]) h1
  rw [hl2] at h2
  have e : bs (esc (zs.take (st + k + 1))) = bs (esc (zs.take st)) ++ bs ((zs.drop st).take k) ++ bs [0, 255] := by rw [esc_round zs st k hk hp, bs_append, bs_append]
  refine ⟨hkl2, by rw [hcr, hc], ⟨_, hg, ?_, ?_⟩, hb, h.hg⟩
  · rw [length_splice _ _ _ (by rw [hl1]; simp [bs]; omega)]; exact hl1
  · rw [e]; exact h2
theorem RepAt.finish {w0 wr w6 : World} {g N : Nat} {zs : List Nat} {st : Nat} {cur : List Value} (h : RepAt w0 wr g N zs st (zs.count 0)) (hcur : cur.length = N) (hpre : cur.take (bs (esc (zs.take st))).length = bs (esc (zs.take st)))
    (hN : N = zs.length + zs.count 0) (hmax : N ≤ maxLen)
    (hg : w6.heap[g]? = some (.cells (splice cur (st + zs.count 0) (bs (zs.drop st))).toArray 5 (0, 0))) (hb : Below w0.heap.size w0 w6) : GivesBytes w0 (esc zs) (.returned (.slice (some ⟨g, 0, none⟩) N N)) w6 := by
  have hl := h.len
  have hst := h.hst
  have h1 := splice_ahead (c := bs (zs.drop st)) hpre
  rw [hl, ← bs_append, ← esc_last zs st h.cnt] at h1
  have hel : (esc zs).length = N := by rw [esc_length, hN]
  have hD : (bs (zs.drop st)).length = zs.length - st := by simp [bs]
  refine ⟨_, rfl, ⟨by rw [bs_length, hel], bs_ones _, .inr ⟨g, 0, N, _, ?_, hg, by omega, hmax, ?_, ?_⟩⟩, fun c hc => ?_, ?_⟩
  · rw [hel]
  · simp [length_splice _ _ _ (by rw [hD, hcur]; omega : st + zs.count 0 + (bs (zs.drop st)).length ≤ cur.length), hcur]
  · rw [← bs_length]; simpa using h1
  · simp [Value.ownBlock] at hc; have := h.hg; omega
  · exact ⟨hb.os, hb.tape, hb.output, hb.size, fun k hk _ => hb.block k hk⟩

set_option maxRecDepth 100000 in
set_option maxHeartbeats 2000000 in
theorem replace_some (b off n c : Nat) (zs : List Nat) (b1 o1 d1 b2 o2 d2 : Nat) (w : World) (hs : ReadAt w b off n c zs) (h1 : b1 < w.heap.size) (h2 : b2 < w.heap.size) (hc1 : w.cell? ⟨b1, o1, none⟩ = some (.int .u8 0)) (hc2 : w.cell? ⟨b2, o2, none⟩ = some (.int .u8 0)) (hc3 : w.cell? ⟨b2, o2 + 1, none⟩ = some (.int .u8 255))
    (hn : n ≤ 1099511627776) (hcmax : c ≤ 9223372036854775807) (hz : 0 < zs.count 0) :
    Calls Tryd.prog 33 #[.slice (some ⟨b, off, none⟩) n c, .slice (some ⟨b1, o1, none⟩) 1 d1, .slice (some ⟨b2, o2, none⟩) 2 d2, .int .i64 (-1)] w (GivesBytes w (esc zs)) := by
  obtain ⟨m, hm⟩ : ∃ m, m = zs.count 0 := ⟨_, rfl⟩
  have hmn : m ≤ n := by rw [hm, ← hs.len]; exact List.count_le_length
  have hm0 : 0 < m := by omega
  have HM := Lib.hid hm
  have hcap := hs.cap
  have HS := Lib.hid hs
  have HCNT := Lib.hid ((Tryd.bytes_Count_one_at ⟨b, off, none⟩ n c b1 o1 d1 (ints zs) 0 w (by rw [ints_length]; exact hs.len) (by simpa using hs.at w 0) hc1).mono (R' := fun e w' => e = .returned (.int .i64 (m : Int)) ∧ w = w') (fun _ _ ⟨h, h'⟩ => ⟨by rw [h, count_bytes zs hs.byte, hm], h'.symm⟩))
  obtain ⟨i0, hi, hz0, hz1, hz2⟩ := info_parts infoU8
  have HI : Hid (Tryd.prog.info? 5 = some i0 ∧ i0.zero = some (.int .u8 0) ∧ i0.size = 1 ∧ i0.bytes = 1) := ⟨hi, hz0, hz1, hz2⟩
  clear hi hz0 hz1 hz2 hs hz hm
  have hmz : ((m : Int) == 0) = false := by simp; omega
  go_enter Tryd.func33, Tryd.ntmps33
  go_wp2_with fail
  refine HCNT.out.mono ?_
  rintro e w' ⟨rfl, rfl⟩
  have hnm : (n : Int) + m ≤ 9223372036854775807 := by omega
  go_wp2_with (first | (refine wpList_make_full _ rfl (.tmp 43) (.tmp 43) 23 rfl w.heap.size 5 i0 (.int .u8 0) 1 Tryd.underlying23 HI.out.1 HI.out.2.1 HI.out.2.2.1 .i64 .i64 _ _ (n + m) rfl rfl (by simp) (by simp) (by rw [HI.out.2.2.2]; omega) (by unfold maxLen; omega) (Nat.le_refl _) ?_; intro w3 hown3 hgrow3))
  have hrow : RepAt w w3 w.heap.size (n + m) zs 0 0 := by
    obtain ⟨hx1, hx2⟩ := hown3
    rcases hx2 with ⟨e, _⟩ | ⟨g', cap', cur, e, hb, hh, _, _, hsz, _⟩
    · cases e
    · simp only [Value.slice.injEq, Option.some.injEq, Addr.mk.injEq, and_true, true_and] at e
      obtain ⟨rfl, rfl⟩ := e
      exact ⟨Nat.zero_le _, by simp, ⟨cur.toList, by simpa using hh, by simpa using hsz, by simp [esc, bs]⟩, (Below.refl _ _).grown hgrow3 (Nat.le_refl _) (fun k hk => by cases hk), Nat.le_refl _⟩
  have HROW := Lib.hid hrow
  have hgl : w.heap.size < w3.heap.size := by
    obtain ⟨cur, hh, _⟩ := hrow.row
    exact lt_of_block hh
  clear hrow hown3 hgrow3
  obtain ⟨g, hgd⟩ : ∃ g, g = w.heap.size := ⟨_, rfl⟩
  have HG := Lib.hid hgd
  rw [← hgd] at HROW hgl ⊢
  clear hgd
  obtain ⟨N, hN⟩ : ∃ N, N = n + m := ⟨_, rfl⟩
  have hN1 : n + m ≤ N := by omega
  have hN2 : N ≤ n + m := by omega
  rw [← hN] at HROW ⊢
  clear hN
  go_wp2_with fail
  obtain ⟨Y, hY⟩ : ∃ Y, Y = bs [0, 255] := ⟨_, rfl⟩
  have hYl : Y.length = 2 := by rw [hY]; rfl
  have hYo : ∀ v ∈ Y, v.oneCell' = true := by rw [hY]; exact bs_ones _
  have hNEW : ∀ w4, Below w.heap.size w w4 → ∀ j v, Y[j]? = some v → w4.cell? ((⟨b2, o2, none⟩ : Addr).add j) = some v := by
    intro w4 hb j v hv
    rw [addr_add, hb.cell (p := ⟨b2, o2 + j, none⟩) h2]
    rw [hY] at hv
    match j, hv with
    | 0, hv => simp [bs] at hv; subst hv; exact hc2
    | 1, hv => simp [bs] at hv; subst hv; exact hc3
    | j + 2, hv => simp [bs] at hv
  have HNEW := Lib.hid hNEW
  have HY := Lib.hid hY
  have HYO := Lib.hid hYo
  clear hNEW hY hYo hc2 hc3
  go_loopw [11, 12, 49] (fun ww s i wr => ∃ st q : Nat, ww = .int .i64 ((st : Int) + (q : Int)) ∧ s = .int .i64 st ∧ i = .int .i64 q ∧ q ≤ m ∧ RepAt w wr g N zs st q) (fun _ _ i _ => m - (intOf i).toNat)
  case atStart => exact ⟨0, 0, rfl, rfl, rfl, Nat.zero_le _, HROW.out⟩
  case round =>
    obtain ⟨st, q, rfl, rfl, rfl, hq, hR⟩ := hrel
    have hst : st ≤ n := by have := hR.hst; rw [HS.out.len] at this; exact this
    obtain ⟨cur, hcg, hcl, hcp⟩ := hR.row
    have hbel := hR.below
    have hrl := hR.len
    have HR := Lib.hid hR
    have HCG := Lib.hid hcg
    have HCP := Lib.hid hcp
    have HB := Lib.hid hbel
    have HRL := Lib.hid hrl
    have HCL := Lib.hid hcl
    have HRD : Hid (∀ w4, Below w.heap.size w w4 → ReadAt w4 b off n c zs) := fun w4 hb => HS.out.mod ⟨hb.os, hb.tape, hb.output, hb.size, fun k hk _ => hb.block k hk⟩ (S := fun _ => False) (fun f => f)
    have hgw : w.heap.size ≤ g := hR.hg
    clear hR hcg hcp hbel hrl hcl HROW
    by_cases hqm : q < m
    · have hcnt : 0 < (zs.drop st).count 0 := by
        rw [count_left, HR.out.cnt, ← HM.out]; omega
      obtain ⟨k, hidx, hkl, hk0, hkp⟩ := index_bytes (zs.drop st) (fun x hx => HS.out.byte x (List.mem_of_mem_drop hx)) hcnt
      have hkl2 : st + k < n := by rw [List.length_drop, HS.out.len] at hkl; omega
      have HIDX := Lib.hid ((Tryd.bytes_Index_one_at ⟨b, off + st, none⟩ (n - st) (c - st) b1 o1 d1 (ints (zs.drop st)) 0 wr (by rw [ints_length, List.length_drop, HS.out.len]) ((HRD.out wr HB.out).at wr st) (by rw [HB.out.cell (p := ⟨b1, o1, none⟩) h1]; exact hc1)).mono (R' := fun e w' => e = .returned (.int .i64 (k : Int)) ∧ wr = w') (fun _ _ ⟨h, h'⟩ => ⟨by rw [h, hidx], h'.symm⟩))
      obtain ⟨X, hX⟩ : ∃ X, X = bs ((zs.drop st).take k) := ⟨_, rfl⟩
      have hXl : X.length = k := by rw [hX, bs_length, List.length_take, Nat.min_eq_left (by omega), Nat.mul_one]
      have hXo : ∀ v ∈ X, v.oneCell' = true := by rw [hX]; exact bs_ones _
      have hXs : ∀ j v, X[j]? = some v → wr.drew.cell? ((⟨b, off + st, none⟩ : Addr).add j) = some v := by
        intro j v hv
        have hj : j < k := by rw [← hXl]; exact (List.getElem?_eq_some_iff.1 hv).1
        have h3 := (HRD.out wr HB.out).cell (st + j) (by omega)
        rw [addr_add, Nat.add_assoc]
        refine Eq.trans (show wr.drew.cell? _ = wr.cell? _ from rfl) (h3.trans ?_)
        rw [hX] at hv
        simp only [bs, List.getElem?_map, List.getElem?_take, List.getElem?_drop, if_pos hj] at hv
        rw [← hv, List.getD_eq_getElem?_getD, List.getElem?_eq_getElem (by rw [HS.out.len]; omega)]
        simp
      have HX := Lib.hid hX
      have HXO := Lib.hid hXo
      have HXS := Lib.hid hXs
      have HK0 := Lib.hid hk0
      have HKP := Lib.hid hkp
      clear hX hXo hXs hk0 hkp hidx hcnt hkl
      have q0 : (0 : Int) ≤ (st : Int) + (q : Int) := by omega
      have q1 : (st : Int) + (q : Int) ≤ (N : Int) := by omega
      have q2 : ((st : Int) + (q : Int)).toNat = st + q := by omega
      have q3 : ¬ N = st + q := by omega
      have q4 : ((st : Int) + (k : Int)).toNat = st + k := by omega
      have q5 : (st : Int) ≤ (st : Int) + (k : Int) := by omega
      have q6 : (st : Int) + (k : Int) ≤ (c : Int) := by omega
      have q7 : ¬ c = st := by omega
      have q8 : IntKind.i64.wrap ((st : Int) + (q : Int) + (k : Int)) = (st : Int) + (q : Int) + (k : Int) := IntWalk.i64_in _ (by omega)
      have q9 : (0 : Int) ≤ (st : Int) + (k : Int) := by omega
      have HMIN : Hid (X.length = Nat.min k (N - (st + q))) := by show _ = _; rw [hXl]; exact (Nat.min_eq_left (by omega)).symm
      have HFIT : Hid (st + q + X.length ≤ cur.length) := by have h1 := HCL.out; show _ ≤ _; omega
      have HBD : Hid (Below w.heap.size w wr.drew) := HB.out.drew
      have HCG2 : Hid (wr.drew.heap[g]? = some (.cells cur.toArray 5 (0, 0))) := HCG.out
      go_wp2_with fail
      refine HIDX.out.mono ?_
      rintro e w' ⟨rfl, rfl⟩
      go_wp2_with fail
      go_region_law (refine step_copy_splice rfl (.tmp 61) (.tmp 65) 23 23 rfl 5 Tryd.underlying23 sizeU8 (some ⟨g, st + q, none⟩) (some ⟨b, off + st, none⟩) (N - (st + q)) (N - (st + q)) k (c - st) (by go_simp) (by go_simp) g (st + q) cur 5 HCG2.out X HMIN.out (fun _ => ⟨rfl, ⟨b, off + st, none⟩, rfl, HXS.out⟩) HFIT.out HXO.out w.heap.size w HBD.out hgw ?_; intro w4 HG4 hb4)
      have HB4 := Lib.hid hb4
      have HG5 : Hid (w4.heap[g]? = some (.cells (splice cur (st + q) X).toArray 5 (0, 0))) := HG4
      have HL5 : Hid (st + q + k + Y.length ≤ (splice cur (st + q) X).length) := by
        have h1 := HCL.out
        have h2 := HFIT.out
        show _ ≤ _
        rw [length_splice _ _ _ h2]; omega
      have q10 : (0 : Int) ≤ (st : Int) + (q : Int) + (k : Int) := by omega
      have q11 : (st : Int) + (q : Int) + (k : Int) ≤ (N : Int) := by omega
      have q12 : ((st : Int) + (q : Int) + (k : Int)).toNat = st + q + k := by omega
      have q13 : ¬ N = st + q + k := by omega
      clear hb4 HG4
      go_wp2_with (refine wpList_copy_splice rfl (.tmp 71) (.tmp 72) 23 23 rfl 5 Tryd.underlying23 sizeU8 (some ⟨g, st + q + k, none⟩) (some ⟨b2, o2, none⟩) (N - (st + q + k)) (N - (st + q + k)) 2 d2 rfl rfl g (st + q + k) (splice cur (st + q) X) 5 HG5.out Y (by rw [hYl]; exact (Nat.min_eq_left (by omega)).symm) (fun _ => ⟨rfl, ⟨b2, o2, none⟩, rfl, HNEW.out _ HB4.out⟩) HL5.out HYO.out w.heap.size w HB4.out hgw ?_; intro w6 HG6 hb6)
      have hnx : RepAt w w6 g N zs (st + k + 1) (q + 1) := by
        have h1 : w6.heap[g]? = _ := HG6
        rw [HX.out, HY.out] at h1
        exact HR.out.next HCL.out HCP.out HK0.out HKP.out (by rw [HS.out.len, ← HM.out]; omega) h1 hb6
      have HNX := Lib.hid hnx
      clear hnx HG6 hb6
      go_roundw
      case rel => exact ⟨st + k + 1, q + 1, by go_num, by go_num, by go_num, by omega, HNX.out⟩
      case measure => simp [intOf]; omega
    · obtain rfl : q = m := by omega
      obtain ⟨r, rfl⟩ : ∃ r, n = st + r := ⟨n - st, by omega⟩
      obtain ⟨X, hX⟩ : ∃ X, X = bs (zs.drop st) := ⟨_, rfl⟩
      have hXl : X.length = r := by rw [hX, bs_length, List.length_drop, HS.out.len]; omega
      have HXO : Hid (∀ v ∈ X, v.oneCell' = true) := by show ∀ v ∈ X, _; rw [hX]; exact bs_ones _
      have HXS : Hid (∀ j v, X[j]? = some v → wr.drew.cell? ((⟨b, off + st, none⟩ : Addr).add j) = some v) := by
        intro j v hv
        have hj : j < r := by rw [← hXl]; exact (List.getElem?_eq_some_iff.1 hv).1
        have h3 := (HRD.out wr HB.out).cell (st + j) (by omega)
        rw [addr_add, Nat.add_assoc]
        refine Eq.trans (show wr.drew.cell? _ = wr.cell? _ from rfl) (h3.trans ?_)
        rw [hX] at hv
        simp only [bs, List.getElem?_map, List.getElem?_drop] at hv
        rw [← hv, List.getD_eq_getElem?_getD, List.getElem?_eq_getElem (by rw [HS.out.len]; omega)]
        simp
      have HX := Lib.hid hX
      have HFIT : Hid (st + q + X.length ≤ cur.length) := by have h1 := HCL.out; show _ ≤ _; omega
      have HBD : Hid (Below w.heap.size w wr.drew) := HB.out.drew
      have HCG2 : Hid (wr.drew.heap[g]? = some (.cells cur.toArray 5 (0, 0))) := HCG.out
      have HEND : Hid (∀ w6 n', n' = N → w6.heap[g]? = some (.cells (splice cur (st + q) X).toArray 5 (0, 0)) → Below w.heap.size w w6 → GivesBytes w (esc zs) (.returned (.slice (some ⟨g, 0, none⟩) n' N)) w6) := by
        intro w6 n' hn' hg6 hb6
        subst hn'
        have h1 := HR.out
        have h2 := HM.out
        have h3 := HX.out
        rw [h2] at h1
        rw [h2, h3] at hg6
        exact h1.finish HCL.out HCP.out (by rw [HS.out.len]; omega) (by unfold maxLen; omega) hg6 hb6
      clear hX
      have q0 : (0 : Int) ≤ (st : Int) + (q : Int) := by omega
      have q1 : (st : Int) + (q : Int) ≤ (N : Int) := by omega
      have q2 : ((st : Int) + (q : Int)).toNat = st + q := by omega
      have q5 : (st : Int) ≤ (st : Int) + (r : Int) := by omega
      have q8 : IntKind.i64.wrap ((st : Int) + (q : Int) + (r : Int)) = (st : Int) + (q : Int) + (r : Int) := IntWalk.i64_in _ (by omega)
      have q10 : (0 : Int) ≤ (st : Int) + (q : Int) + (r : Int) := by omega
      have q11 : (st : Int) + (q : Int) + (r : Int) ≤ (N : Int) := by omega
      have q12 : ((st : Int) + (q : Int) + (r : Int)).toNat = st + q + r := by omega
      by_cases hr : 0 < r
      · have q3 : ¬ N = st + q := by omega
        have q7 : ¬ c = st := by omega
        have HMIN : Hid (X.length = Nat.min r (N - (st + q))) := by show _ = _; rw [hXl]; exact (Nat.min_eq_left (by omega)).symm
        go_wp2_with fail
        go_region_law (refine step_copy_splice rfl (.tmp 123) (.tmp 126) 23 23 rfl 5 Tryd.underlying23 sizeU8 (some ⟨g, st + q, none⟩) (some ⟨b, off + st, none⟩) (N - (st + q)) (N - (st + q)) r (c - st) (by go_simp) (by go_simp) g (st + q) cur 5 HCG2.out X HMIN.out (fun _ => ⟨rfl, ⟨b, off + st, none⟩, rfl, HXS.out⟩) HFIT.out HXO.out w.heap.size w HBD.out hgw ?_; intro w4 HG4 hb4)
        have HF := Lib.hid (HEND.out w4 (st + q + r) (by omega) HG4 hb4)
        clear HG4 hb4
        go_wp2
        go_ret
        exact HF.out
      · obtain rfl : r = 0 := by omega
        obtain rfl : N = st + q := by omega
        have HMIN : Hid (X.length = Nat.min 0 0) := by show _ = _; rw [hXl]; rfl
        by_cases q7 : c = st
        · subst q7
          go_wp2_with fail
          go_region_law (refine step_copy_splice rfl (.tmp 123) (.tmp 126) 23 23 rfl 5 Tryd.underlying23 sizeU8 (some ⟨g, 0, none⟩) (some ⟨b, off, none⟩) 0 0 0 0 (by go_simp) (by go_simp) g (c + q) cur 5 HCG2.out X HMIN.out (fun h => by omega) HFIT.out HXO.out w.heap.size w HBD.out hgw ?_; intro w4 HG4 hb4)
          have HF := Lib.hid (HEND.out w4 (c + q) (by omega) HG4 hb4)
          clear HG4 hb4
          go_wp2
          go_ret
          exact HF.out
        · go_wp2_with fail
          go_region_law (refine step_copy_splice rfl (.tmp 123) (.tmp 126) 23 23 rfl 5 Tryd.underlying23 sizeU8 (some ⟨g, 0, none⟩) (some ⟨b, off + st, none⟩) 0 0 0 (c - st) (by go_simp) (by go_simp) g (st + q) cur 5 HCG2.out X HMIN.out (fun h => by omega) HFIT.out HXO.out w.heap.size w HBD.out hgw ?_; intro w4 HG4 hb4)
          have HF := Lib.hid (HEND.out w4 (st + q) (by omega) HG4 hb4)
          clear HG4 hb4
          go_wp2
          go_ret
          exact HF.out
end Go.Proofs.YtggbohdgcalblaaDoor
