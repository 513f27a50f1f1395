/- The contract of DocReadText. -/
import Derived.Test.YtggbohdgcalblaaDoorR20
namespace Go.Proofs.YtggbohdgcalblaaDoor
set_option linter.unusedVariables false
open Go.RowKit

structure DocRel (w : World) (xs l : List Nat) (i : Nat) (v : Value) (wr : World) : Prop where
  scan : scanD xs [] 0 = scanD (xs.drop i) l i
  len : l.length ≤ i
  bytes : Bytes w wr v l
section
variable {w wr : World} {most i : Nat} {xs l : List Nat} {v : Value}
def noText : Ending := .returned (.tuple #[.slice none 0 0, .int .i64 0, .int .i64 3])
theorem DocRel.over (h : DocRel w xs l i v wr) (hi : xs.length ≤ i + 1) : GivesText w (docT most xs) noText wr := by
  have e : scanD (xs.drop i) l i = none := by
    have hl : (xs.drop i).length ≤ 1 := by simp; omega
    match xs.drop i, hl with
    | [], _ => rfl
    | [_], _ => rfl
  unfold docT
  rw [h.scan, e]
  exact ⟨rfl, h.bytes.mod⟩
theorem DocRel.hit (h : DocRel w xs l i v wr) (hi : i + 1 < xs.length) (h0 : 0 = xs.getD i 0) (h1 : 0 = xs.getD (i + 1) 0) : docT most xs = if l.length ≤ most ∧ frontB xs (codeT l) = true then some (l, i + 2) else none := by
  unfold docT
  rw [h.scan, drop_getD xs i (by omega), drop_getD xs (i + 1) hi, ← h0, ← h1, scanD_zero, if_pos rfl]
theorem DocRel.fail (h : DocRel w xs l i v wr) (hd : docT most xs = none) {wx : World} (m : Mod (fun _ => False) w wx) : GivesText w (docT most xs) noText wx := by
  rw [hd]; exact ⟨rfl, m⟩
theorem DocRel.found (h : DocRel w xs l i v wr) (hd : docT most xs = some (l, i + 2)) {wx : World} (m : Mod (fun _ => False) wr wx) : GivesText w (docT most xs) (.returned (.tuple #[v, .int .i64 ((i : Int) + 2), .int .i64 0])) wx := by
  rw [hd]; exact ⟨v, by simp, h.bytes.fwd m⟩
theorem DocRel.next1 (h : DocRel w xs l i v wr) (hi : i + 1 < xs.length) {x : Nat} (hx : x = xs.getD i 0) (x0 : x ≠ 0) {wx : World} {v' : Value} (hb : Bytes w wx v' (l ++ [x])) : DocRel w xs (l ++ [x]) (i + 1) v' wx :=
  ⟨by rw [h.scan, drop_getD xs i (by omega), drop_getD xs (i + 1) hi, ← hx, scanD_cons x0], by have := h.len; simp; omega, hb⟩
theorem DocRel.next2 (h : DocRel w xs l i v wr) (hi : i + 1 < xs.length) (h0 : 0 = xs.getD i 0) {y : Nat} (hy : y = xs.getD (i + 1) 0) (y0 : y ≠ 0) {wx : World} {v' : Value} (hb : Bytes w wx v' (l ++ [0])) : DocRel w xs (l ++ [0]) (i + 2) v' wx :=
  ⟨by rw [h.scan, drop_getD xs i (by omega), drop_getD xs (i + 1) hi, ← h0, ← hy, scanD_zero, if_neg y0], by have := h.len; simp; omega, hb⟩
end

theorem doc_cell {w wr w3 : World} {p o : Nat} {u v v3 : Value} {l l3 : List Nat} (h : wr.cell? ⟨p, o, none⟩ = some u) (b : Bytes w wr v l) (b3 : Bytes w w3 v3 l3) (hp : p < w.heap.size) : w3.cell? ⟨p, o, none⟩ = some u :=
  (World.cell?_of_block (w := w) (b3.mod.block p hp (fun f => f))).trans ((World.cell?_of_block (w := w) (b.mod.block p hp (fun f => f))).symm.trans h)
theorem docT_range (v : Value) (xs : List Nat) (m : Int) (w : World) (hv : Rd w v xs) (hm : m < 0 ∨ 65536 < m) :
    Calls Tryd.prog 27 #[v, .int .i64 m] w fun e w' => e = .returned (.tuple #[.slice none 0 0, .int .i64 0, .int .i64 1]) ∧ w = w' := by
  obtain ⟨a, c, rfl, -⟩ := hv.shape
  clear hv
  by_cases h : m < 0
  · clear hm
    go_enter Tryd.func27, Tryd.ntmps27
    go_wp2
    go_ret3
    exact ⟨rfl, rfl⟩
  · have h2 : 65536 < m := by omega
    clear hm
    go_enter Tryd.func27, Tryd.ntmps27
    go_wp2
    go_ret3
    exact ⟨rfl, rfl⟩

set_option maxRecDepth 100000 in
set_option maxHeartbeats 2000000 in
theorem docT_any (v : Value) (xs : List Nat) (most : Nat) (w : World) (hv : Rd w v xs) (hm : most ≤ 65536) (hxl : xs.length ≤ 140737488351232) :
    Calls Tryd.prog 27 #[v, .int .i64 (most : Int)] w (GivesText w (docT most xs)) := by
  obtain ⟨a, c, hva, hc1, hc2, hc3⟩ := hv.shape
  have hbig := hv.big
  have HV := Lib.hid hv
  have HU := Lib.hid (hv.cell a c hva)
  subst hva
  obtain ⟨i0, hi, hz0, hz1, hz2⟩ := info_parts infoU8
  have HI : Hid (Tryd.prog.info? 5 = some i0 ∧ i0.zero = some (.int .u8 0) ∧ i0.size = 1 ∧ i0.bytes = 1) := ⟨hi, hz0, hz1, hz2⟩
  clear hi hz0 hz1 hz2 hv hc1 hc2 hc3
  have m0 : ¬ ((most : Int) < 0) := by omega
  have m1 : ¬ ((65536 : Int) < (most : Int)) := by omega
  go_enter Tryd.func27, Tryd.ntmps27
  go_wp2
  go_loopw [7, 8] (fun v i wr => ∃ (l : List Nat) (k : Nat), i = .int .i64 k ∧ k ≤ xs.length ∧ DocRel w xs l k v wr) (fun _ i _ => xs.length - (intOf i).toNat)
  case atStart => exact ⟨[], 0, rfl, Nat.zero_le _, rfl, Nat.zero_le _, Bytes.nil w⟩
  case round =>
    obtain ⟨l, k, rfl, hk, hrl⟩ := hrel
    have HR := Lib.hid hrl
    have hlen := hrl.len
    clear hrl
    by_cases hkl : k + 1 < xs.length
    · obtain ⟨p1, o1, rfl, hp1, q1⟩ := HU.out k (by omega)
      obtain ⟨p2, o2, e2, hp2, q2⟩ := HU.out (k + 1) hkl
      simp only [Option.some.injEq, Addr.mk.injEq, and_true] at e2
      obtain ⟨rfl, rfl⟩ := e2
      have d1 : wr.cell? ⟨p1, o1 + k, none⟩ = some (.int .u8 ((xs.getD k 0 : Nat) : Int)) := (World.cell?_of_block (w := w) (HR.out.bytes.mod.block p1 hp1 (fun f => f))).trans q1
      have d2 : wr.cell? ⟨p1, o1 + (k + 1), none⟩ = some (.int .u8 ((xs.getD (k + 1) 0 : Nat) : Int)) := (World.cell?_of_block (w := w) (HR.out.bytes.mod.block p1 hp1 (fun f => f))).trans q2
      obtain ⟨x, hx⟩ : ∃ x, x = xs.getD k 0 := ⟨_, rfl⟩
      have HX := Lib.hid hx
      rw [← hx] at d1
      obtain ⟨y, hy⟩ : ∃ y, y = xs.getD (k + 1) 0 := ⟨_, rfl⟩
      have HY := Lib.hid hy
      rw [← hy] at d2
      clear hx q1 hy q2
      have hk1 : ((k : Int) + 1) < (xs.length : Int) := by omega
      by_cases hx0 : x = 0
      · subst hx0
        by_cases hy0 : y = 0
        · subst hy0
          have HIT := Lib.hid (HR.out.hit (most := most) hkl HX.out HY.out)
          by_cases hm2 : l.length ≤ most
          · have hm3 : ¬ ((most : Int) < (l.length : Int)) := by omega
            have hll : l.length ≤ 1000000 := by omega
            have HT := Lib.hid (refText_any u7 l wr HR.out.bytes.rd hll)
            obtain ⟨a7, c7, e7, -⟩ := HR.out.bytes.seg.shape
            subst e7
            obtain ⟨bb, hbb⟩ : ∃ bb : Bool, bb = frontB xs (codeT l) := ⟨_, rfl⟩
            have HBB := Lib.hid hbb
            clear hbb hll
            go_wp2_with fail
            refine HT.out.mono ?_
            rintro e w4 ⟨v4, rfl, hB⟩
            have R4 := Lib.hid hB.rd
            have M4 := Lib.hid hB.mod
            clear hB
            go_wp2_with fail
            refine (front_any _ _ _ _ _ (HV.out.keep (HR.out.bytes.mod.trans M4.out)) R4.out (by simp [codeT])).mono ?_
            rintro e w5 ⟨rfl, hm⟩
            rw [← HBB.out]
            have M5 := Lib.hid (M4.out.trans hm)
            clear hm M4 R4
            have HML := Lib.hid hm2
            clear hm2
            cases bb with
            | true =>
              have HF := Lib.hid (HR.out.found (by rw [HIT.out, if_pos ⟨HML.out, HBB.out.symm⟩]) M5.out)
              go_wp2
              go_ret3
              exact HF.out
            | false =>
              have HF := Lib.hid (HR.out.fail (by rw [HIT.out, if_neg (fun h => by rw [← HBB.out] at h; exact absurd h.2 (by decide))]) (HR.out.bytes.mod.trans M5.out))
              go_wp2
              go_ret3
              exact HF.out
          · have hm3 : ((most : Int) < (l.length : Int)) := by omega
            have HF := Lib.hid (HR.out.fail (by rw [HIT.out, if_neg (fun h => hm2 h.1)]) HR.out.bytes.mod)
            obtain ⟨a7, c7, e7, -⟩ := HR.out.bytes.seg.shape
            subst e7
            clear hm2
            go_wp2
            go_ret3
            exact HF.out
        · have y1 : ((y : Int) == 0) = false := by simp; omega
          have HY0 := Lib.hid hy0
          clear hy0
          go_wp2_with (first | (at_builtin; refine wpList_append_seg rfl (.tmp 49) (.tmp 54) 23 rfl i0 _ 1 1 Tryd.underlying23 HI.out.1 HI.out.2.1 HI.out.2.2.1 HI.out.2.2.2 rfl (by decide) rfl (HR.out.bytes.seg.alloc _) _ 1 _ rfl (Src.one (size := 1) wr #[.int .u8 0] 5 1 1 rfl (by simp [Value.oneCell'])) (by unfold maxLen; omega) (by omega) ?_; intro v3 w3 hs3 hg3 ho3; (have HB : Hid (Bytes w w3 v3 (l ++ [0])) := HR.out.bytes.pushed (b := 0) hs3 hg3 ho3); have d3 := doc_cell d1 HR.out.bytes HB.out hp1; clear hs3 hg3 ho3))
          go_roundw
          case rel => exact ⟨l ++ [0], k + 2, by go_num, by omega, HR.out.next2 hkl HX.out HY.out HY0.out HB.out⟩
          case measure => simp [intOf]; omega
      · have x2 : ((x : Int) == 0) = false := by simp; omega
        have HX0 := Lib.hid hx0
        clear hx0
        go_wp2_with (first | (at_builtin; refine wpList_append_seg rfl (.tmp 49) (.tmp 54) 23 rfl i0 _ 1 1 Tryd.underlying23 HI.out.1 HI.out.2.1 HI.out.2.2.1 HI.out.2.2.2 rfl (by decide) rfl (HR.out.bytes.seg.alloc _) _ 1 _ rfl (Src.one (size := 1) wr #[.int .u8 (x : Int)] 5 1 1 rfl (by simp [Value.oneCell'])) (by unfold maxLen; omega) (by omega) ?_; intro v3 w3 hs3 hg3 ho3; (have HB : Hid (Bytes w w3 v3 (l ++ [x])) := HR.out.bytes.pushed (b := x) hs3 hg3 ho3); have d3 := doc_cell d1 HR.out.bytes HB.out hp1; clear hs3 hg3 ho3))
        go_roundw
        case rel => exact ⟨l ++ [x], k + 1, by go_num, by omega, HR.out.next1 hkl HX.out HX0.out HB.out⟩
        case measure => simp [intOf]; omega
    · have HF := Lib.hid (HR.out.over (most := most) (by omega))
      have hk1 : ¬ ((k : Int) + 1) < (xs.length : Int) := by omega
      go_wp2
      go_ret3
      exact HF.out
end Go.Proofs.YtggbohdgcalblaaDoor
