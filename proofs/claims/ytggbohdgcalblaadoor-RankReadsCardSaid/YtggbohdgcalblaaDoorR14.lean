/- The contract of ReadText. -/
import Derived.Test.YtggbohdgcalblaaDoorR13
namespace Go.Proofs.YtggbohdgcalblaaDoor
set_option linter.unusedVariables false
open Go.RowKit

/-- What ReadText hands back. -/
def GivesText (w : World) (r : Option (List Nat × Nat)) (e : Ending) (w' : World) : Prop :=
  match r with
  | none => e = .returned (.tuple #[.slice none 0 0, .int .i64 0, .int .i64 3]) ∧ Mod (fun _ => False) w w'
  | some (l, k) => ∃ v, e = .returned (.tuple #[v, .int .i64 (k : Int), .int .i64 0]) ∧ Bytes w w' v l
theorem drop_getD (xs : List Nat) (i : Nat) (hi : i < xs.length) : xs.drop i = xs.getD i 0 :: xs.drop (i + 1) := by
  rw [List.drop_eq_getElem_cons hi]
  simp [List.getD_eq_getElem?_getD, hi]

structure TextRel (w : World) (most : Nat) (xs l : List Nat) (i : Nat) (v : Value) (wr : World) : Prop where
  scan : readT most xs = scanT most (xs.drop i) l i
  len : l.length ≤ most
  bytes : Bytes w wr v l
theorem TextRel.start (w : World) (most : Nat) (xs : List Nat) : TextRel w most xs [] 0 (.slice none 0 0) w :=
  ⟨rfl, Nat.zero_le _, Bytes.nil w⟩
section
variable {w wr : World} {most i : Nat} {xs l : List Nat} {v : Value}
theorem TextRel.ends (h : TextRel w most xs l i v wr) (he : scanT most (xs.drop i) l i = none) {wx : World} (m : Mod (fun _ => False) w wx) : GivesText w (readT most xs) (.returned (.tuple #[.slice none 0 0, .int .i64 0, .int .i64 3])) wx := by
  rw [h.scan, he]; exact ⟨rfl, m⟩
theorem TextRel.over (h : TextRel w most xs l i v wr) (hi : xs.length ≤ i) : GivesText w (readT most xs) (.returned (.tuple #[.slice none 0 0, .int .i64 0, .int .i64 3])) wr :=
  h.ends (by rw [List.drop_of_length_le hi]; rfl) h.bytes.mod
theorem TextRel.last (h : TextRel w most xs l i v wr) (hi : i + 1 = xs.length) (h0 : 0 = xs.getD i 0) : GivesText w (readT most xs) (.returned (.tuple #[.slice none 0 0, .int .i64 0, .int .i64 3])) wr :=
  h.ends (by rw [drop_getD xs i (by omega), List.drop_of_length_le (by omega : xs.length ≤ i + 1)]; rfl) h.bytes.mod
theorem TextRel.bad (h : TextRel w most xs l i v wr) (hi : i + 1 < xs.length) (h0 : 0 = xs.getD i 0) {y : Nat} (hy : y = xs.getD (i + 1) 0) (y0 : y ≠ 0) (y1 : y ≠ 255) : GivesText w (readT most xs) (.returned (.tuple #[.slice none 0 0, .int .i64 0, .int .i64 3])) wr :=
  h.ends (by rw [drop_getD xs i (by omega), drop_getD xs (i + 1) hi, ← h0, ← hy, scanT_zero, if_neg y0, if_neg y1]) h.bytes.mod
theorem TextRel.found (h : TextRel w most xs l i v wr) (hi : i + 1 < xs.length) (h0 : 0 = xs.getD i 0) (hy : 0 = xs.getD (i + 1) 0) : GivesText w (readT most xs) (.returned (.tuple #[v, .int .i64 ((i : Int) + 1 + 1), .int .i64 0])) wr := by
  rw [h.scan, drop_getD xs i (by omega), drop_getD xs (i + 1) hi, ← h0, ← hy, scanT_zero, if_pos rfl]
  exact ⟨v, by simp; omega, h.bytes⟩
theorem TextRel.long1 (h : TextRel w most xs l i v wr) (hi : i < xs.length) {x : Nat} (hx : x = xs.getD i 0) (x0 : x ≠ 0) (hm : most < l.length + 1) {wx : World} {v' : Value} {l' : List Nat} (hb : Bytes w wx v' l') : GivesText w (readT most xs) (.returned (.tuple #[.slice none 0 0, .int .i64 0, .int .i64 3])) wx :=
  h.ends (by rw [drop_getD xs i hi, ← hx, scanT_cons _ x0, if_pos hm]) hb.mod
theorem TextRel.long2 (h : TextRel w most xs l i v wr) (hi : i + 1 < xs.length) (h0 : 0 = xs.getD i 0) (hy : 255 = xs.getD (i + 1) 0) (hm : most < l.length + 1) {wx : World} {v' : Value} {l' : List Nat} (hb : Bytes w wx v' l') : GivesText w (readT most xs) (.returned (.tuple #[.slice none 0 0, .int .i64 0, .int .i64 3])) wx :=
  h.ends (by rw [drop_getD xs i (by omega), drop_getD xs (i + 1) hi, ← h0, ← hy, scanT_zero, if_neg (by decide), if_pos rfl, if_pos hm]) hb.mod
theorem TextRel.next1 (h : TextRel w most xs l i v wr) (hi : i < xs.length) {x : Nat} (hx : x = xs.getD i 0) (x0 : x ≠ 0) (hm : ¬ most < l.length + 1) {wx : World} {v' : Value} (hb : Bytes w wx v' (l ++ [x])) : TextRel w most xs (l ++ [x]) (i + 1) v' wx :=
  ⟨by rw [h.scan, drop_getD xs i hi, ← hx, scanT_cons _ x0, if_neg hm], by simp; omega, hb⟩
theorem TextRel.next2 (h : TextRel w most xs l i v wr) (hi : i + 1 < xs.length) (h0 : 0 = xs.getD i 0) (hy : 255 = xs.getD (i + 1) 0) (hm : ¬ most < l.length + 1) {wx : World} {v' : Value} (hb : Bytes w wx v' (l ++ [0])) : TextRel w most xs (l ++ [0]) (i + 2) v' wx :=
  ⟨by rw [h.scan, drop_getD xs i (by omega), drop_getD xs (i + 1) hi, ← h0, ← hy, scanT_zero, if_neg (by decide), if_pos rfl, if_neg hm], by simp; omega, hb⟩
theorem TextRel.out (h : TextRel w most xs l i v wr) : Seg wr 5 1 v l.length (bs l) := h.bytes.seg
end

theorem readT_range (v : Value) (xs : List Nat) (m : Int) (w : World) (hv : Rd w v xs) (hm : m < 0 ∨ 65536 < m) :
    Calls Tryd.prog 24 #[v, .int .i64 m] w fun e w' => e = .returned (.tuple #[.slice none 0 0, .int .i64 0, .int .i64 1]) ∧ w = w' := by
  obtain ⟨a, c, rfl, -⟩ := hv.shape
  clear hv
  by_cases h : m < 0
  · clear hm
    go_enter Tryd.func24, Tryd.ntmps24
    go_wp2
    go_ret3
    exact ⟨rfl, rfl⟩
  · have h2 : 65536 < m := by omega
    clear hm
    go_enter Tryd.func24, Tryd.ntmps24
    go_wp2
    go_ret3
    exact ⟨rfl, rfl⟩

set_option maxRecDepth 100000 in
set_option maxHeartbeats 8000000 in
theorem readT_any (v : Value) (xs : List Nat) (most : Nat) (w : World) (hv : Rd w v xs) (hm : most ≤ 65536) :
    Calls Tryd.prog 24 #[v, .int .i64 (most : Int)] w (GivesText w (readT most xs)) := by
  obtain ⟨a, c, hva, hc1, hc2, hc3⟩ := hv.shape
  have hbig := hv.big
  have HU := Lib.hid (hv.cell a c hva)
  subst hva
  obtain ⟨i0, hi, hz0, hz1, hz2⟩ := info_parts infoU8
  have HI : Hid (Tryd.prog.info? 5 = some i0 ∧ i0.zero = some (.int .u8 0) ∧ i0.size = 1 ∧ i0.bytes = 1) := ⟨hi, hz0, hz1, hz2⟩
  clear hi hz0 hz1 hz2 hv hc1 hc2 hc3
  have m0 : ¬ ((most : Int) < 0) := by omega
  have m1 : ¬ ((65536 : Int) < (most : Int)) := by omega
  go_enter Tryd.func24, Tryd.ntmps24
  go_wp2
  go_loopw [7, 8] (fun v i wr => ∃ (l : List Nat) (k : Nat), i = .int .i64 k ∧ k ≤ xs.length ∧ TextRel w most xs l k v wr) (fun _ i _ => xs.length - (intOf i).toNat)
  case atStart => exact ⟨[], 0, rfl, Nat.zero_le _, TextRel.start w most xs⟩
  case round =>
    obtain ⟨l, k, rfl, hk, hrl⟩ := hrel
    have HR := Lib.hid hrl
    have hlen := hrl.len
    clear hrl
    by_cases hkl : k < xs.length
    · obtain ⟨p1, o1, rfl, hp1, q1⟩ := HU.out k hkl
      have d1 : wr.cell? ⟨p1, o1 + k, none⟩ = some (.int .u8 ((xs.getD k 0 : Nat) : Int)) := (World.cell?_of_block (w := w) (HR.out.bytes.mod.block p1 hp1 (fun f => f))).trans q1
      obtain ⟨x, hx⟩ : ∃ x, x = xs.getD k 0 := ⟨_, rfl⟩
      have HX := Lib.hid hx
      rw [← hx] at d1
      clear hx q1
      by_cases hx0 : x = 0
      · subst hx0
        by_cases hk1 : k + 1 = xs.length
        · have HF := Lib.hid (HR.out.last hk1 HX.out)
          have e1 : ((k : Int) + 1 == (xs.length : Int)) = true := by simp; omega
          go_wp2
          go_ret3
          exact HF.out
        · have hk2 : k + 1 < xs.length := by omega
          have e1 : ((k : Int) + 1 == (xs.length : Int)) = false := by simp; omega
          obtain ⟨p2, o2, e2, hp2, q2⟩ := HU.out (k + 1) hk2
          simp only [Option.some.injEq, Addr.mk.injEq, and_true] at e2
          obtain ⟨rfl, rfl⟩ := e2
          have d2 : wr.cell? ⟨p1, o1 + (k + 1), none⟩ = some (.int .u8 ((xs.getD (k + 1) 0 : Nat) : Int)) := (World.cell?_of_block (w := w) (HR.out.bytes.mod.block p1 hp1 (fun f => f))).trans q2
          obtain ⟨y, hy⟩ : ∃ y, y = xs.getD (k + 1) 0 := ⟨_, rfl⟩
          have HY := Lib.hid hy
          rw [← hy] at d2
          clear hy q2 hk1
          by_cases hy0 : y = 0
          · subst hy0
            have HF := Lib.hid (HR.out.found hk2 HX.out HY.out)
            go_wp2
            go_ret3
            exact HF.out
          · by_cases hy1 : y = 255
            · subst hy1
              go_wp2_with (first | (at_builtin; refine wpList_append_seg rfl (.tmp 63) (.tmp 64) 23 rfl i0 _ 1 1 Tryd.underlying23 HI.out.1 HI.out.2.1 HI.out.2.2.1 HI.out.2.2.2 rfl (by decide) rfl (HR.out.out.alloc _) _ 1 _ rfl (Src.one (size := 1) wr #[.int .u8 0] 5 1 1 rfl (by simp [Value.oneCell'])) (by unfold maxLen; omega) (by omega) ?_; intro v3 w3 hs3 hg3 ho3; (obtain ⟨a3, c3, rfl, -⟩ := hs3.shape); (have HB : Hid (Bytes w w3 (.slice a3 (l.length + 1) c3) (l ++ [0])) := HR.out.bytes.pushed (b := 0) hs3 hg3 ho3); clear hs3 hg3 ho3))
              · have HF := Lib.hid (HR.out.long2 hk2 HX.out HY.out (by omega) HB.out)
                go_wp2
                go_ret3
                exact HF.out
              · go_roundw
                case rel => exact ⟨l ++ [0], k + 2, by go_num, by omega, HR.out.next2 hk2 HX.out HY.out (by omega) HB.out⟩
                case measure => simp [intOf]; omega
            · have HF := Lib.hid (HR.out.bad hk2 HX.out HY.out hy0 hy1)
              have y1 : ((y : Int) != 0) = true := by simp; omega
              have y2 : ((y : Int) != 255) = true := by simp; omega
              clear hy0 hy1
              go_wp2
              go_ret3
              exact HF.out
      · have x1 : ((x : Int) != 0) = true := by simp; omega
        have x2 : ((x : Int) == 0) = false := by simp; omega
        have HX0 := Lib.hid hx0
        clear hx0
        go_wp2_with (first | (at_builtin; refine wpList_append_seg rfl (.tmp 26) (.tmp 31) 23 rfl i0 _ 1 1 Tryd.underlying23 HI.out.1 HI.out.2.1 HI.out.2.2.1 HI.out.2.2.2 rfl (by decide) rfl (HR.out.out.alloc _) _ 1 _ rfl (Src.one (size := 1) wr #[.int .u8 (x : Int)] 5 1 1 rfl (by simp [Value.oneCell'])) (by unfold maxLen; omega) (by omega) ?_; intro v3 w3 hs3 hg3 ho3; (obtain ⟨a3, c3, rfl, -⟩ := hs3.shape); (have HB : Hid (Bytes w w3 (.slice a3 (l.length + 1) c3) (l ++ [x])) := HR.out.bytes.pushed (b := x) hs3 hg3 ho3); clear hs3 hg3 ho3))
        · have HF := Lib.hid (HR.out.long1 hkl HX.out HX0.out (by omega) HB.out)
          go_wp2
          go_ret3
          exact HF.out
        · go_roundw
          case rel => exact ⟨l ++ [x], k + 1, by go_num, by omega, HR.out.next1 hkl HX.out HX0.out (by omega) HB.out⟩
          case measure => simp [intOf]; omega
    · have HF := Lib.hid (HR.out.over (by omega))
      go_wp2
      go_ret3
      exact HF.out
end Go.Proofs.YtggbohdgcalblaaDoor
