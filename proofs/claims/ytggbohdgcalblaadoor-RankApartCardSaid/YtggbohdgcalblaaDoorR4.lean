/- The contracts of bytes.ReplaceAll (a zero becomes a zero and 255) and Text. -/
import Derived.Test.YtggbohdgcalblaaDoorR3
namespace Go.Proofs.YtggbohdgcalblaaDoor
set_option linter.unusedVariables false
open Go.RowKit

/-- A slice of bytes that is handed in: nil; of no byte, at whatever address; or bytes that may be read. -/
def Arg (w : World) (v : Value) (zs : List Nat) : Prop :=
  (v = .slice none 0 0 ∧ zs = []) ∨ (∃ a c, v = .slice (some a) 0 c ∧ c ≤ 9223372036854775807 ∧ zs = []) ∨
  ∃ b off n c, v = .slice (some ⟨b, off, none⟩) n c ∧ c ≤ 9223372036854775807 ∧ ReadAt w b off n c zs

theorem Arg.src {w : World} {v : Value} {zs : List Nat} (h : Arg w v zs) : Src w 1 v zs.length (bs zs) := by
  refine ⟨bs_length zs, bs_ones zs, ?_⟩
  rcases h with ⟨rfl, rfl⟩ | ⟨a, c, rfl, _, rfl⟩ | ⟨b, off, n, c, rfl, _, hr⟩
  · exact .inl ⟨rfl, rfl⟩
  · exact .inr ⟨a, c, rfl, fun j u hu => by simp [bs] at hu⟩
  · refine .inr ⟨_, c, by rw [hr.len], fun j u hu => ?_⟩
    have hj : j < zs.length := by have := (List.getElem?_eq_some_iff.1 hu).1; simpa [bs] using this
    rw [addr_add, hr.cell j (by rw [← hr.len]; exact hj)]
    simp only [bs, List.getElem?_map] at hu
    rw [← hu, List.getD_eq_getElem?_getD, List.getElem?_eq_getElem hj]
    simp
theorem Arg.mod {S : Nat → Prop} {w w' : World} {v : Value} {zs : List Nat} (h : Arg w v zs) (m : Mod S w w') (hs : ∀ b, v.ownBlock = some b → ¬ S b) : Arg w' v zs := by
  rcases h with h | h | ⟨b, off, n, c, rfl, hc, hr⟩
  · exact .inl h
  · exact .inr (.inl h)
  · exact .inr (.inr ⟨b, off, n, c, rfl, hc, hr.mod m (hs b rfl)⟩)
theorem Arg.lits {w : World} {v : Value} {zs : List Nat} (h : Arg w v zs) : ∃ a n c, v = .slice a n c ∧ n = zs.length := by
  rcases h with ⟨rfl, rfl⟩ | ⟨a, c, rfl, _, rfl⟩ | ⟨b, off, n, c, rfl, _, hr⟩
  · exact ⟨_, _, _, rfl, rfl⟩
  · exact ⟨_, _, _, rfl, rfl⟩
  · exact ⟨_, _, _, rfl, hr.len.symm⟩
/-- How many zeros. -/
theorem Arg.count {w : World} {v : Value} {zs : List Nat} (h : Arg w v zs) (b1 o1 d1 : Nat) (hc1 : w.cell? ⟨b1, o1, none⟩ = some (.int .u8 0)) :
    Calls Tryd.prog 34 #[v, .slice (some ⟨b1, o1, none⟩) 1 d1] w fun e w' => e = .returned (.int .i64 ((zs.count 0 : Nat) : Int)) ∧ w = w' := by
  rcases h with ⟨rfl, rfl⟩ | ⟨a, c, rfl, _, rfl⟩ | ⟨b, off, n, c, rfl, _, hr⟩
  · exact (Tryd.bytes_Count_one_nil b1 o1 d1 0 w hc1).mono fun _ _ ⟨h, h'⟩ => ⟨by simpa using h, h'.symm⟩
  · exact (Tryd.bytes_Count_one_at a 0 c b1 o1 d1 [] 0 w rfl (fun i hi => by omega) hc1).mono fun _ _ ⟨h, h'⟩ => ⟨by rw [h]; rfl, h'.symm⟩
  · exact (Tryd.bytes_Count_one_at ⟨b, off, none⟩ n c b1 o1 d1 (ints zs) 0 w (by rw [ints_length]; exact hr.len) (by simpa using hr.at w 0) hc1).mono fun _ _ ⟨h, h'⟩ => ⟨by rw [h, count_bytes zs hr.byte], h'.symm⟩

theorem replace_none (v : Value) (zs : List Nat) (b1 o1 d1 : Nat) (v2 : Value) (w : World) (ha : Arg w v zs) (hc1 : w.cell? ⟨b1, o1, none⟩ = some (.int .u8 0)) (hn : zs.length ≤ 1099511627776) (hz : zs.count 0 = 0) :
    Calls Tryd.prog 33 #[v, .slice (some ⟨b1, o1, none⟩) 1 d1, v2, .int .i64 (-1)] w (GivesBytes w (esc zs)) := by
  have HCNT := Lib.hid (ha.count b1 o1 d1 hc1)
  rw [hz] at HCNT
  have HSRC := Lib.hid ha.src
  have HE := Lib.hid (esc_plain zs (count_zero_plain zs hz))
  obtain ⟨i0, hi, hz0, hz1, hz2⟩ := info_parts infoU8
  have HI : Hid (Tryd.prog.info? 5 = some i0 ∧ i0.zero = some (.int .u8 0) ∧ i0.size = 1 ∧ i0.bytes = 1) := ⟨hi, hz0, hz1, hz2⟩
  obtain ⟨a, n, c, rfl, hnl⟩ := ha.lits
  have HNL := Lib.hid hnl
  have hn2 : zs.length ≤ 1099511627776 := hn
  clear hi hz0 hz1 hz2 ha hz hc1 hn
  subst hnl
  go_enter Tryd.func33, Tryd.ntmps33
  go_wp2_with fail
  refine HCNT.out.mono ?_
  rintro e w' ⟨rfl, rfl⟩
  go_wp2_with (first | (at_builtin; refine wpList_append_seg rfl (.const (.slice none 0 0)) (.tmp 24) 23 rfl i0 _ 1 1 Tryd.underlying23 HI.out.1 HI.out.2.1 HI.out.2.2.1 HI.out.2.2.2 rfl (by decide) rfl (Seg.nil _ _ _) _ zs.length _ rfl HSRC.out (by unfold maxLen; omega) (by omega) ?_; intro v3 w3 hs3 hg3 ho3))
  have HF : Hid (GivesBytes w (esc zs) (.returned v3) w3) := by
    show GivesBytes _ _ _ _
    rw [HE.out]
    refine ⟨v3, rfl, by simpa using hs3, fun b hb => ?_, (Mod.refl _ _).grown hg3 (fun b hb _ => absurd (show (none : Option Nat) = some b from hb) (by simp))⟩
    rcases ho3 with e | e
    · exact absurd (show (none : Option Nat) = some b from e.symm.trans hb) (by simp)
    · rw [e] at hb; injection hb with hb; omega
  clear hs3 hg3 ho3
  go_wp2
  go_ret
  exact HF.out

theorem replaceAll_any (v : Value) (zs : List Nat) (b1 o1 d1 b2 o2 d2 : Nat) (w : World) (ha : Arg w v zs) (h1 : b1 < w.heap.size) (h2 : b2 < w.heap.size) (hc1 : w.cell? ⟨b1, o1, none⟩ = some (.int .u8 0)) (hc2 : w.cell? ⟨b2, o2, none⟩ = some (.int .u8 0)) (hc3 : w.cell? ⟨b2, o2 + 1, none⟩ = some (.int .u8 255))
    (hn : zs.length ≤ 1099511627776) : Calls Tryd.prog 29 #[v, .slice (some ⟨b1, o1, none⟩) 1 d1, .slice (some ⟨b2, o2, none⟩) 2 d2] w (GivesBytes w (esc zs)) := by
  have HC : Hid (Calls Tryd.prog 33 #[v, .slice (some ⟨b1, o1, none⟩) 1 d1, .slice (some ⟨b2, o2, none⟩) 2 d2, .int .i64 (-1)] w (GivesBytes w (esc zs))) := by
    show Calls _ _ _ _ _
    rcases Nat.eq_zero_or_pos (zs.count 0) with hz | hz
    · exact replace_none v zs b1 o1 d1 _ w ha hc1 hn hz
    · rcases ha with ⟨rfl, rfl⟩ | ⟨a, c, rfl, _, rfl⟩ | ⟨b, off, n, c, rfl, hcm, hr⟩
      · simp at hz
      · simp at hz
      · exact replace_some b off n c zs b1 o1 d1 b2 o2 d2 w hr h1 h2 hc1 hc2 hc3 (by rw [← hr.len]; exact hn) hcm hz
  clear ha h1 h2 hc1 hc2 hc3 hn
  go_enter Tryd.func29, Tryd.ntmps29
  go_wp2_with fail
  refine HC.out.mono ?_
  rintro e w' ⟨v', rfl, hB⟩
  have HB := Lib.hid hB
  clear hB
  go_wp2
  go_ret
  exact ⟨_, rfl, HB.out⟩

theorem text_mid {w w1 w3 : World} {v1 v3 : Value} {l : List Nat} (hB : Bytes ((w.alloc (.cells #[.int .u8 0] 5)).alloc (.cells #[.int .u8 0, .int .u8 255] 5)) w1 v1 l)
    (hs3 : Seg w3 5 1 v3 (0 + l.length) ([] ++ bs l)) (hg3 : (w1.alloc (.cells #[] 5)).grownBy w3 (Value.ownBlock (.slice (some ⟨w1.heap.size, 0, none⟩) 0 0)))
    (ho3 : v3.ownBlock = Value.ownBlock (.slice (some ⟨w1.heap.size, 0, none⟩) 0 0) ∨ v3.ownBlock = some (w1.alloc (.cells #[] 5)).heap.size) : Bytes w w3 v3 l := by
  have hm1 : Mod (fun _ => False) w w1 := (((Mod.refl _ w).alloc _).alloc _).trans hB.mod
  have hsz := hm1.size
  refine ⟨by simpa using hs3, fun b hb => ?_, (hm1.alloc _).grown hg3 (fun b hb hlt => ?_)⟩
  · rcases ho3 with e | e
    · rw [e] at hb; simp [Value.ownBlock] at hb; omega
    · rw [e] at hb; simp at hb; omega
  · simp [Value.ownBlock] at hb; omega
def codeT (zs : List Nat) : List Nat := esc zs ++ [0, 0]
theorem text_seg {w w3 : World} {v3 : Value} {l : List Nat} (h : Hid (Bytes w w3 v3 l)) : Seg (w3.alloc (.cells #[.int .u8 0, .int .u8 0] 5)) 5 1 v3 l.length (bs l) := h.out.seg.alloc _
theorem text_src (w3 : World) : Src (w3.alloc (.cells #[.int .u8 0, .int .u8 0] 5)) 1 (.slice (some ⟨w3.heap.size, 0, none⟩) 2 2) 2 (#[.int .u8 0, .int .u8 0] : Array Value).toList :=
  Src.one (size := 1) w3 #[.int .u8 0, .int .u8 0] 5 2 2 rfl (by simp [Value.oneCell'])
theorem text_last {w w3 w5 : World} {v3 v5 : Value} {l : List Nat} (h : Hid (Bytes w w3 v3 l)) (hs : Seg w5 5 1 v5 (l.length + 2) (bs l ++ (#[.int .u8 0, .int .u8 0] : Array Value).toList))
    (hg : (w3.alloc (.cells #[.int .u8 0, .int .u8 0] 5)).grownBy w5 v3.ownBlock) (ho : v5.ownBlock = v3.ownBlock ∨ v5.ownBlock = some (w3.alloc (.cells #[.int .u8 0, .int .u8 0] 5)).heap.size) : Bytes w w5 v5 (l ++ [0, 0]) := by
  have hB := h.out
  have hsz := hB.mod.size
  refine ⟨by simpa [bs] using hs, fun b hb => ?_, (hB.mod.alloc _).grown hg (fun b hb hlt => by have := hB.own b hb; omega)⟩
  rcases ho with e | e
  · exact hB.own b (e ▸ hb)
  · rw [e] at hb; simp at hb; omega
theorem text_any (v : Value) (zs : List Nat) (w : World) (ha : Arg w v zs) (hn : zs.length ≤ 1099511627776) : Calls Tryd.prog 14 #[v] w (GivesBytes w (codeT zs)) := by
  have ha2 := ha.mod (((Mod.refl (fun _ => False) w).alloc (.cells #[.int .u8 0] 5)).alloc (.cells #[.int .u8 0, .int .u8 255] 5)) (fun _ _ f => f)
  have hR := replaceAll_any v zs w.heap.size 0 1 (w.heap.size + 1) 0 2 ((w.alloc (.cells #[.int .u8 0] 5)).alloc (.cells #[.int .u8 0, .int .u8 255] 5)) ha2 (by simp; omega) (by simp) (by simp) (by simp) (by simp) hn
  have HR := Lib.hid hR
  have hel : (esc zs).length ≤ 2 * zs.length := by
    have := List.count_le_length (a := 0) (l := zs)
    rw [esc_length]; omega
  obtain ⟨i0, hi, hz0, hz1, hz2⟩ := info_parts infoU8
  have HI : Hid (Tryd.prog.info? 5 = some i0 ∧ i0.zero = some (.int .u8 0) ∧ i0.size = 1 ∧ i0.bytes = 1) := ⟨hi, hz0, hz1, hz2⟩
  clear ha ha2 hR hi hz0 hz1 hz2
  go_enter Tryd.func14, Tryd.ntmps14
  go_wp2_with fail
  refine HR.out.mono ?_
  rintro e w1 ⟨v1, rfl, hB⟩
  have hs0 : Seg (w1.alloc (.cells #[] 5)) 5 1 (.slice (some ⟨w1.heap.size, 0, none⟩) 0 0) 0 [] := by
    have := Seg.lit (e := 5) (size := 1) w1 #[] 0 rfl (by decide) (by simp)
    exact this
  have HS0 := Lib.hid hs0
  have HSRC := Lib.hid (hB.seg.alloc (.cells #[] 5)).src
  have HB := Lib.hid hB
  clear hs0 hB
  go_wp2_with (first | (at_builtin; refine wpList_append_seg rfl (.tmp 8) (.tmp 9) 23 rfl i0 _ 1 1 Tryd.underlying23 HI.out.1 HI.out.2.1 HI.out.2.2.1 HI.out.2.2.2 rfl (by decide) rfl HS0.out _ (esc zs).length _ rfl HSRC.out (by unfold maxLen; omega) (by omega) ?_; intro v3 w3 hs3 hg3 ho3; (have H3 : Hid (Bytes w w3 v3 (esc zs)) := text_mid HB.out hs3 hg3 ho3); clear hs3 hg3 ho3) | (at_builtin; refine wpList_append_seg rfl (.tmp 10) (.tmp 11) 23 rfl i0 _ 1 1 Tryd.underlying23 HI.out.1 HI.out.2.1 HI.out.2.2.1 HI.out.2.2.2 rfl (by decide) rfl (text_seg (by assumption)) _ 2 _ rfl (text_src _) (by unfold maxLen; omega) (by omega) ?_; intro v5 w5 hs5 hg5 ho5))
  have HF : Hid (GivesBytes w (codeT zs) (.returned v5) w5) := ⟨v5, rfl, text_last (by assumption) hs5 hg5 ho5⟩
  clear hs5 hg5 ho5
  go_wp2
  go_ret
  exact HF.out
end Go.Proofs.YtggbohdgcalblaaDoor
