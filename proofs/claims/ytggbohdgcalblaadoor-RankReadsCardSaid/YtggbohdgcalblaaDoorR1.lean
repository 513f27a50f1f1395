/- Numbers as bytes: the contracts of size and Uint. -/
import Derived.Test.YtggbohdgcalblaaDoorRows
import Derived.Test.YtggbohdgcalblaaDoorS
import Derived.Test.YtggbohdgcalblaaDoorShelf
import Derived.WalkSpells
import Derived.OpenShut
import Derived.Shelf.Strconv.Itoa0
namespace Go.Proofs.YtggbohdgcalblaaDoor
set_option linter.unusedVariables false
open Go.RowKit

/-- Bytes as cells. -/
def bs (l : List Nat) : List Value := l.map fun (b : Nat) => .int .u8 (b : Int)
theorem bs_length (l : List Nat) : (bs l).length = l.length * 1 := by simp [bs]
theorem bs_append (a b : List Nat) : bs (a ++ b) = bs a ++ bs b := by simp [bs]
theorem bs_ones (l : List Nat) : ∀ u ∈ bs l, u.oneCell' = true := by
  intro u hu
  simp only [bs, List.mem_map] at hu
  obtain ⟨b, _, rfl⟩ := hu
  rfl

/-- What comes back is a slice in new memory that holds these bytes; nothing that was there has turned. -/
structure Bytes (w w' : World) (v : Value) (l : List Nat) : Prop where
  seg : Seg w' 5 1 v l.length (bs l)
  own : ∀ b, v.ownBlock = some b → w.heap.size ≤ b
  mod : Mod (fun _ => False) w w'
def GivesBytes (w : World) (l : List Nat) (e : Ending) (w' : World) : Prop := ∃ v, e = .returned v ∧ Bytes w w' v l

/-- The k low bytes of n, the highest first. -/
def be : Nat → Nat → List Nat
  | 0, _ => []
  | k + 1, n => n / 256 ^ k % 256 :: be k n
theorem be_length (k n : Nat) : (be k n).length = k := by
  induction k with
  | zero => rfl
  | succ k ih => simp [be, ih]
def sizeN (n : Nat) : Nat := (Lib.bitLen n + 7) / 8
def codeU (n : Nat) : List Nat := sizeN n :: be (sizeN n) n

theorem len64_any (n : Nat) (hn : n < 18446744073709551616) (w : World) : Calls Tryd.prog 32 #[.int .u64 n] w fun e w' => e = .returned (.int .i64 (Lib.bitLen n)) ∧ w = w' :=
  (Tryd.bits_Len64 n w (by omega) (by omega)).mono fun _ _ ⟨h, h'⟩ => ⟨by simpa using h, h'.symm⟩
theorem size_any (n : Nat) (hn : n < 18446744073709551616) (hs : Lib.bitLen n ≤ 64) (w : World) : Calls Tryd.prog 28 #[.int .u64 n] w fun e w' => e = .returned (.int .i64 (sizeN n)) ∧ w = w' := by
  go_enter Tryd.func28, Tryd.ntmps28
  go_wp2_with fail
  refine (len64_any n hn _).mono ?_
  rintro e w' ⟨rfl, rfl⟩
  go_wp2
  go_ret
  exact ⟨by simp [sizeN], rfl⟩

theorem infoU8 : (Tryd.prog.info? 5).map (fun i => (i.zero, i.size, i.bytes)) = some (some (.int .u8 0), 1, 1) := by kernel_rfl
theorem sizeU8 : (Tryd.prog.info? 5).map (·.size) = some 1 := by kernel_rfl

theorem Bytes.pushed {w w1 w2 : World} {v v' : Value} {l : List Nat} {b : Nat} (h : Bytes w w1 v l)
    (hs : Seg w2 5 1 v' (l.length + 1) (bs l ++ (#[.int .u8 (b : Int)] : Array Value).toList)) (hg : (w1.alloc (.cells #[.int .u8 (b : Int)] 5)).grownBy w2 v.ownBlock)
    (ho : v'.ownBlock = v.ownBlock ∨ v'.ownBlock = some (w1.alloc (.cells #[.int .u8 (b : Int)] 5)).heap.size) : Bytes w w2 v' (l ++ [b]) := by
  refine ⟨by simpa [bs] using hs, ?_, (h.mod.alloc _).grown hg (fun c hc hlt => by have := h.own c hc; omega)⟩
  intro c hc
  have := h.mod.size
  rcases ho with e | e
  · exact h.own c (e ▸ hc)
  · rw [e] at hc; simp at hc; omega

def UintRel (w : World) (n k : Nat) (j : Nat) (v : Value) (wr : World) : Prop := ∃ l, Bytes w wr v l ∧ l ++ be j n = k :: be k n ∧ l.length = k + 1 - j

theorem uint_end {w : World} {n k : Nat} {v : Value} {wr : World} (h : UintRel w n k 0 v wr) (hc : codeU n = k :: be k n) : GivesBytes w (codeU n) (.returned v) wr := by
  obtain ⟨l, hb, hl, _⟩ := h
  simp only [be, List.append_nil] at hl
  exact ⟨v, rfl, by rw [hc, ← hl]; exact hb⟩
theorem uint_any (n : Nat) (hn : n < 18446744073709551616) (hs : Lib.bitLen n ≤ 64) (w : World) : Calls Tryd.prog 9 #[.int .u64 n] w (GivesBytes w (codeU n)) := by
  have hk : sizeN n ≤ 8 := by unfold sizeN; omega
  have hbound : (n : Int) < 18446744073709551616 := by omega
  obtain ⟨k, hkd⟩ : ∃ k, k = sizeN n := ⟨_, rfl⟩
  have hcode : codeU n = k :: be k n := by rw [hkd]; rfl
  have HCODE := Lib.hid hcode
  obtain ⟨i0, hi, hz0, hz1, hz2⟩ := info_parts infoU8
  have HI : Hid (Tryd.prog.info? 5 = some i0 ∧ i0.zero = some (.int .u8 0) ∧ i0.size = 1 ∧ i0.bytes = 1) := ⟨hi, hz0, hz1, hz2⟩
  clear hcode hi hz0 hz1 hz2
  rw [← hkd] at hk
  have HKD := Lib.hid hkd
  clear hkd
  go_enter Tryd.func9, Tryd.ntmps9
  go_wp2_with fail
  refine (size_any n hn hs _).mono ?_
  rintro e w' ⟨rfl, rfl⟩
  rw [← HKD.out]
  clear hn hs hbound
  go_wp2_with fail
  go_loopw [4, 5] (fun v i wr => ∃ j : Nat, i = .int .i64 ((j : Int) - 1) ∧ j ≤ k ∧ UintRel w n k j v wr) (fun _ i _ => (intOf i + 1).toNat)
  case atStart => exact ⟨k, rfl, Nat.le_refl _, [k], ⟨by simpa [bs] using Seg.lit (e := 5) (size := 1) w #[.int .u8 (k : Int)] 1 rfl (by decide) (by simp [Value.oneCell']), by simp [Value.ownBlock], (Mod.refl _ _).alloc _⟩, rfl, by simp⟩
  case round =>
    obtain ⟨j, rfl, hj, hU⟩ := hrel
    have HU := Lib.hid hU
    clear hU
    cases j with
    | zero =>
      rw [show (((0 : Nat) : Int) - 1) = -1 from rfl]
      have HF := Lib.hid (uint_end (w := w) HU.out HCODE.out)
      go_wp2
      go_ret
      exact HF.out
    | succ j =>
      rw [show (((j + 1 : Nat) : Int) - 1) = (j : Int) by omega]
      obtain ⟨l, hb, hl, hll⟩ := HU.out
      have HB := Lib.hid hb
      have HL := Lib.hid hl
      have HLL := Lib.hid hll
      have hl9 : l.length ≤ 9 := by omega
      have hs1 := hb.seg.alloc (.cells #[.int .u8 ((n : Int) / 2 ^ (8 * j) % 256)] 5)
      have hsrc := Src.one (size := 1) wr #[.int .u8 ((n : Int) / 2 ^ (8 * j) % 256)] 5 1 1 rfl (by simp [Value.oneCell'])
      have HS1 := Lib.hid hs1
      have HSRC := Lib.hid hsrc
      clear hs1 hsrc hb hl hll
      go_wp2_with (first | (at_builtin; refine wpList_append_seg rfl (.tmp 17) (.tmp 23) 23 rfl i0 _ 1 1 Tryd.underlying23 HI.out.1 HI.out.2.1 HI.out.2.2.1 HI.out.2.2.2 rfl (by decide) rfl HS1.out _ 1 _ rfl HSRC.out (by unfold maxLen; omega) (by omega) ?_; intro v3 w3 hs3 hg3 ho3))
      have hnx : UintRel w n k j v3 w3 := by
        have e : ((n : Int) / 2 ^ (8 * j) % 256) = ((n / 256 ^ j % 256 : Nat) : Int) := by
          simp [Int.pow_mul]
        rw [e] at hs3 hg3 ho3
        have hb2 := HB.out.pushed hs3 hg3 ho3
        refine ⟨_, hb2, ?_, ?_⟩
        · have := HL.out; rw [List.append_assoc]; exact this
        · have := HLL.out; simp; omega
      have HN := Lib.hid hnx
      clear hnx hs3 hg3 ho3
      go_roundw
      case rel => exact ⟨j, rfl, by omega, HN.out⟩
      case measure => simp [intOf]
end Go.Proofs.YtggbohdgcalblaaDoor
