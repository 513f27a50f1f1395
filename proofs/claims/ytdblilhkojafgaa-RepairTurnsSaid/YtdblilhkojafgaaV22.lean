/- gussetlaw23.awake. -/
import Derived.Test.YtdblilhkojafgaaV21
namespace Go.Proofs.Ytdblilhkojafgaa
set_option linter.unusedVariables false
open Go.RowKit

def va : Vtx := ⟨1, true, [], [farE 2]⟩
def vb : Vtx := ⟨2, true, [], []⟩
theorem vertex_a (b : Nat) (w : World) (hb : w.heap[b]? = some (.cells #[.int .u32 2] 27 (0, 0))) :
    Calls Try.prog 31 #[.int .u32 1, .slice (some ⟨b, 0, none⟩) 1 1] w fun e w' => ∃ vh, e = .returned (.agg #[.int .u32 1, .bool true, .slice none 0 0, vh]) ∧ Mod (fun _ => False) w w' ∧ VNew w w' (.slice none 0 0) vh va :=
  vertex_any 1 _ [2] w (by omega) (by simp) ⟨rfl, ⟨_, _, rfl, Nat.le_refl _, by simp, fun h => by cases h⟩, fun a c e j u hu => by
    injection e with e1 e2 e3
    refine ⟨b, 0, e1.symm, lt_of_block hb, ?_⟩
    match j, hu with
    | 0, hu => simp at hu; subst hu; exact cell_of_row hb 0⟩ (by simp)
theorem vertex_b (w : World) :
    Calls Try.prog 31 #[.int .u32 2, .slice none 0 0] w fun e w' => ∃ vh, e = .returned (.agg #[.int .u32 2, .bool true, .slice none 0 0, vh]) ∧ Mod (fun _ => False) w w' ∧ VNew w w' (.slice none 0 0) vh vb :=
  vertex_any 2 _ [] w (by omega) (by simp) ⟨rfl, ⟨_, _, rfl, Nat.le_refl _, by simp, fun _ => rfl⟩, fun a c e j u hu => by simp at hu⟩ (by simp)

theorem rd_lit (w : World) (t : TypeId) (cs : Array Value) (n size n0 : Nat) (h0 : w.heap.size = n0) (hs : cs.size = n * size) (hn : n ≤ maxLen) (h1 : ∀ u ∈ cs.toList, u.oneCell' = true) : RdS (w.alloc (.cells cs t)) size (.slice (some ⟨n0, 0, none⟩) n n) n cs.toList := by
  subst h0
  exact (Seg.lit (e := t) (size := size) w cs n hs hn h1).rdS
def lsA (w1 w2 : World) (v1 v2 : Value) : List Ls := [⟨.slice (some ⟨w1.heap.size, 0, none⟩) 1 1, [⟨va, .slice none 0 0, v1⟩]⟩, ⟨.slice (some ⟨w2.heap.size, 0, none⟩) 1 1, [⟨vb, .slice none 0 0, v2⟩]⟩]
theorem awake_rd (w0 w0' w1 w2 : World) (a1 a2 : Option Addr) (l1 l2 c1 c2 : Nat) (u : Bool) (h1 : VNew w0 w1 (.slice none 0 0) (.slice a1 l1 c1) va) (m : Mod (fun _ => False) (w1.alloc (.cells #[.int .u32 1, .bool true, .slice none 0 0, .slice a1 l1 c1] 31)) w2) (h2 : VNew w0' w2 (.slice none 0 0) (.slice a2 l2 c2) vb) :
    LLRd (((w2.alloc (.cells #[.int .u32 2, .bool true, .slice none 0 0, .slice a2 l2 c2] 31)).alloc (.cells #[.slice (some ⟨w1.heap.size, 0, none⟩) 1 1, .slice (some ⟨w2.heap.size, 0, none⟩) 1 1] 26)).alloc (.cells #[.bool true, .bool u] 4)) (.slice (some ⟨w2.heap.size + 1, 0, none⟩) 2 2) (lsA w1 w2 (.slice a1 l1 c1) (.slice a2 l2 c2)) ∧
    FRd (((w2.alloc (.cells #[.int .u32 2, .bool true, .slice none 0 0, .slice a2 l2 c2] 31)).alloc (.cells #[.slice (some ⟨w1.heap.size, 0, none⟩) 1 1, .slice (some ⟨w2.heap.size, 0, none⟩) 1 1] 26)).alloc (.cells #[.bool true, .bool u] 4)) (.slice (some ⟨w2.heap.size + 1 + 1, 0, none⟩) 2 2) [true, u] := by
  have mA : Mod (fun _ => False) w2 (((w2.alloc (.cells #[.int .u32 2, .bool true, .slice none 0 0, .slice a2 l2 c2] 31)).alloc (.cells #[.slice (some ⟨w1.heap.size, 0, none⟩) 1 1, .slice (some ⟨w2.heap.size, 0, none⟩) 1 1] 26)).alloc (.cells #[.bool true, .bool u] 4)) := (((Mod.refl _ _).alloc _).alloc _).alloc _
  have m1 : Mod (fun _ => False) w1 w2 := ((Mod.refl (fun _ => False) w1).alloc _).trans m
  refine ⟨⟨?_, ?_⟩, ?_⟩
  · exact ((rd_lit _ _ #[.slice (some ⟨w1.heap.size, 0, none⟩) 1 1, .slice (some ⟨w2.heap.size, 0, none⟩) 1 1] 2 1 (w2.heap.size + 1) (by simp) rfl (by simp [maxLen]) (by simp [Value.oneCell'])).keep ((Mod.refl (fun _ => False) _).alloc _))
  · intro s hs
    simp only [lsA, List.mem_cons, List.not_mem_nil, or_false] at hs
    rcases hs with rfl | rfl
    · refine ⟨?_, ?_⟩
      · exact ((rd_lit w1 _ #[.int .u32 1, .bool true, .slice none 0 0, .slice a1 l1 c1] 1 4 _ rfl rfl (by simp [maxLen]) (by simp [Value.oneCell'])).keep m).keep mA
      · intro s hs; simp only [List.mem_cons, List.not_mem_nil, or_false] at hs; subst hs
        exact (h1.rd.keep m1).keep mA
    · refine ⟨?_, ?_⟩
      · exact ((rd_lit w2 _ #[.int .u32 2, .bool true, .slice none 0 0, .slice a2 l2 c2] 1 4 _ rfl rfl (by simp [maxLen]) (by simp [Value.oneCell'])).keep ((Mod.refl (fun _ => False) _).alloc _)).keep ((Mod.refl (fun _ => False) _).alloc _)
      · intro s hs; simp only [List.mem_cons, List.not_mem_nil, or_false] at hs; subst hs
        exact h2.rd.keep mA
  · exact rd_lit _ _ #[.bool true, .bool u] 2 1 (w2.heap.size + 1 + 1) (by simp) rfl (by simp [maxLen]) (by simp [Value.oneCell'])
theorem awake_ok (w1 w2 : World) (v1 v2 : Value) : (lsA w1 w2 v1 v2).any notOK = false := by
  simp [lsA, notOK, listOK, va, vb, Vtx.right, numB, above, chain, farE, halfOK, Val.ok, ByteArray.toList_eq]
theorem awake_reps (w1 w2 : World) (v1 v2 : Value) (u : Bool) : allR (held [true, u] 0 (lsA w1 w2 v1 v2)) (![true, u].any (!·)) = [⟨if u then 2 else 4, 0, 1, 2⟩] := by
  cases u <;> simp [lsA, held, allR, repOf, preR, halfR, judgeN, seatF, va, vb, farE]
theorem awake_cmp (w0 w0' w1 w2 : World) (a1 a2 : Option Addr) (l1 l2 c1 c2 : Nat) (u : Bool) (h1 : VNew w0 w1 (.slice none 0 0) (.slice a1 l1 c1) va) (m : Mod (fun _ => False) (w1.alloc (.cells #[.int .u32 1, .bool true, .slice none 0 0, .slice a1 l1 c1] 31)) w2) (h2 : VNew w0' w2 (.slice none 0 0) (.slice a2 l2 c2) vb) :
    Calls Try.prog 11 #[.slice (some ⟨w2.heap.size + 1, 0, none⟩) 2 2, .slice (some ⟨w2.heap.size + 1 + 1, 0, none⟩) 2 2] (((w2.alloc (.cells #[.int .u32 2, .bool true, .slice none 0 0, .slice a2 l2 c2] 31)).alloc (.cells #[.slice (some ⟨w1.heap.size, 0, none⟩) 1 1, .slice (some ⟨w2.heap.size, 0, none⟩) 1 1] 26)).alloc (.cells #[.bool true, .bool u] 4)) fun e w' => ∃ vo, e = .returned (.tuple #[vo, .int .i64 0]) ∧ Told (((w2.alloc (.cells #[.int .u32 2, .bool true, .slice none 0 0, .slice a2 l2 c2] 31)).alloc (.cells #[.slice (some ⟨w1.heap.size, 0, none⟩) 1 1, .slice (some ⟨w2.heap.size, 0, none⟩) 1 1] 26)).alloc (.cells #[.bool true, .bool u] 4)) vo [⟨if u then 2 else 4, 0, 1, 2⟩] w' := by
  obtain ⟨hr, hf⟩ := awake_rd w0 w0' w1 w2 a1 a2 l1 l2 c1 c2 u h1 m h2
  have h := compare_good _ _ _ [true, u] _ hr hf rfl (by simp [lsA]) (by simp [lsA]) (awake_ok _ _ _ _) (by cases u <;> simp [lsA, held, maxLen]) (by rw [awake_reps]; simp)
  rw [awake_reps] at h
  exact h
end Go.Proofs.Ytdblilhkojafgaa
