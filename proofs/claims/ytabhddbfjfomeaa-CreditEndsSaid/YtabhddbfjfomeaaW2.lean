/- The contracts of the pool: New, Back, Out, Done. -/
import Derived.Test.YtabhddbfjfomeaaW1
import Derived.Test.YtabhddbfjfomeaaL
import Derived.Maps.OwnSet
import Derived.DeepKeys4
import Derived.BigRegion
import Derived.BigQuiet
import Derived.Deep.QuietTactic
import Derived.ChangeAlike
namespace Go.Proofs.Ytabhddbfjfomeaa
set_option linter.unusedVariables false
open Go.RowKit Go.Maps
theorem laidOut : laidOutB Try.prog = true := by kernel_rfl
theorem noteRow : (47 : TypeId) < Try.prog.types.size := of_decide_eq_true (by kernel_rfl)
theorem noteWide : (match Try.prog.underlying 47 with | some (.array _ _) | some (.struct _) => true | _ => false) = true := by kernel_rfl
theorem noteLaw : Keyed Try.prog 47 := Keyed.of_law (deep_law_laid laidOut (m := 2) (by omega) noteRow (by kernel_rfl) noteWide)
theorem unitZero (w : World) : (zeroValue 48).run Try.prog w = .ok (.agg #[]) w := by kernel_rfl
theorem kt : Try.prog.keyType 47 = true := by kernel_rfl
theorem kc : Try.prog.cellsOf 47 = 2 := by kernel_rfl
theorem kc5 : Try.prog.cellsOf 5 = 1 := by kernel_rfl
theorem kc22 : Try.prog.cellsOf 22 = 1 := by kernel_rfl

def noteVal (nd num : Int) : Value := .agg #[.int .u8 nd, .int .u64 num]
def noteKey (nd num : Int) : Lit := .string (keyBytes [.int .u8 nd, .int .u64 num])
theorem note_lits (m : Nat) (nd num : Int) (h1 : (Lit.int .u8 nd).wf = true) (h2 : (Lit.int .u64 num).wf = true) : Try.prog.keyLits (m + 2) 47 [.int .u8 nd, .int .u64 num] = some [.int .u8 nd, .int .u64 num] := by
  simp [Program.keyLits, Try.underlying47, kc, Try.underlying5, Try.underlying22, h1, h2, kc5, kc22]
theorem note_key (nd num : Int) (h1 : (Lit.int .u8 nd).wf = true) (h2 : (Lit.int .u64 num).wf = true) : keyOf Try.prog 47 (noteVal nd num) = some (noteKey nd num) := by
  have e := note_lits (Try.prog.types.size - 1) nd num h1 h2
  simp at e
  simp [keyOf, noteVal, noteKey, Try.underlying47, kt, Value.formed, kc, Value.cells, e]
theorem noteKey_inj {a b a' b' : Int} (h1 : (Lit.int .u8 a).wf = true) (h2 : (Lit.int .u64 b).wf = true) (h1' : (Lit.int .u8 a').wf = true) (h2' : (Lit.int .u64 b').wf = true) (h : noteKey a b = noteKey a' b') : a = a' ∧ b = b' := by
  have := noteLaw.inj (note_key a b h1 h2) (h ▸ note_key a' b' h1' h2')
  simp [noteVal] at this
  exact this

/-- A pool: block pb holds what is out and the map mb, whose keys are those that came back. -/
structure PoolAt (w : World) (pb mb : Nat) (out : Int) (n : Nat) (D : DataW Unit) : Prop where
  row : w.heap[pb]? = some (.cells #[.int .u64 out, .map (some mb)] 45 (0, 0))
  map : w.ownsMap Try.prog 47 unitElem mb n D

theorem PoolAt.ne {w : World} {pb mb : Nat} {out : Int} {n : Nat} {D : DataW Unit} (h : PoolAt w pb mb out n D) : pb ≠ mb := by
  intro e; subst e
  obtain ⟨es, clock, hb, _⟩ := h.map
  rw [h.row] at hb; cases hb
theorem PoolAt.mod {S : Nat → Prop} {w w' : World} {pb mb : Nat} {out : Int} {n : Nat} {D : DataW Unit} (h : PoolAt w pb mb out n D) (m : Mod S w w') (h1 : ¬ S pb) (h2 : ¬ S mb) : PoolAt w' pb mb out n D :=
  ⟨m.heap h.row h1, m.ownsMap h.map h2⟩

theorem new_any (w : World) : Calls Try.prog 10 #[] w fun e w' => e = .returned (.pointer (some ⟨w.heap.size + 1, 0, none⟩)) ∧
    w' = (w.alloc (.map #[] 0)).alloc (.cells #[.int .u64 1152921504606846976, .map (some w.heap.size)] 45) := by
  have hmm := @run_makeMap Try.prog
  go_enter Try.func10, Try.ntmps10
  go_wp2
  go_ret
  exact ⟨rfl, rfl⟩
theorem new_pool (w : World) : PoolAt ((w.alloc (.map #[] 0)).alloc (.cells #[.int .u64 1152921504606846976, .map (some w.heap.size)] 45)) (w.heap.size + 1) w.heap.size 1152921504606846976 0 (.map []) :=
  ⟨by have := heap_alloc_new' (w.alloc (.map #[] 0)) (.cells #[.int .u64 1152921504606846976, .map (some w.heap.size)] 45); simpa using this, (World.ownsMap_made w _ _ _).alloc _⟩

theorem out_any (w : World) (pb mb : Nat) (out : Int) (n : Nat) (D : DataW Unit) (h : PoolAt w pb mb out n D) : Calls Try.prog 13 #[.pointer (some ⟨pb, 0, none⟩)] w fun e w' => e = .returned (.int .u64 out) ∧ w = w' := by
  have c0 := cell_of_row h.row 0
  simp at c0
  clear h
  go_enter Try.func13, Try.ntmps13
  go_wp2
  go_ret
  exact ⟨rfl, rfl⟩

theorem done_any (w : World) (pb mb : Nat) (out : Int) (n : Nat) (D : DataW Unit) (h : PoolAt w pb mb out n D) : Calls Try.prog 12 #[.pointer (some ⟨pb, 0, none⟩)] w fun e w' => e = .returned (.bool (out == 0)) ∧ w = w' := by
  have c0 := cell_of_row h.row 0
  simp at c0
  clear h
  go_enter Try.func12, Try.ntmps12
  go_wp2
  go_ret
  exact ⟨rfl, rfl⟩

theorem pool_look {w : World} {pb mb : Nat} {out nd num : Int} {n : Nat} {D : DataW Unit} (h : PoolAt w pb mb out n D) (h1 : (Lit.int .u8 nd).wf = true) (h2 : (Lit.int .u64 num).wf = true) {b : Bool} (hh : Maps.has D (noteKey nd num) = b) :
    (Instr.lookup 43 (.map (some mb)) (.agg #[.int .u8 nd, .int .u64 num]) true).run Try.prog w = .ok (.tuple #[.agg #[], .bool b]) w := by
  obtain ⟨v, ps, hrun, hv⟩ := h.map.look_ok noteLaw Try.underlying43 (unitZero _) unitElem_mk (note_key nd num h1 h2)
  obtain ⟨rfl, _⟩ := unitElem_inv hv
  rw [hh] at hrun
  exact hrun
theorem PoolAt.alloc {w : World} {pb mb : Nat} {out : Int} {n : Nat} {D : DataW Unit} (h : PoolAt w pb mb out n D) (o : Obj) : PoolAt (w.alloc o) pb mb out n D := ⟨heap_alloc_old h.row, h.map.alloc o⟩
theorem PoolAt.drew {w : World} {pb mb : Nat} {out : Int} {n : Nat} {D : DataW Unit} (h : PoolAt w pb mb out n D) : PoolAt w.drew pb mb out n D := ⟨h.row, h.map⟩

theorem back_seen (w : World) (pb mb : Nat) (out nd num cr : Int) (n : Nat) (D : DataW Unit) (h : PoolAt w pb mb out n D) (h1 : (Lit.int .u8 nd).wf = true) (h2 : (Lit.int .u64 num).wf = true) (hh : Maps.has D (noteKey nd num) = true) :
    Calls Try.prog 11 #[.pointer (some ⟨pb,0,none⟩), .int .u8 nd, .int .u64 num, .int .u64 cr] w fun e w' => e = .returned (.tuple #[.bool false, .int .i64 0]) ∧ Mod (fun _ => False) w w' := by
  have c1 := cell_of_row h.row 1
  simp at c1
  have hp := lt_of_block h.row
  have hl := fun o1 => pool_look (h.alloc o1).drew h1 h2 hh
  have hl2 := fun o1 o2 => pool_look ((h.alloc o1).alloc o2).drew h1 h2 hh
  clear h hh h1 h2
  go_enter Try.func11, Try.ntmps11
  go_wp2
  go_region
  go_wp2
  go_ret2
  exact ⟨rfl, by repeat (first | exact Mod.refl _ _ | apply Mod.drew | apply Mod.alloc)⟩

theorem back_much (w : World) (pb mb : Nat) (out nd num cr : Int) (n : Nat) (D : DataW Unit) (h : PoolAt w pb mb out n D) (h1 : (Lit.int .u8 nd).wf = true) (h2 : (Lit.int .u64 num).wf = true) (hh : Maps.has D (noteKey nd num) = false) (hc : out < cr) :
    Calls Try.prog 11 #[.pointer (some ⟨pb,0,none⟩), .int .u8 nd, .int .u64 num, .int .u64 cr] w fun e w' => e = .returned (.tuple #[.bool false, .int .i64 4]) ∧ Mod (fun _ => False) w w' := by
  have c1 := cell_of_row h.row 1
  have c0 := cell_of_row h.row 0
  simp at c1 c0
  have hp := lt_of_block h.row
  have hl := fun o1 => pool_look (h.alloc o1).drew h1 h2 hh
  have hl2 := fun o1 o2 => pool_look ((h.alloc o1).alloc o2).drew h1 h2 hh
  clear h hh h1 h2
  go_enter Try.func11, Try.ntmps11
  go_wp2
  go_region
  go_wp2
  go_ret2
  exact ⟨rfl, by repeat (first | exact Mod.refl _ _ | apply Mod.drew | apply Mod.alloc)⟩

def PoolIn (S : Nat → Prop) (w : World) (pb mb : Nat) (out : Int) (n : Nat) (D : DataW Unit) (v : Value) (e : Ending) (w' : World) : Prop :=
  e = .returned v ∧ PoolAt w' pb mb out n D ∧ Mod S w w'

theorem back_new (w : World) (pb mb : Nat) (out nd num cr : Int) (n : Nat) (D : DataW Unit) (h : PoolAt w pb mb out n D) (h1 : (Lit.int .u8 nd).wf = true) (h2 : (Lit.int .u64 num).wf = true) (hh : Maps.has D (noteKey nd num) = false)
    (hc : cr ≤ out) (hc0 : 0 ≤ cr) (ho : out < 18446744073709551616) (hn : n < maxLen) :
    Calls Try.prog 11 #[.pointer (some ⟨pb,0,none⟩), .int .u8 nd, .int .u64 num, .int .u64 cr] w
      (PoolIn (fun b => b = pb ∨ b = mb) w pb mb (out - cr) (n + 1) (D.put (noteKey nd num) (.agg [])) (.tuple #[.bool true, .int .i64 0])) := by
  have c1 := cell_of_row h.row 1
  have c0 := cell_of_row h.row 0
  simp at c1 c0
  have hp := lt_of_block h.row
  have hl := fun o1 => pool_look (h.alloc o1).drew h1 h2 hh
  have hl2 := fun o1 o2 => pool_look ((h.alloc o1).alloc o2).drew h1 h2 hh
  have hP := ((h.alloc (.cells #[.int .u8 nd, .int .u64 num] 47)).alloc (.cells #[] 48)).drew.drew
  have hM : Mod (fun b => b = pb ∨ b = mb) w ((w.alloc (.cells #[.int .u8 nd, .int .u64 num] 47)).alloc (.cells #[] 48)).drew.drew := ((((Mod.refl _ _).alloc _).alloc _).drew).drew
  obtain ⟨w9, hrun, hown9, hturn⟩ := hP.map.store noteLaw Try.underlying43 hn (note_key nd num h1 h2) unitElem_mk
  have hM9 := hM.turned hturn (fun _ => Or.inr rfl)
  have hr9 : w9.heap[pb]? = some (.cells #[.int .u64 out, .map (some mb)] 45 (0, 0)) := (hturn.grown.block pb (lt_of_block hP.row) (by simp [h.ne])).trans hP.row
  have d0 := cell_of_row hr9 0
  have f0 := free_of_row hr9 0
  simp at d0
  have hne := h.ne
  have HF : PoolIn (fun b => b = pb ∨ b = mb) w pb mb (out - cr) (n + 1) (D.put (noteKey nd num) (.agg [])) (.tuple #[.bool true, .int .i64 0]) (.returned (.tuple #[.bool true, .int .i64 0])) (w9.setCell ⟨pb, 0, none⟩ (.int .u64 (out - cr))) :=
    ⟨rfl, ⟨by simpa using row_setCell hr9 0 (.int .u64 (out - cr)), hown9.setCell (fun e => hne e.symm) _⟩, hM9.setCell (fun _ => Or.inl rfl) _⟩
  clear h hh h1 h2 hP hM hM9 hown9 hturn hr9 hne
  simp only [noteVal] at hrun
  have HH := Lib.hid HF
  clear HF
  go_enter Try.func11, Try.ntmps11
  go_wp2
  go_region
  go_wp2
  go_region
  go_wp2
  go_ret2
  exact HH.out
end Go.Proofs.Ytabhddbfjfomeaa
