import Derived.Test.YtlpdifinkcjckaaGreatDoorMEn13
import Derived.Shelf.SlMaps.Clone
set_option linter.unusedVariables false
set_option linter.unusedSimpArgs false
namespace Go.Proofs.YtlpdifinkcjckaaGreatDoor
open Go.RowKit Go.Extern.Stop Go.Stop Go.Extern
theorem mKind (n : Nat) (h : Value) (w : World) : (Go.method (n + 1) 216 (.agg #[h]) "Kind").run Tryz.prog w = .ok (159, h) w := by kernel_rfl
theorem mElem (n : Nat) (h : Value) (w : World) : (Go.method (n + 1) 216 (.agg #[h]) "Elem").run Tryz.prog w = .ok (172, .agg #[h]) w := by kernel_rfl
theorem mImpl (n : Nat) (h : Value) (w : World) : (Go.method (n + 1) 216 (.agg #[h]) "Implements").run Tryz.prog w = .ok (173, .agg #[h]) w := by kernel_rfl
theorem mAssign (n : Nat) (h : Value) (w : World) : (Go.method (n + 1) 216 (.agg #[h]) "AssignableTo").run Tryz.prog w = .ok (170, .agg #[h]) w := by kernel_rfl
theorem mUnwrap (n : Nat) (c : Nat) (w : World) : (Go.method (n + 1) 162 (.pointer (some ⟨c, 0, none⟩)) "Unwrap").run Tryz.prog w = .ok (165, .pointer (some ⟨c, 0, none⟩)) w := by kernel_rfl
set_option maxRecDepth 100000 in
set_option maxHeartbeats 4000000 in
theorem asC_hit (c : Nat) (tb : Nat) (old : Value) (w : World) (hg : ErrT w) (ht : w.heap[tb]? = some (.cells #[old] 162 (0, 0))) :
   Calls Tryz.prog 84 #[chainV c, .iface 193 (.pointer (some ⟨tb, 0, none⟩))] w fun e w' => e = .returned (.bool true) ∧ Mod (fun k => k = tb) w w' ∧ w'.heap[tb]? = some (.cells #[.pointer (some ⟨c, 0, none⟩)] 162 (0, 0)) := by
 have x1 := @run_callFunc_extern Tryz.prog 101 _ (fun args => ReflectliteValue.unpack (args.getD 0 (.tuple #[]))) Tryz.func101 (by kernel_rfl) (by kernel_rfl) (by kernel_rfl) (by kernel_rfl)
 have x2 := @run_callFunc_extern Tryz.prog 102 _ (ReflectliteValue.methodAny (ReflectliteValue.valueError "reflectlite.Value.Type" 0) (fun t _ _ _ => ReflectliteType.toType t)) Tryz.func102 (by kernel_rfl) (by kernel_rfl) (by kernel_rfl) (by kernel_rfl)
 have x3 := @run_callFunc_extern Tryz.prog 103 _ (ReflectliteValue.method (ReflectliteValue.valueError "reflectlite.Value.IsNil" 0) ReflectliteValue.isNil) Tryz.func103 (by kernel_rfl) (by kernel_rfl) (by kernel_rfl) (by kernel_rfl)
 have x4 := @run_callFunc_extern Tryz.prog 159 _ (ReflectliteType.abiMethod fun t => do pure (.int .u8 (← Rtype.kind t))) Tryz.func159 (by kernel_rfl) (by kernel_rfl) (by kernel_rfl) (by kernel_rfl)
 have x5 := @run_callFunc_extern Tryz.prog 172 _ (ReflectliteType.method ReflectliteType.elem) Tryz.func172 (by kernel_rfl) (by kernel_rfl) (by kernel_rfl) (by kernel_rfl)
 have x6 := @run_callFunc_extern Tryz.prog 173 _ (ReflectliteType.relation "Implements" ReflectliteType.implements_) Tryz.func173 (by kernel_rfl) (by kernel_rfl) (by kernel_rfl) (by kernel_rfl)
 have x7 := @run_callFunc_extern Tryz.prog 129 _ ReflectliteType.typeOf Tryz.func129 (by kernel_rfl) (by kernel_rfl) (by kernel_rfl) (by kernel_rfl)
 have x8 := @run_callFunc_extern Tryz.prog 170 _ (ReflectliteType.relation "AssignableTo" ReflectliteType.assignableTo) Tryz.func170 (by kernel_rfl) (by kernel_rfl) (by kernel_rfl) (by kernel_rfl)
 have x9 := @run_callFunc_extern Tryz.prog 130 _ (ReflectliteValue.method (ReflectliteValue.valueError "reflectlite.Value.Elem" 0) ReflectliteValue.elem) Tryz.func130 (by kernel_rfl) (by kernel_rfl) (by kernel_rfl) (by kernel_rfl)
 have xa := @run_callFunc_extern Tryz.prog 131 _ ReflectliteValue.set Tryz.func131 (by kernel_rfl) (by kernel_rfl) (by kernel_rfl) (by kernel_rfl)
 have g1 := vPC
 have g2 := tPC
 have g3 := kPC
 have g4 := kTC
 have g5 := elC
 have g6 := imC
 have m1 := mKind
 have m2 := mElem
 have m3 := mImpl
 have m4 := mAssign
 have m5 := mUnwrap
 have t1 := tyC
 have t2 := asCC
 have t3 := vTC
 unfold chainV
 have hlt : tb < w.heap.size := lt_of_block ht
 have n8 := isNilC ⟨w.heap.size, 0, none⟩ ⟨tb, 0, none⟩ ((w.alloc (.cells #[.pointer (some ⟨tb, 0, none⟩)] 193)).alloc (.cells #[.pointer (some ⟨1, 193, none⟩), .pointer (some ⟨w.heap.size, 0, none⟩), .int .u64 150] 183)) (by simp)
 have hgl : 0 < w.heap.size := World.block_lt_of_cell? _ _ hg
 have hg2 : ((w.alloc (.cells #[.pointer (some ⟨tb, 0, none⟩)] 193)).alloc (.cells #[.pointer (some ⟨1, 193, none⟩), .pointer (some ⟨w.heap.size, 0, none⟩), .int .u64 150] 183)).cell? ⟨0, 0, none⟩ = some (.iface 216 (.agg #[.pointer (some ⟨1, 130, none⟩)])) := by
   rw [World.cell?_alloc_lt _ _ ⟨0, 0, none⟩ (by simp <;> omega), World.cell?_alloc_lt _ _ ⟨0, 0, none⟩ hgl]; exact hg
 have el := elemVC ⟨w.heap.size, 0, none⟩ ⟨tb, 0, none⟩ (((w.alloc (.cells #[.pointer (some ⟨tb, 0, none⟩)] 193)).alloc (.cells #[.pointer (some ⟨1, 193, none⟩), .pointer (some ⟨w.heap.size, 0, none⟩), .int .u64 150] 183)).alloc (.cells #[.pointer (some ⟨1, 193, none⟩), .pointer (some ⟨w.heap.size, 0, none⟩), .int .u64 150] 183)) (by rw [World.cell?_alloc_lt _ _ ⟨w.heap.size, 0, none⟩ (by simp; omega)]; simp)
 have st := setC ⟨tb, 0, none⟩ ⟨w.heap.size + 1 + 1 + 1, 0, none⟩ ⟨c, 0, none⟩ old ((((w.alloc (.cells #[.pointer (some ⟨tb, 0, none⟩)] 193)).alloc (.cells #[.pointer (some ⟨1, 193, none⟩), .pointer (some ⟨w.heap.size, 0, none⟩), .int .u64 150] 183)).alloc (.cells #[.pointer (some ⟨1, 193, none⟩), .pointer (some ⟨w.heap.size, 0, none⟩), .int .u64 150] 183)).alloc (.cells #[.pointer (some ⟨c, 0, none⟩)] 162))
   (by rw [World.cell?_alloc_at _ _ _ _ (by simp)]; rfl)
   (by rw [World.cell?_alloc_lt _ _ ⟨tb, 0, none⟩ (by simp; omega), World.cell?_alloc_lt _ _ ⟨tb, 0, none⟩ (by simp; omega), World.cell?_alloc_lt _ _ ⟨tb, 0, none⟩ (by simp; omega), World.cell?_alloc_lt _ _ ⟨tb, 0, none⟩ hlt]; rw [cell_of_row ht]; rfl)
   (by rw [World.frozen?_alloc_old _ _ ⟨tb, 0, none⟩ (by simp; omega), World.frozen?_alloc_old _ _ ⟨tb, 0, none⟩ (by simp; omega), World.frozen?_alloc_old _ _ ⟨tb, 0, none⟩ (by simp; omega), World.frozen?_alloc_old _ _ ⟨tb, 0, none⟩ (Nat.ne_of_lt hlt)]; exact free_of_row ht 0)
 go_enter Tryz.func84, Tryz.ntmps84
 go_wp2
 refine wp_loop_rounds 1 ?_
 rw [rounds_succ]
 go_wp2
 go_ret
 have hm : Mod (fun k => k = tb) w ((((w.alloc (.cells #[.pointer (some ⟨tb, 0, none⟩)] 193)).alloc (.cells #[.pointer (some ⟨1, 193, none⟩), .pointer (some ⟨w.heap.size, 0, none⟩), .int .u64 150] 183)).alloc (.cells #[.pointer (some ⟨1, 193, none⟩), .pointer (some ⟨w.heap.size, 0, none⟩), .int .u64 150] 183)).alloc (.cells #[.pointer (some ⟨c, 0, none⟩)] 162)) := ((((Mod.refl _ w).alloc _).alloc _).alloc _).alloc _
 have hb : ((((w.alloc (.cells #[.pointer (some ⟨tb, 0, none⟩)] 193)).alloc (.cells #[.pointer (some ⟨1, 193, none⟩), .pointer (some ⟨w.heap.size, 0, none⟩), .int .u64 150] 183)).alloc (.cells #[.pointer (some ⟨1, 193, none⟩), .pointer (some ⟨w.heap.size, 0, none⟩), .int .u64 150] 183)).alloc (.cells #[.pointer (some ⟨c, 0, none⟩)] 162)).heap[tb]? = some (.cells #[old] 162 (0, 0)) := heap_alloc_old (heap_alloc_old (heap_alloc_old (heap_alloc_old ht)))
 refine ⟨rfl, hm.setCell (p := ⟨tb, 0, none⟩) (fun _ => rfl) _, ?_⟩
 simpa using row_setCell hb 0 (.pointer (some ⟨c, 0, none⟩))
set_option maxRecDepth 100000 in
set_option maxHeartbeats 4000000 in
theorem asE_hit (c : Nat) (code pos : Int) (v : Nat) (tb : Nat) (old : Value) (w : World) (hg : ErrT w) (hc : w.heap[c]? = some (chainO code pos v)) (ht : w.heap[tb]? = some (.cells #[old] 30 (0, 0))) :
   Calls Tryz.prog 84 #[chainV c, .iface 159 (.pointer (some ⟨tb, 0, none⟩))] w fun e w' => e = .returned (.bool true) ∧ Mod (fun k => k = tb) w w' ∧ w'.heap[tb]? = some (.cells #[.int .i64 code] 30 (0, 0)) := by
 have x1 := @run_callFunc_extern Tryz.prog 101 _ (fun args => ReflectliteValue.unpack (args.getD 0 (.tuple #[]))) Tryz.func101 (by kernel_rfl) (by kernel_rfl) (by kernel_rfl) (by kernel_rfl)
 have x2 := @run_callFunc_extern Tryz.prog 102 _ (ReflectliteValue.methodAny (ReflectliteValue.valueError "reflectlite.Value.Type" 0) (fun t _ _ _ => ReflectliteType.toType t)) Tryz.func102 (by kernel_rfl) (by kernel_rfl) (by kernel_rfl) (by kernel_rfl)
 have x3 := @run_callFunc_extern Tryz.prog 103 _ (ReflectliteValue.method (ReflectliteValue.valueError "reflectlite.Value.IsNil" 0) ReflectliteValue.isNil) Tryz.func103 (by kernel_rfl) (by kernel_rfl) (by kernel_rfl) (by kernel_rfl)
 have x4 := @run_callFunc_extern Tryz.prog 159 _ (ReflectliteType.abiMethod fun t => do pure (.int .u8 (← Rtype.kind t))) Tryz.func159 (by kernel_rfl) (by kernel_rfl) (by kernel_rfl) (by kernel_rfl)
 have x5 := @run_callFunc_extern Tryz.prog 172 _ (ReflectliteType.method ReflectliteType.elem) Tryz.func172 (by kernel_rfl) (by kernel_rfl) (by kernel_rfl) (by kernel_rfl)
 have x6 := @run_callFunc_extern Tryz.prog 173 _ (ReflectliteType.relation "Implements" ReflectliteType.implements_) Tryz.func173 (by kernel_rfl) (by kernel_rfl) (by kernel_rfl) (by kernel_rfl)
 have x7 := @run_callFunc_extern Tryz.prog 129 _ ReflectliteType.typeOf Tryz.func129 (by kernel_rfl) (by kernel_rfl) (by kernel_rfl) (by kernel_rfl)
 have x8 := @run_callFunc_extern Tryz.prog 170 _ (ReflectliteType.relation "AssignableTo" ReflectliteType.assignableTo) Tryz.func170 (by kernel_rfl) (by kernel_rfl) (by kernel_rfl) (by kernel_rfl)
 have x9 := @run_callFunc_extern Tryz.prog 130 _ (ReflectliteValue.method (ReflectliteValue.valueError "reflectlite.Value.Elem" 0) ReflectliteValue.elem) Tryz.func130 (by kernel_rfl) (by kernel_rfl) (by kernel_rfl) (by kernel_rfl)
 have xa := @run_callFunc_extern Tryz.prog 131 _ ReflectliteValue.set Tryz.func131 (by kernel_rfl) (by kernel_rfl) (by kernel_rfl) (by kernel_rfl)
 have g1 := vPE
 have g2 := tPE
 have g3 := kPE
 have g4 := kTE
 have g5 := elE
 have g6 := imE
 have m1 := mKind
 have m2 := mElem
 have m3 := mImpl
 have m4 := mAssign
 have m5 := mUnwrap
 have t1 := tyC
 have t2 := asCE
 have t3 := tyE
 have t4 := asEE
 have t5 := vTE
 have t6 := noAsC
 have t7 := hasUC
 unfold chainV
 have hlt : tb < w.heap.size := lt_of_block ht
 have n8 := isNilE ⟨w.heap.size, 0, none⟩ ⟨tb, 0, none⟩ ((w.alloc (.cells #[.pointer (some ⟨tb, 0, none⟩)] 159)).alloc (.cells #[.pointer (some ⟨1, 159, none⟩), .pointer (some ⟨w.heap.size, 0, none⟩), .int .u64 150] 183)) (by simp)
 have hgl : 0 < w.heap.size := World.block_lt_of_cell? _ _ hg
 have hg2 : ((w.alloc (.cells #[.pointer (some ⟨tb, 0, none⟩)] 159)).alloc (.cells #[.pointer (some ⟨1, 159, none⟩), .pointer (some ⟨w.heap.size, 0, none⟩), .int .u64 150] 183)).cell? ⟨0, 0, none⟩ = some (.iface 216 (.agg #[.pointer (some ⟨1, 130, none⟩)])) := by
   rw [World.cell?_alloc_lt _ _ ⟨0, 0, none⟩ (by simp <;> omega), World.cell?_alloc_lt _ _ ⟨0, 0, none⟩ hgl]; exact hg
 have el := elemVE ⟨w.heap.size, 0, none⟩ ⟨tb, 0, none⟩ (((w.alloc (.cells #[.pointer (some ⟨tb, 0, none⟩)] 159)).alloc (.cells #[.pointer (some ⟨1, 159, none⟩), .pointer (some ⟨w.heap.size, 0, none⟩), .int .u64 150] 183)).alloc (.cells #[.pointer (some ⟨1, 159, none⟩), .pointer (some ⟨w.heap.size, 0, none⟩), .int .u64 150] 183)) (by rw [World.cell?_alloc_lt _ _ ⟨w.heap.size, 0, none⟩ (by simp; omega)]; simp)
 have st := setE ⟨tb, 0, none⟩ ⟨w.heap.size + 1 + 1 + 1, 0, none⟩ code old ((((w.alloc (.cells #[.pointer (some ⟨tb, 0, none⟩)] 159)).alloc (.cells #[.pointer (some ⟨1, 159, none⟩), .pointer (some ⟨w.heap.size, 0, none⟩), .int .u64 150] 183)).alloc (.cells #[.pointer (some ⟨1, 159, none⟩), .pointer (some ⟨w.heap.size, 0, none⟩), .int .u64 150] 183)).alloc (.cells #[.int .i64 code] 30))
   (by rw [World.cell?_alloc_at _ _ _ _ (by simp)]; rfl)
   (by rw [World.cell?_alloc_lt _ _ ⟨tb, 0, none⟩ (by simp; omega), World.cell?_alloc_lt _ _ ⟨tb, 0, none⟩ (by simp; omega), World.cell?_alloc_lt _ _ ⟨tb, 0, none⟩ (by simp; omega), World.cell?_alloc_lt _ _ ⟨tb, 0, none⟩ hlt]; rw [cell_of_row ht]; rfl)
   (by rw [World.frozen?_alloc_old _ _ ⟨tb, 0, none⟩ (by simp; omega), World.frozen?_alloc_old _ _ ⟨tb, 0, none⟩ (by simp; omega), World.frozen?_alloc_old _ _ ⟨tb, 0, none⟩ (by simp; omega), World.frozen?_alloc_old _ _ ⟨tb, 0, none⟩ (Nat.ne_of_lt hlt)]; exact free_of_row ht 0)
 have hcl : c < w.heap.size := lt_of_block hc
 have c2 : (((w.alloc (.cells #[.pointer (some ⟨tb, 0, none⟩)] 159)).alloc (.cells #[.pointer (some ⟨1, 159, none⟩), .pointer (some ⟨w.heap.size, 0, none⟩), .int .u64 150] 183)).alloc (.cells #[.pointer (some ⟨1, 159, none⟩), .pointer (some ⟨w.heap.size, 0, none⟩), .int .u64 150] 183)).cell? ⟨c, 2, none⟩ = some (.iface 30 (.int .i64 code)) := by
   rw [World.cell?_alloc_lt _ _ ⟨c, 2, none⟩ (by simp; omega), World.cell?_alloc_lt _ _ ⟨c, 2, none⟩ (by simp; omega), World.cell?_alloc_lt _ _ ⟨c, 2, none⟩ hcl]
   exact cell_of_row hc 2
 go_enter Tryz.func84, Tryz.ntmps84
 go_wp2
 refine wp_loop_rounds 2 ?_
 rw [rounds_succ]
 go_wp2
 rw [rounds_succ]
 go_wp2
 go_ret
 have hm : Mod (fun k => k = tb) w ((((w.alloc (.cells #[.pointer (some ⟨tb, 0, none⟩)] 159)).alloc (.cells #[.pointer (some ⟨1, 159, none⟩), .pointer (some ⟨w.heap.size, 0, none⟩), .int .u64 150] 183)).alloc (.cells #[.pointer (some ⟨1, 159, none⟩), .pointer (some ⟨w.heap.size, 0, none⟩), .int .u64 150] 183)).alloc (.cells #[.int .i64 code] 30)) := ((((Mod.refl _ w).alloc _).alloc _).alloc _).alloc _
 have hb : ((((w.alloc (.cells #[.pointer (some ⟨tb, 0, none⟩)] 159)).alloc (.cells #[.pointer (some ⟨1, 159, none⟩), .pointer (some ⟨w.heap.size, 0, none⟩), .int .u64 150] 183)).alloc (.cells #[.pointer (some ⟨1, 159, none⟩), .pointer (some ⟨w.heap.size, 0, none⟩), .int .u64 150] 183)).alloc (.cells #[.int .i64 code] 30)).heap[tb]? = some (.cells #[old] 30 (0, 0)) := heap_alloc_old (heap_alloc_old (heap_alloc_old (heap_alloc_old ht)))
 refine ⟨rfl, hm.setCell (p := ⟨tb, 0, none⟩) (fun _ => rfl) _, ?_⟩
 simpa using row_setCell hb 0 (.int .i64 code)
set_option maxRecDepth 100000 in
set_option maxHeartbeats 4000000 in
theorem asC_miss (code : Int) (tb : Nat) (old : Value) (w : World) (hg : ErrT w) (ht : w.heap[tb]? = some (.cells #[old] 162 (0, 0))) :
   Calls Tryz.prog 84 #[.iface 30 (.int .i64 code), .iface 193 (.pointer (some ⟨tb, 0, none⟩))] w fun e w' => e = .returned (.bool false) ∧ Mod (fun _ => False) w w' := by
 have x1 := @run_callFunc_extern Tryz.prog 101 _ (fun args => ReflectliteValue.unpack (args.getD 0 (.tuple #[]))) Tryz.func101 (by kernel_rfl) (by kernel_rfl) (by kernel_rfl) (by kernel_rfl)
 have x2 := @run_callFunc_extern Tryz.prog 102 _ (ReflectliteValue.methodAny (ReflectliteValue.valueError "reflectlite.Value.Type" 0) (fun t _ _ _ => ReflectliteType.toType t)) Tryz.func102 (by kernel_rfl) (by kernel_rfl) (by kernel_rfl) (by kernel_rfl)
 have x3 := @run_callFunc_extern Tryz.prog 103 _ (ReflectliteValue.method (ReflectliteValue.valueError "reflectlite.Value.IsNil" 0) ReflectliteValue.isNil) Tryz.func103 (by kernel_rfl) (by kernel_rfl) (by kernel_rfl) (by kernel_rfl)
 have x4 := @run_callFunc_extern Tryz.prog 159 _ (ReflectliteType.abiMethod fun t => do pure (.int .u8 (← Rtype.kind t))) Tryz.func159 (by kernel_rfl) (by kernel_rfl) (by kernel_rfl) (by kernel_rfl)
 have x5 := @run_callFunc_extern Tryz.prog 172 _ (ReflectliteType.method ReflectliteType.elem) Tryz.func172 (by kernel_rfl) (by kernel_rfl) (by kernel_rfl) (by kernel_rfl)
 have x6 := @run_callFunc_extern Tryz.prog 173 _ (ReflectliteType.relation "Implements" ReflectliteType.implements_) Tryz.func173 (by kernel_rfl) (by kernel_rfl) (by kernel_rfl) (by kernel_rfl)
 have x7 := @run_callFunc_extern Tryz.prog 129 _ ReflectliteType.typeOf Tryz.func129 (by kernel_rfl) (by kernel_rfl) (by kernel_rfl) (by kernel_rfl)
 have x8 := @run_callFunc_extern Tryz.prog 170 _ (ReflectliteType.relation "AssignableTo" ReflectliteType.assignableTo) Tryz.func170 (by kernel_rfl) (by kernel_rfl) (by kernel_rfl) (by kernel_rfl)
 have x9 := @run_callFunc_extern Tryz.prog 130 _ (ReflectliteValue.method (ReflectliteValue.valueError "reflectlite.Value.Elem" 0) ReflectliteValue.elem) Tryz.func130 (by kernel_rfl) (by kernel_rfl) (by kernel_rfl) (by kernel_rfl)
 have xa := @run_callFunc_extern Tryz.prog 131 _ ReflectliteValue.set Tryz.func131 (by kernel_rfl) (by kernel_rfl) (by kernel_rfl) (by kernel_rfl)
 have g1 := vPC
 have g2 := tPC
 have g3 := kPC
 have g4 := kTC
 have g5 := elC
 have g6 := imC
 have m1 := mKind
 have m2 := mElem
 have m3 := mImpl
 have m4 := mAssign
 have m5 := mUnwrap
 have t3 := tyE
 have t4 := asEC
 have t6 := noAsE
 have t7 := noUE
 have t8 := noUsE
 have hlt : tb < w.heap.size := lt_of_block ht
 have n8 := isNilC ⟨w.heap.size, 0, none⟩ ⟨tb, 0, none⟩ ((w.alloc (.cells #[.pointer (some ⟨tb, 0, none⟩)] 193)).alloc (.cells #[.pointer (some ⟨1, 193, none⟩), .pointer (some ⟨w.heap.size, 0, none⟩), .int .u64 150] 183)) (by simp)
 have hgl : 0 < w.heap.size := World.block_lt_of_cell? _ _ hg
 have hg2 : ((w.alloc (.cells #[.pointer (some ⟨tb, 0, none⟩)] 193)).alloc (.cells #[.pointer (some ⟨1, 193, none⟩), .pointer (some ⟨w.heap.size, 0, none⟩), .int .u64 150] 183)).cell? ⟨0, 0, none⟩ = some (.iface 216 (.agg #[.pointer (some ⟨1, 130, none⟩)])) := by
   rw [World.cell?_alloc_lt _ _ ⟨0, 0, none⟩ (by simp <;> omega), World.cell?_alloc_lt _ _ ⟨0, 0, none⟩ hgl]; exact hg
 go_enter Tryz.func84, Tryz.ntmps84
 go_wp2
 refine wp_loop_rounds 1 ?_
 rw [rounds_succ]
 go_wp2
 go_ret
 exact ⟨rfl, (((Mod.refl _ w).alloc _).alloc _).alloc _⟩
open Go.RowKit Go.Maps
def ptrN : Option Node → Value
 | none => .pointer none
 | some n => .pointer (some ⟨n.p, 0, none⟩)
theorem zero_ptr (w : World) : (zeroValue 89).run Tryz.prog w = .ok (.pointer none) w := Tryz.zeroValue89 w
theorem zero_val (w : World) : (zeroValue 68).run Tryz.prog w = .ok (.agg #[.int .u8 0, .int .i64 0, .string ⟨#[]⟩]) w := Tryz.zeroValue68 w
theorem NM.look {w w' : World} {bm : Nat} {ns : List Node} (h : NM w bm ns) (m : Mod (fun _ => False) w w') {v : Nat} (hv : v < 4294967296) :
   (Instr.lookup 84 (.map (some bm)) (.int .u32 (v : Int)) false).run Tryz.prog w' = .ok (ptrN (findN ns v)) w' := by
 have := (h.map.keep m).get Tryz.underlying27 Tryz.underlying84 (zero_ptr w') (u32key hv)
 rw [getL_nodes] at this
 rw [this]
 cases findN ns v <;> rfl
def valO : Option Val → Value
 | none => .agg #[.int .u8 0, .int .i64 0, .string ⟨#[]⟩]
 | some v => .agg #[.int .u8 (v.k : Int), .int .i64 v.n, .string v.s]
theorem valO_getD (o : Option Val) : (o.map Val.v).getD (.agg #[.int .u8 0, .int .i64 0, .string ⟨#[]⟩]) = valO o := by cases o <;> rfl
theorem NAt.edge {w w' : World} {n : Node} (h : NAt w n) (m : Mod (fun _ => False) w w') {v : Nat} (hv : v < 4294967296) :
   (Instr.lookup 102 (.map (some n.me)) (.int .u32 (v : Int)) true).run Tryz.prog w' = .ok (.tuple #[valO (entX n.x.halves v), .bool (entX n.x.halves v).isSome]) w' := by
 have := (h.edges.keep m).getOk Tryz.underlying27 Tryz.underlying102 (zero_val w') (u32key hv)
 rw [getL_pents] at this
 rw [this, valO_getD, Option.isSome_map]
theorem NAt.prop {w w' : World} {n : Node} (h : NAt w n) (m : Mod (fun _ => False) w w') {k : Nat} (hk : k < 256) :
   (Instr.lookup 101 (.map (some n.mp)) (.int .u8 (k : Int)) false).run Tryz.prog w' = .ok (valO (entX n.x.props k)) w' := by
 have := (h.props.keep m).get Tryz.underlying5 Tryz.underlying101 (zero_val w') (u8key hk)
 rw [getL_pents] at this
 rw [this, valO_getD]
theorem valO_eq (o : Option Val) : valO o = .agg #[.int .u8 ((o.getD noVal).k : Int), .int .i64 (o.getD noVal).n, .string (o.getD noVal).s] := by cases o <;> rfl
theorem NAt.propv {w w' : World} {n : Node} (h : NAt w n) (m : Mod (fun _ => False) w w') {k : Nat} (hk : k < 256) :
   (Instr.lookup 101 (.map (some n.mp)) (.int .u8 (k : Int)) false).run Tryz.prog w' = .ok (.agg #[.int .u8 ((propV n.x k).k : Int), .int .i64 (propV n.x k).n, .string (propV n.x k).s]) w' := by
 have := h.prop m hk
 rw [valO_eq] at this
 exact this
theorem NAt.deg {w w' : World} {n : Node} (h : NAt w n) (m : Mod (fun _ => False) w w') (ty : TypeId) : (Builtin.len_ #[102] ty #[.map (some n.me)]).run Tryz.prog w' = .ok (.int .i64 (n.x.halves.length : Int)) w' := by
 have := (h.edges.keep m).len Tryz.underlying102 ty
 rw [pents_length] at this
 exact this
def RunOK (g bm : Nat) (ns : List Node) (o : Opr) (G : Gr) (vals : List Val) (w : World) (e : Ending) (w' : World) : Prop :=
 ∃ vo ns', e = .returned (.tuple #[vo, .nilIface]) ∧ Turned g bm ns G (fun k => k ≠ o.a ∧ k ≠ o.b) w w' ns' ∧ RdS w' 3 vo vals.length (vvcells vals)
def RunNO (code : Nat) (pos : Int) (w : World) (e : Ending) (w' : World) : Prop :=
 ∃ c v, e = .returned (.tuple #[.slice none 0 0, chainV c]) ∧ w'.heap[c]? = some (chainO (code : Int) pos v) ∧ Mod (fun _ => False) w w'
def RunP (g bm : Nat) (ns : List Node) (o : Opr) (pos : Int) (w : World) (e : Ending) (w' : World) : Prop :=
 ((oneG (ns.map Node.x) o).e = 0 → RunOK g bm ns o (oneG (ns.map Node.x) o).g (oneG (ns.map Node.x) o).vals w e w') ∧ ((oneG (ns.map Node.x) o).e ≠ 0 → RunNO (oneG (ns.map Node.x) o).e pos w e w')
theorem RunP.ok {g bm : Nat} {ns : List Node} {o : Opr} {pos : Int} {w w' : World} {e : Ending} {G : Gr} {vals : List Val} (h : oneG (ns.map Node.x) o = ⟨0, G, vals⟩) (k : RunOK g bm ns o G vals w e w') : RunP g bm ns o pos w e w' := by
 unfold RunP
 rw [h]
 exact ⟨fun _ => k, fun c => absurd rfl c⟩
theorem RunP.no {g bm : Nat} {ns : List Node} {o : Opr} {pos : Int} {w w' : World} {e : Ending} {G : Gr} {vals : List Val} {code : Nat} (h : oneG (ns.map Node.x) o = ⟨code, G, vals⟩) (hc : code ≠ 0) (k : RunNO code pos w e w') : RunP g bm ns o pos w e w' := by
 unfold RunP
 rw [h]
 exact ⟨fun c => absurd c hc, fun _ => k⟩
theorem RunNO.made {code : Nat} {pos : Int} {v c : Nat} {w wx : World} (m : Mod (fun _ => False) w wx) (hc : wx.heap.size = c) : RunNO code pos w (.returned (.tuple #[.slice none 0 0, chainV c])) (wx.alloc (chainO (code : Int) pos v)) := by
 subst hc
 exact ⟨_, v, rfl, heap_alloc_new' _ _, m.alloc _⟩
theorem UMap.empty {P : Program} {kt : TypeId} {q : IntKind} {w : World} {b : Nat} (h : w.heap[b]? = some (.map #[] 0)) : UMap P kt q w b [] := by
 obtain ⟨es, clock, hb, F, hn, hD⟩ := World.ownsMap_made w P kt rawE
 rw [heap_alloc_new'] at hb
 injection hb with hb
 injection hb with h1 h2
 subst h1 h2
 exact ⟨⟨#[], 0, h, F, hn, hD⟩⟩
theorem NAt.made {w : World} {p mp me id : Nat} (hid : id < 4294967296) (h0 : w.heap[p]? = some (.cells #[.map (some mp), .map (some me)] 104 (0, 0))) (h1 : w.heap[mp]? = some (.map #[] 0)) (h2 : w.heap[me]? = some (.map #[] 0)) : NAt w ⟨⟨id, true, [], []⟩, p, mp, me⟩ :=
 ⟨h0, UMap.empty h1, UMap.empty h2, ⟨hid, by simp, by simp⟩⟩
open Go.RowKit Go.Maps
def Cloned (P : Program) (kt : TypeId) (q : IntKind) (es : Ents) (w : World) (e : Ending) (w' : World) : Prop :=
 ∃ c, e = .returned (.map (some c)) ∧ w.heap.size ≤ c ∧ Mod (fun _ => False) w w' ∧ UMap P kt q w' c es
theorem UMap.cloned {P : Program} {kt : TypeId} {q : IntKind} {w : World} {b : Nat} {es : Ents} (h : UMap P kt q w b es) : ∃ xs clock, w.heap[b]? = some (.map xs clock) ∧ UMap P kt q (w.alloc (.map xs clock)) w.heap.size es := by
 obtain ⟨xs, clock, hb, F, hn, hD⟩ := h.own
 exact ⟨xs, clock, hb, ⟨xs, clock, heap_alloc_new' _ _, F, hn, hD⟩⟩
set_option maxRecDepth 100000 in
theorem clone8_any (b : Nat) (es : Ents) (w : World) (h : UMap Tryz.prog 5 .u8 w b es) :
   Calls Tryz.prog 81 #[.map (some b)] w (Cloned Tryz.prog 5 .u8 es w) := by
 obtain ⟨xs, clock, hb, hU⟩ := h.cloned
 have HU := Lib.hid hU
 have x1 := @run_callFunc_extern Tryz.prog 99 _ Extern.MapsClone.clone Tryz.func99 (by kernel_rfl) (by kernel_rfl) (by kernel_rfl) (by kernel_rfl)
 have x2 := run_maps_clone_sl (P := Tryz.prog) w 101 hb
 have x3 := fun w => run_eql_map_nil_sl (P := Tryz.prog) w 101 _ _ (some b) Tryz.underlying101
 have x4 := fun (w : World) (v : Value) => run_typeAssert_map_sl (P := Tryz.prog) w 101 20 _ _ v Tryz.underlying101
 clear h hb hU
 go_enter Tryz.func81, Tryz.ntmps81
 go_wp2
 go_ret
 exact ⟨_, rfl, Nat.le_refl _, (Mod.refl _ _).alloc _, HU.out⟩
set_option maxRecDepth 100000 in
theorem clone32_any (b : Nat) (es : Ents) (w : World) (h : UMap Tryz.prog 27 .u32 w b es) :
   Calls Tryz.prog 82 #[.map (some b)] w (Cloned Tryz.prog 27 .u32 es w) := by
 obtain ⟨xs, clock, hb, hU⟩ := h.cloned
 have HU := Lib.hid hU
 have x1 := @run_callFunc_extern Tryz.prog 99 _ Extern.MapsClone.clone Tryz.func99 (by kernel_rfl) (by kernel_rfl) (by kernel_rfl) (by kernel_rfl)
 have x2 := run_maps_clone_sl (P := Tryz.prog) w 102 hb
 have x3 := fun w => run_eql_map_nil_sl (P := Tryz.prog) w 102 _ _ (some b) Tryz.underlying102
 have x4 := fun (w : World) (v : Value) => run_typeAssert_map_sl (P := Tryz.prog) w 102 20 _ _ v Tryz.underlying102
 clear h hb hU
 go_enter Tryz.func82, Tryz.ntmps82
 go_wp2
 go_ret
 exact ⟨_, rfl, Nat.le_refl _, (Mod.refl _ _).alloc _, HU.out⟩
structure Cps (w : World) (L : Gr) (p : Nat → Bool) (bw : Nat) (cs : List Node) (wr : World) : Prop where
 mod : Mod (fun _ => False) w wr
 nm : NM wr bw cs
 is : cs.map Node.x = L.filter fun x => p x.id
 new : ∀ b, FootN bw cs b → w.heap.size ≤ b
theorem Cps.keep {w wr wx : World} {L : Gr} {p : Nat → Bool} {bw : Nat} {cs : List Node} (h : Cps w L p bw cs wr) (m : Mod (fun _ => False) wr wx) : Cps w L p bw cs wx := ⟨h.mod.trans m, h.nm.keep m, h.is, h.new⟩
theorem Cps.len {w wr : World} {L : Gr} {p : Nat → Bool} {bw : Nat} {cs : List Node} (h : Cps w L p bw cs wr) : cs.length ≤ L.length := by
 have := congrArg List.length h.is
 rw [List.length_map] at this
 rw [this]; exact List.length_filter_le _ _
theorem Cps.add {w wr wl w7 : World} {L : Gr} {p p' : Nat → Bool} {bw : Nat} {cs : List Node} (h : Cps w L p bw cs wr) (hL : Rising Vtx.id L) {x : Vtx} (hx : x ∈ L) (hp : ∀ k, p' k = (p k || x.id == k)) {a c8 c32 : Nat} (m : Mod (fun _ => False) wr wl) (hM : Mod (fun i => i = bw) wl w7)
   (hU : UMap Tryz.prog 27 .u32 w7 bw (putL x.id (.pointer (some ⟨a, 0, none⟩)) (cs.map Node.f))) (hn : NAt wl ⟨x, a, c8, c32⟩) (h0 : wr.heap.size ≤ a ∧ wr.heap.size ≤ c8 ∧ wr.heap.size ≤ c32) (ho : a ≠ c8 ∧ a ≠ c32 ∧ c8 ≠ c32) : ∃ cs', Cps w L p' bw cs' w7 := by
 have hlt := h.nm.lt
 have hbw := hlt bw (.inl rfl)
 have hbl : ∀ b ∈ (⟨x, a, c8, c32⟩ : Node).blocks, wr.heap.size ≤ b := by
   intro b hb
   rcases Node.in_blocks.1 hb with rfl | rfl | rfl
   · exact h0.1
   · exact h0.2.1
   · exact h0.2.2
 refine ⟨layG keyN ⟨x, a, c8, c32⟩ false cs, (h.mod.trans m).trans' hM (fun i hi e => by have := h.new bw (.inl rfl); omega), (h.nm.keep m).add (n := ⟨x, a, c8, c32⟩) hM hU (hn.mod hM (fun b hb e => by have := hbl b hb; omega)) (fun b hb f => by have := hbl b hb; have := hlt b f; omega) ho, ?_, fun b hb => ?_⟩
 · rw [lay_mapN, h.is, filter_more hL hx p]
   apply List.filter_congr
   intro y _
   rw [hp]
 · rcases footN_lay h.nm.rising hb with f | f
   · exact h.new b f
   · exact Nat.le_trans h.mod.size (hbl b f)
theorem Cps.skip {w wr : World} {L : Gr} {p p' : Nat → Bool} {bw : Nat} {cs : List Node} (h : Cps w L p bw cs wr) {v : Nat} (hv : findV L v = none) (hp : ∀ k, p' k = (p k || v == k)) : Cps w L p' bw cs wr :=
 ⟨h.mod, h.nm, by rw [h.is, ← filter_none hv p]; apply List.filter_congr; intro y _; rw [hp], h.new⟩
end Go.Proofs.YtlpdifinkcjckaaGreatDoor
