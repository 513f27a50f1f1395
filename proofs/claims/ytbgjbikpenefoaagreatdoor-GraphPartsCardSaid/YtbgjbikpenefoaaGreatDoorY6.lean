/- Y6: what is needed of it (by shake.py). -/
import Derived.Test.YtbgjbikpenefoaaGreatDoorY5

/- Y6, as far as the seat goes. -/
/- errors.As at its targets; fault.Code, first, chains, Links of an error with its place. (Printed by gen_fault2.py.) -/
namespace Go.Proofs.YtbgjbikpenefoaaGreatDoor
set_option linter.unusedVariables false
set_option linter.unusedSimpArgs false
open Go.RowKit Go.Extern.Stop Go.Stop Go.Extern
theorem mKind (n : Nat) (h : Value) (w : World) : (Go.method (n + 1) 186 (.agg #[h]) "Kind").run Tryz.prog w = .ok (142, h) w := by kernel_rfl
theorem mElem (n : Nat) (h : Value) (w : World) : (Go.method (n + 1) 186 (.agg #[h]) "Elem").run Tryz.prog w = .ok (154, .agg #[h]) w := by kernel_rfl
theorem mImpl (n : Nat) (h : Value) (w : World) : (Go.method (n + 1) 186 (.agg #[h]) "Implements").run Tryz.prog w = .ok (155, .agg #[h]) w := by kernel_rfl
theorem mAssign (n : Nat) (h : Value) (w : World) : (Go.method (n + 1) 186 (.agg #[h]) "AssignableTo").run Tryz.prog w = .ok (152, .agg #[h]) w := by kernel_rfl
theorem mUnwrap (n : Nat) (c : Nat) (w : World) : (Go.method (n + 1) 140 (.pointer (some ⟨c, 0, none⟩)) "Unwrap").run Tryz.prog w = .ok (147, .pointer (some ⟨c, 0, none⟩)) w := by kernel_rfl
set_option maxRecDepth 100000 in
set_option maxHeartbeats 4000000 in
theorem asC_hit (c : Nat) (tb : Nat) (old : Value) (w : World) (hg : ErrT w) (ht : w.heap[tb]? = some (.cells #[old] 140 (0, 0))) :
    Calls Tryz.prog 75 #[chainV c, .iface 166 (.pointer (some ⟨tb, 0, none⟩))] w fun e w' => e = .returned (.bool true) ∧ Mod (fun k => k = tb) w w' ∧ w'.heap[tb]? = some (.cells #[.pointer (some ⟨c, 0, none⟩)] 140 (0, 0)) := by
  have x1 := @run_callFunc_extern Tryz.prog 89 _ (fun args => ReflectliteValue.unpack (args.getD 0 (.tuple #[]))) Tryz.func89 (by kernel_rfl) (by kernel_rfl) (by kernel_rfl) (by kernel_rfl)
  have x2 := @run_callFunc_extern Tryz.prog 90 _ (ReflectliteValue.methodAny (ReflectliteValue.valueError "reflectlite.Value.Type" 0) (fun t _ _ _ => ReflectliteType.toType t)) Tryz.func90 (by kernel_rfl) (by kernel_rfl) (by kernel_rfl) (by kernel_rfl)
  have x3 := @run_callFunc_extern Tryz.prog 91 _ (ReflectliteValue.method (ReflectliteValue.valueError "reflectlite.Value.IsNil" 0) ReflectliteValue.isNil) Tryz.func91 (by kernel_rfl) (by kernel_rfl) (by kernel_rfl) (by kernel_rfl)
  have x4 := @run_callFunc_extern Tryz.prog 142 _ (ReflectliteType.abiMethod fun t => do pure (.int .u8 (← Rtype.kind t))) Tryz.func142 (by kernel_rfl) (by kernel_rfl) (by kernel_rfl) (by kernel_rfl)
  have x5 := @run_callFunc_extern Tryz.prog 154 _ (ReflectliteType.method ReflectliteType.elem) Tryz.func154 (by kernel_rfl) (by kernel_rfl) (by kernel_rfl) (by kernel_rfl)
  have x6 := @run_callFunc_extern Tryz.prog 155 _ (ReflectliteType.relation "Implements" ReflectliteType.implements_) Tryz.func155 (by kernel_rfl) (by kernel_rfl) (by kernel_rfl) (by kernel_rfl)
  have x7 := @run_callFunc_extern Tryz.prog 115 _ ReflectliteType.typeOf Tryz.func115 (by kernel_rfl) (by kernel_rfl) (by kernel_rfl) (by kernel_rfl)
  have x8 := @run_callFunc_extern Tryz.prog 152 _ (ReflectliteType.relation "AssignableTo" ReflectliteType.assignableTo) Tryz.func152 (by kernel_rfl) (by kernel_rfl) (by kernel_rfl) (by kernel_rfl)
  have x9 := @run_callFunc_extern Tryz.prog 116 _ (ReflectliteValue.method (ReflectliteValue.valueError "reflectlite.Value.Elem" 0) ReflectliteValue.elem) Tryz.func116 (by kernel_rfl) (by kernel_rfl) (by kernel_rfl) (by kernel_rfl)
  have xa := @run_callFunc_extern Tryz.prog 117 _ ReflectliteValue.set Tryz.func117 (by kernel_rfl) (by kernel_rfl) (by kernel_rfl) (by kernel_rfl)
  have g1 := vPC
  have g2 := tPC
  have g3 := kPC
  have g4 := kTC
  have g5 := elC
  have g6 := imC
  have m1 := mKind
  have m2 := mElem
  have m3 := mImpl
  have m4 := mAssign
  have m5 := mUnwrap
  have t1 := tyC
  have t2 := asCC
  have t3 := vTC
  unfold chainV
  have hlt : tb < w.heap.size := lt_of_block ht
  have n8 := isNilC ⟨w.heap.size, 0, none⟩ ⟨tb, 0, none⟩ ((w.alloc (.cells #[.pointer (some ⟨tb, 0, none⟩)] 166)).alloc (.cells #[.pointer (some ⟨1, 166, none⟩), .pointer (some ⟨w.heap.size, 0, none⟩), .int .u64 150] 156)) (by simp)
  have hgl : 0 < w.heap.size := World.block_lt_of_cell? _ _ hg
  have hg2 : ((w.alloc (.cells #[.pointer (some ⟨tb, 0, none⟩)] 166)).alloc (.cells #[.pointer (some ⟨1, 166, none⟩), .pointer (some ⟨w.heap.size, 0, none⟩), .int .u64 150] 156)).cell? ⟨0, 0, none⟩ = some (.iface 186 (.agg #[.pointer (some ⟨1, 112, none⟩)])) := by
    rw [World.cell?_alloc_lt _ _ ⟨0, 0, none⟩ (by simp <;> omega), World.cell?_alloc_lt _ _ ⟨0, 0, none⟩ hgl]; exact hg
  have el := elemVC ⟨w.heap.size, 0, none⟩ ⟨tb, 0, none⟩ (((w.alloc (.cells #[.pointer (some ⟨tb, 0, none⟩)] 166)).alloc (.cells #[.pointer (some ⟨1, 166, none⟩), .pointer (some ⟨w.heap.size, 0, none⟩), .int .u64 150] 156)).alloc (.cells #[.pointer (some ⟨1, 166, none⟩), .pointer (some ⟨w.heap.size, 0, none⟩), .int .u64 150] 156)) (by rw [World.cell?_alloc_lt _ _ ⟨w.heap.size, 0, none⟩ (by simp; omega)]; simp)
  have st := setC ⟨tb, 0, none⟩ ⟨w.heap.size + 1 + 1 + 1, 0, none⟩ ⟨c, 0, none⟩ old ((((w.alloc (.cells #[.pointer (some ⟨tb, 0, none⟩)] 166)).alloc (.cells #[.pointer (some ⟨1, 166, none⟩), .pointer (some ⟨w.heap.size, 0, none⟩), .int .u64 150] 156)).alloc (.cells #[.pointer (some ⟨1, 166, none⟩), .pointer (some ⟨w.heap.size, 0, none⟩), .int .u64 150] 156)).alloc (.cells #[.pointer (some ⟨c, 0, none⟩)] 140))
    (by rw [World.cell?_alloc_at _ _ _ _ (by simp)]; rfl)
    (by rw [World.cell?_alloc_lt _ _ ⟨tb, 0, none⟩ (by simp; omega), World.cell?_alloc_lt _ _ ⟨tb, 0, none⟩ (by simp; omega), World.cell?_alloc_lt _ _ ⟨tb, 0, none⟩ (by simp; omega), World.cell?_alloc_lt _ _ ⟨tb, 0, none⟩ hlt]; rw [cell_of_row ht]; rfl)
    (by rw [World.frozen?_alloc_old _ _ ⟨tb, 0, none⟩ (by simp; omega), World.frozen?_alloc_old _ _ ⟨tb, 0, none⟩ (by simp; omega), World.frozen?_alloc_old _ _ ⟨tb, 0, none⟩ (by simp; omega), World.frozen?_alloc_old _ _ ⟨tb, 0, none⟩ (Nat.ne_of_lt hlt)]; exact free_of_row ht 0)
  go_enter Tryz.func75, Tryz.ntmps75
  go_wp2
  refine wp_loop_rounds 1 ?_
  rw [rounds_succ]
  go_wp2
  go_ret
  have hm : Mod (fun k => k = tb) w ((((w.alloc (.cells #[.pointer (some ⟨tb, 0, none⟩)] 166)).alloc (.cells #[.pointer (some ⟨1, 166, none⟩), .pointer (some ⟨w.heap.size, 0, none⟩), .int .u64 150] 156)).alloc (.cells #[.pointer (some ⟨1, 166, none⟩), .pointer (some ⟨w.heap.size, 0, none⟩), .int .u64 150] 156)).alloc (.cells #[.pointer (some ⟨c, 0, none⟩)] 140)) := ((((Mod.refl _ w).alloc _).alloc _).alloc _).alloc _
  have hb : ((((w.alloc (.cells #[.pointer (some ⟨tb, 0, none⟩)] 166)).alloc (.cells #[.pointer (some ⟨1, 166, none⟩), .pointer (some ⟨w.heap.size, 0, none⟩), .int .u64 150] 156)).alloc (.cells #[.pointer (some ⟨1, 166, none⟩), .pointer (some ⟨w.heap.size, 0, none⟩), .int .u64 150] 156)).alloc (.cells #[.pointer (some ⟨c, 0, none⟩)] 140)).heap[tb]? = some (.cells #[old] 140 (0, 0)) := heap_alloc_old (heap_alloc_old (heap_alloc_old (heap_alloc_old ht)))
  refine ⟨rfl, hm.setCell (p := ⟨tb, 0, none⟩) (fun _ => rfl) _, ?_⟩
  simpa using row_setCell hb 0 (.pointer (some ⟨c, 0, none⟩))
set_option maxRecDepth 100000 in
set_option maxHeartbeats 4000000 in
theorem asE_hit (c : Nat) (code pos : Int) (v : Nat) (tb : Nat) (old : Value) (w : World) (hg : ErrT w) (hc : w.heap[c]? = some (chainO code pos v)) (ht : w.heap[tb]? = some (.cells #[old] 30 (0, 0))) :
    Calls Tryz.prog 75 #[chainV c, .iface 137 (.pointer (some ⟨tb, 0, none⟩))] w fun e w' => e = .returned (.bool true) ∧ Mod (fun k => k = tb) w w' ∧ w'.heap[tb]? = some (.cells #[.int .i64 code] 30 (0, 0)) := by
  have x1 := @run_callFunc_extern Tryz.prog 89 _ (fun args => ReflectliteValue.unpack (args.getD 0 (.tuple #[]))) Tryz.func89 (by kernel_rfl) (by kernel_rfl) (by kernel_rfl) (by kernel_rfl)
  have x2 := @run_callFunc_extern Tryz.prog 90 _ (ReflectliteValue.methodAny (ReflectliteValue.valueError "reflectlite.Value.Type" 0) (fun t _ _ _ => ReflectliteType.toType t)) Tryz.func90 (by kernel_rfl) (by kernel_rfl) (by kernel_rfl) (by kernel_rfl)
  have x3 := @run_callFunc_extern Tryz.prog 91 _ (ReflectliteValue.method (ReflectliteValue.valueError "reflectlite.Value.IsNil" 0) ReflectliteValue.isNil) Tryz.func91 (by kernel_rfl) (by kernel_rfl) (by kernel_rfl) (by kernel_rfl)
  have x4 := @run_callFunc_extern Tryz.prog 142 _ (ReflectliteType.abiMethod fun t => do pure (.int .u8 (← Rtype.kind t))) Tryz.func142 (by kernel_rfl) (by kernel_rfl) (by kernel_rfl) (by kernel_rfl)
  have x5 := @run_callFunc_extern Tryz.prog 154 _ (ReflectliteType.method ReflectliteType.elem) Tryz.func154 (by kernel_rfl) (by kernel_rfl) (by kernel_rfl) (by kernel_rfl)
  have x6 := @run_callFunc_extern Tryz.prog 155 _ (ReflectliteType.relation "Implements" ReflectliteType.implements_) Tryz.func155 (by kernel_rfl) (by kernel_rfl) (by kernel_rfl) (by kernel_rfl)
  have x7 := @run_callFunc_extern Tryz.prog 115 _ ReflectliteType.typeOf Tryz.func115 (by kernel_rfl) (by kernel_rfl) (by kernel_rfl) (by kernel_rfl)
  have x8 := @run_callFunc_extern Tryz.prog 152 _ (ReflectliteType.relation "AssignableTo" ReflectliteType.assignableTo) Tryz.func152 (by kernel_rfl) (by kernel_rfl) (by kernel_rfl) (by kernel_rfl)
  have x9 := @run_callFunc_extern Tryz.prog 116 _ (ReflectliteValue.method (ReflectliteValue.valueError "reflectlite.Value.Elem" 0) ReflectliteValue.elem) Tryz.func116 (by kernel_rfl) (by kernel_rfl) (by kernel_rfl) (by kernel_rfl)
  have xa := @run_callFunc_extern Tryz.prog 117 _ ReflectliteValue.set Tryz.func117 (by kernel_rfl) (by kernel_rfl) (by kernel_rfl) (by kernel_rfl)
  have g1 := vPE
  have g2 := tPE
  have g3 := kPE
  have g4 := kTE
  have g5 := elE
  have g6 := imE
  have m1 := mKind
  have m2 := mElem
  have m3 := mImpl
  have m4 := mAssign
  have m5 := mUnwrap
  have t1 := tyC
  have t2 := asCE
  have t3 := tyE
  have t4 := asEE
  have t5 := vTE
  have t6 := noAsC
  have t7 := hasUC
  unfold chainV
  have hlt : tb < w.heap.size := lt_of_block ht
  have n8 := isNilE ⟨w.heap.size, 0, none⟩ ⟨tb, 0, none⟩ ((w.alloc (.cells #[.pointer (some ⟨tb, 0, none⟩)] 137)).alloc (.cells #[.pointer (some ⟨1, 137, none⟩), .pointer (some ⟨w.heap.size, 0, none⟩), .int .u64 150] 156)) (by simp)
  have hgl : 0 < w.heap.size := World.block_lt_of_cell? _ _ hg
  have hg2 : ((w.alloc (.cells #[.pointer (some ⟨tb, 0, none⟩)] 137)).alloc (.cells #[.pointer (some ⟨1, 137, none⟩), .pointer (some ⟨w.heap.size, 0, none⟩), .int .u64 150] 156)).cell? ⟨0, 0, none⟩ = some (.iface 186 (.agg #[.pointer (some ⟨1, 112, none⟩)])) := by
    rw [World.cell?_alloc_lt _ _ ⟨0, 0, none⟩ (by simp <;> omega), World.cell?_alloc_lt _ _ ⟨0, 0, none⟩ hgl]; exact hg
  have el := elemVE ⟨w.heap.size, 0, none⟩ ⟨tb, 0, none⟩ (((w.alloc (.cells #[.pointer (some ⟨tb, 0, none⟩)] 137)).alloc (.cells #[.pointer (some ⟨1, 137, none⟩), .pointer (some ⟨w.heap.size, 0, none⟩), .int .u64 150] 156)).alloc (.cells #[.pointer (some ⟨1, 137, none⟩), .pointer (some ⟨w.heap.size, 0, none⟩), .int .u64 150] 156)) (by rw [World.cell?_alloc_lt _ _ ⟨w.heap.size, 0, none⟩ (by simp; omega)]; simp)
  have st := setE ⟨tb, 0, none⟩ ⟨w.heap.size + 1 + 1 + 1, 0, none⟩ code old ((((w.alloc (.cells #[.pointer (some ⟨tb, 0, none⟩)] 137)).alloc (.cells #[.pointer (some ⟨1, 137, none⟩), .pointer (some ⟨w.heap.size, 0, none⟩), .int .u64 150] 156)).alloc (.cells #[.pointer (some ⟨1, 137, none⟩), .pointer (some ⟨w.heap.size, 0, none⟩), .int .u64 150] 156)).alloc (.cells #[.int .i64 code] 30))
    (by rw [World.cell?_alloc_at _ _ _ _ (by simp)]; rfl)
    (by rw [World.cell?_alloc_lt _ _ ⟨tb, 0, none⟩ (by simp; omega), World.cell?_alloc_lt _ _ ⟨tb, 0, none⟩ (by simp; omega), World.cell?_alloc_lt _ _ ⟨tb, 0, none⟩ (by simp; omega), World.cell?_alloc_lt _ _ ⟨tb, 0, none⟩ hlt]; rw [cell_of_row ht]; rfl)
    (by rw [World.frozen?_alloc_old _ _ ⟨tb, 0, none⟩ (by simp; omega), World.frozen?_alloc_old _ _ ⟨tb, 0, none⟩ (by simp; omega), World.frozen?_alloc_old _ _ ⟨tb, 0, none⟩ (by simp; omega), World.frozen?_alloc_old _ _ ⟨tb, 0, none⟩ (Nat.ne_of_lt hlt)]; exact free_of_row ht 0)
  have hcl : c < w.heap.size := lt_of_block hc
  have c2 : (((w.alloc (.cells #[.pointer (some ⟨tb, 0, none⟩)] 137)).alloc (.cells #[.pointer (some ⟨1, 137, none⟩), .pointer (some ⟨w.heap.size, 0, none⟩), .int .u64 150] 156)).alloc (.cells #[.pointer (some ⟨1, 137, none⟩), .pointer (some ⟨w.heap.size, 0, none⟩), .int .u64 150] 156)).cell? ⟨c, 2, none⟩ = some (.iface 30 (.int .i64 code)) := by
    rw [World.cell?_alloc_lt _ _ ⟨c, 2, none⟩ (by simp; omega), World.cell?_alloc_lt _ _ ⟨c, 2, none⟩ (by simp; omega), World.cell?_alloc_lt _ _ ⟨c, 2, none⟩ hcl]
    exact cell_of_row hc 2
  go_enter Tryz.func75, Tryz.ntmps75
  go_wp2
  refine wp_loop_rounds 2 ?_
  rw [rounds_succ]
  go_wp2
  rw [rounds_succ]
  go_wp2
  go_ret
  have hm : Mod (fun k => k = tb) w ((((w.alloc (.cells #[.pointer (some ⟨tb, 0, none⟩)] 137)).alloc (.cells #[.pointer (some ⟨1, 137, none⟩), .pointer (some ⟨w.heap.size, 0, none⟩), .int .u64 150] 156)).alloc (.cells #[.pointer (some ⟨1, 137, none⟩), .pointer (some ⟨w.heap.size, 0, none⟩), .int .u64 150] 156)).alloc (.cells #[.int .i64 code] 30)) := ((((Mod.refl _ w).alloc _).alloc _).alloc _).alloc _
  have hb : ((((w.alloc (.cells #[.pointer (some ⟨tb, 0, none⟩)] 137)).alloc (.cells #[.pointer (some ⟨1, 137, none⟩), .pointer (some ⟨w.heap.size, 0, none⟩), .int .u64 150] 156)).alloc (.cells #[.pointer (some ⟨1, 137, none⟩), .pointer (some ⟨w.heap.size, 0, none⟩), .int .u64 150] 156)).alloc (.cells #[.int .i64 code] 30)).heap[tb]? = some (.cells #[old] 30 (0, 0)) := heap_alloc_old (heap_alloc_old (heap_alloc_old (heap_alloc_old ht)))
  refine ⟨rfl, hm.setCell (p := ⟨tb, 0, none⟩) (fun _ => rfl) _, ?_⟩
  simpa using row_setCell hb 0 (.int .i64 code)
set_option maxRecDepth 100000 in
set_option maxHeartbeats 4000000 in
theorem asC_miss (code : Int) (tb : Nat) (old : Value) (w : World) (hg : ErrT w) (ht : w.heap[tb]? = some (.cells #[old] 140 (0, 0))) :
    Calls Tryz.prog 75 #[.iface 30 (.int .i64 code), .iface 166 (.pointer (some ⟨tb, 0, none⟩))] w fun e w' => e = .returned (.bool false) ∧ Mod (fun _ => False) w w' := by
  have x1 := @run_callFunc_extern Tryz.prog 89 _ (fun args => ReflectliteValue.unpack (args.getD 0 (.tuple #[]))) Tryz.func89 (by kernel_rfl) (by kernel_rfl) (by kernel_rfl) (by kernel_rfl)
  have x2 := @run_callFunc_extern Tryz.prog 90 _ (ReflectliteValue.methodAny (ReflectliteValue.valueError "reflectlite.Value.Type" 0) (fun t _ _ _ => ReflectliteType.toType t)) Tryz.func90 (by kernel_rfl) (by kernel_rfl) (by kernel_rfl) (by kernel_rfl)
  have x3 := @run_callFunc_extern Tryz.prog 91 _ (ReflectliteValue.method (ReflectliteValue.valueError "reflectlite.Value.IsNil" 0) ReflectliteValue.isNil) Tryz.func91 (by kernel_rfl) (by kernel_rfl) (by kernel_rfl) (by kernel_rfl)
  have x4 := @run_callFunc_extern Tryz.prog 142 _ (ReflectliteType.abiMethod fun t => do pure (.int .u8 (← Rtype.kind t))) Tryz.func142 (by kernel_rfl) (by kernel_rfl) (by kernel_rfl) (by kernel_rfl)
  have x5 := @run_callFunc_extern Tryz.prog 154 _ (ReflectliteType.method ReflectliteType.elem) Tryz.func154 (by kernel_rfl) (by kernel_rfl) (by kernel_rfl) (by kernel_rfl)
  have x6 := @run_callFunc_extern Tryz.prog 155 _ (ReflectliteType.relation "Implements" ReflectliteType.implements_) Tryz.func155 (by kernel_rfl) (by kernel_rfl) (by kernel_rfl) (by kernel_rfl)
  have x7 := @run_callFunc_extern Tryz.prog 115 _ ReflectliteType.typeOf Tryz.func115 (by kernel_rfl) (by kernel_rfl) (by kernel_rfl) (by kernel_rfl)
  have x8 := @run_callFunc_extern Tryz.prog 152 _ (ReflectliteType.relation "AssignableTo" ReflectliteType.assignableTo) Tryz.func152 (by kernel_rfl) (by kernel_rfl) (by kernel_rfl) (by kernel_rfl)
  have x9 := @run_callFunc_extern Tryz.prog 116 _ (ReflectliteValue.method (ReflectliteValue.valueError "reflectlite.Value.Elem" 0) ReflectliteValue.elem) Tryz.func116 (by kernel_rfl) (by kernel_rfl) (by kernel_rfl) (by kernel_rfl)
  have xa := @run_callFunc_extern Tryz.prog 117 _ ReflectliteValue.set Tryz.func117 (by kernel_rfl) (by kernel_rfl) (by kernel_rfl) (by kernel_rfl)
  have g1 := vPC
  have g2 := tPC
  have g3 := kPC
  have g4 := kTC
  have g5 := elC
  have g6 := imC
  have m1 := mKind
  have m2 := mElem
  have m3 := mImpl
  have m4 := mAssign
  have m5 := mUnwrap
  have t3 := tyE
  have t4 := asEC
  have t6 := noAsE
  have t7 := noUE
  have t8 := noUsE
  have hlt : tb < w.heap.size := lt_of_block ht
  have n8 := isNilC ⟨w.heap.size, 0, none⟩ ⟨tb, 0, none⟩ ((w.alloc (.cells #[.pointer (some ⟨tb, 0, none⟩)] 166)).alloc (.cells #[.pointer (some ⟨1, 166, none⟩), .pointer (some ⟨w.heap.size, 0, none⟩), .int .u64 150] 156)) (by simp)
  have hgl : 0 < w.heap.size := World.block_lt_of_cell? _ _ hg
  have hg2 : ((w.alloc (.cells #[.pointer (some ⟨tb, 0, none⟩)] 166)).alloc (.cells #[.pointer (some ⟨1, 166, none⟩), .pointer (some ⟨w.heap.size, 0, none⟩), .int .u64 150] 156)).cell? ⟨0, 0, none⟩ = some (.iface 186 (.agg #[.pointer (some ⟨1, 112, none⟩)])) := by
    rw [World.cell?_alloc_lt _ _ ⟨0, 0, none⟩ (by simp <;> omega), World.cell?_alloc_lt _ _ ⟨0, 0, none⟩ hgl]; exact hg
  go_enter Tryz.func75, Tryz.ntmps75
  go_wp2
  refine wp_loop_rounds 1 ?_
  rw [rounds_succ]
  go_wp2
  go_ret
  exact ⟨rfl, (((Mod.refl _ w).alloc _).alloc _).alloc _⟩
end Go.Proofs.YtbgjbikpenefoaaGreatDoor
