/- Y5: what is needed of it (by shake.py). -/
import Derived.Test.YtbgjbikpenefoaaGreatDoorVA
import Derived.WalkKit
import Derived.LaidEql
import Derived.Stop.Asserts
import Derived.RowKitTokens

/- Y5, as far as the seat goes. -/
/- fault: an error with its place; errors.As at its two targets; its code, its links. (Printed by gen_fault.py; the facts on reflectlite after the kit's worked example of errors.As.) -/
namespace Go.Proofs.YtbgjbikpenefoaaGreatDoor
set_option linter.unusedVariables false
set_option linter.unusedSimpArgs false
open Go.RowKit Go.Extern.Stop Go.Stop Go.Extern
/-- An error as it is handed on. -/
def chainV (c : Nat) : Value := .iface 140 (.pointer (some ⟨c, 0, none⟩))
def chainO (code pos : Int) (v : Nat) : Obj := .cells #[.int .i64 pos, .int .u32 (v : Int), .iface 30 (.int .i64 code)] 142
/-- What the library's variable holds. -/
def ErrT (w : World) : Prop := w.cell? ⟨0, 0, none⟩ = some (.iface 186 (.agg #[.pointer (some ⟨1, 112, none⟩)]))
theorem ErrT.keep {S : Nat → Prop} {w w' : World} (h : ErrT w) (m : Mod S w w') (hs : ¬ S 0) : ErrT w' :=
  (World.cell?_of_block (w := w) (m.block 0 (World.block_lt_of_cell? _ _ h) hs)).trans h
theorem newE_any (code pos : Int) (v : Nat) (w : World) (h : (code == 0) = false) : Calls Tryz.prog 88 #[.int .i64 code, .int .i64 pos, .int .u32 (v : Int)] w fun e w' => e = .returned (chainV w.heap.size) ∧ w' = w.alloc (chainO code pos v) := by
  unfold chainV chainO
  go_enter Tryz.func88, Tryz.ntmps88
  go_wp2
  go_ret
  exact ⟨rfl, rfl⟩
theorem refusal_any (code pos : Int) (v : Nat) (w : World) (h : (code == 0) = false) : Calls Tryz.prog 74 #[.int .i64 code, .int .i64 pos, .int .u32 (v : Int)] w fun e w' => e = .returned (chainV w.heap.size) ∧ w' = w.alloc (chainO code pos v) := by
  have HN := Lib.hid (newE_any code pos v w h)
  clear h
  unfold chainV chainO at *
  go_enter Tryz.func74, Tryz.ntmps74
  go_wp2_with (go_at_call 88; refine HN.out.mono ?_; (rintro e w' ⟨rfl, rfl⟩))
  go_ret
  exact ⟨rfl, rfl⟩
theorem rlm (z : Sem Value) (f : TypeId → Addr → Nat → Nat → Sem Value) (v : Value) :
    ReflectliteValue.method z f #[v] = (do match ← ReflectliteValue.parts v with | none => z | some (t, a, fl) => f t a fl (fl % 32)) := rfl
theorem rls (v x : Value) : ReflectliteValue.set #[v, x] = (do
    let (some (dst, a, fl), some (src, b, _)) := (← ReflectliteValue.parts v, ← ReflectliteValue.parts x)
      | unsupported (.noEntry "extern/(internal/reflectlite.Value).Set.zeroValue")
    if fl / ReflectliteValue.flagAddr % 2 == 0 then unsupported (.noEntry "extern/(internal/reflectlite.Value).Set.unaddressable")
    let val ← loadVar src b
    if ← Rtype.directlyAssignable dst src then storeVar dst a val
    else if ← Rtype.implements dst src then
      if (← Rtype.kind src) == 20 then
        match val with
        | .nilIface => unsupported (.noEntry "extern/reflectlite: a nil value of one interface type handed on as a value of another")
        | _ => storeVar dst a val
      else storeVar dst a (.iface src val)
    else panicString ("reflectlite.Set: value of type " ++ (← Rtype.spelt src) ++ " is not assignable to type " ++ (← Rtype.spelt dst))
    pure (.tuple #[])) := rfl
/-! target 137 -/
theorem vPE (t : Addr) (w : World) : (ReflectliteValue.unpack (.iface 137 (.pointer (some t)))).run Tryz.prog w = .ok (.agg #[.pointer (some ⟨1, 137, none⟩), .pointer (some ⟨w.heap.size, 0, none⟩), .int .u64 150]) (w.alloc (.cells #[.pointer (some t)] 137)) := by kernel_rfl
theorem tPE (a : Addr) (w : World) : (ReflectliteValue.methodAny (ReflectliteValue.valueError "reflectlite.Value.Type" 0) (fun t _ _ _ => ReflectliteType.toType t) #[.agg #[.pointer (some ⟨1, 137, none⟩), .pointer (some a), .int .u64 150]]).run Tryz.prog w = .ok (.iface 186 (.agg #[.pointer (some ⟨1, 137, none⟩)])) w := by kernel_rfl
theorem kPE (w : World) : ((ReflectliteType.abiMethod fun t => Functor.map (fun a : Nat => Value.int IntKind.u8 (a : Int)) (Rtype.kind t)) #[.pointer (some ⟨1, 137, none⟩)]).run Tryz.prog w = .ok (.int .u8 22) w := by kernel_rfl
theorem kTE (w : World) : ((ReflectliteType.abiMethod fun t => Functor.map (fun a : Nat => Value.int IntKind.u8 (a : Int)) (Rtype.kind t)) #[.pointer (some ⟨1, 30, none⟩)]).run Tryz.prog w = .ok (.int .u8 2) w := by kernel_rfl
theorem partsE (a : Addr) (w : World) : (ReflectliteValue.parts (.agg #[.pointer (some ⟨1, 137, none⟩), .pointer (some a), .int .u64 150])).run Tryz.prog w = .ok (some (137, a, 150)) w := by kernel_rfl
theorem isNilE (a p : Addr) (W : World) (ha : W.cell? a = some (.pointer (some p))) :
    (ReflectliteValue.method (ReflectliteValue.valueError "reflectlite.Value.IsNil" 0) ReflectliteValue.isNil #[.agg #[.pointer (some ⟨1, 137, none⟩), .pointer (some a), .int .u64 150]]).run Tryz.prog W = .ok (.bool false) W := by
  rw [rlm]
  simp only [Sem.run_bind, partsE, Result.andThen]
  simp [ReflectliteValue.isNil, loadVar, isAgg, underlying, Tryz.underlying137, ha, Result.andThen]
theorem elE (w : World) : (ReflectliteType.method ReflectliteType.elem #[.agg #[.pointer (some ⟨1, 137, none⟩)]]).run Tryz.prog w = .ok (.iface 186 (.agg #[.pointer (some ⟨1, 30, none⟩)])) w := by kernel_rfl
theorem imE (w : World) : (ReflectliteType.relation "Implements" ReflectliteType.implements_ #[.agg #[.pointer (some ⟨1, 30, none⟩)], .iface 186 (.agg #[.pointer (some ⟨1, 112, none⟩)])]).run Tryz.prog w = .ok (.bool true) w := by kernel_rfl
theorem elemOfE (w : World) : (Rtype.elem? 137).run Tryz.prog w = .ok (some 30) w := by kernel_rfl
theorem mkE (p : Addr) (w : World) : (ReflectliteValue.mk 30 p ReflectliteValue.flagAddr).run Tryz.prog w = .ok (.agg #[.pointer (some ⟨1, 30, none⟩), .pointer (some p), .int .u64 386]) w := by kernel_rfl
theorem elemVE (a p : Addr) (W : World) (ha : W.cell? a = some (.pointer (some p))) :
    (ReflectliteValue.method (ReflectliteValue.valueError "reflectlite.Value.Elem" 0) ReflectliteValue.elem #[.agg #[.pointer (some ⟨1, 137, none⟩), .pointer (some a), .int .u64 150]]).run Tryz.prog W = .ok (.agg #[.pointer (some ⟨1, 30, none⟩), .pointer (some p), .int .u64 386]) W := by
  rw [rlm]
  simp only [Sem.run_bind, partsE, Result.andThen]
  simp [ReflectliteValue.elem, loadVar, isAgg, underlying, Tryz.underlying137, ha, Result.andThen, elemOfE, mkE]
theorem vTE (c : Int) (w : World) : (ReflectliteValue.unpack (.iface 30 (.int .i64 c))).run Tryz.prog w = .ok (.agg #[.pointer (some ⟨1, 30, none⟩), .pointer (some ⟨w.heap.size, 0, none⟩), .int .u64 130]) (w.alloc (.cells #[.int .i64 c] 30)) := by kernel_rfl
theorem partsAE (a : Addr) (w : World) : (ReflectliteValue.parts (.agg #[.pointer (some ⟨1, 30, none⟩), .pointer (some a), .int .u64 386])).run Tryz.prog w = .ok (some (30, a, 386)) w := by kernel_rfl
theorem partsVE (a : Addr) (w : World) : (ReflectliteValue.parts (.agg #[.pointer (some ⟨1, 30, none⟩), .pointer (some a), .int .u64 130])).run Tryz.prog w = .ok (some (30, a, 130)) w := by kernel_rfl
theorem directE (w : World) : (Rtype.directlyAssignable 30 30).run Tryz.prog w = .ok true w := by kernel_rfl
theorem setE (ta b : Addr) (c : Int) (old : Value) (W : World) (hb : W.cell? b = some (.int .i64 c)) (ht : W.cell? ta = some old) (hf : W.frozen? ta = false) :
    (ReflectliteValue.set #[.agg #[.pointer (some ⟨1, 30, none⟩), .pointer (some ta), .int .u64 386], .agg #[.pointer (some ⟨1, 30, none⟩), .pointer (some b), .int .u64 130]]).run Tryz.prog W = .ok (.tuple #[]) (W.setCell ta (.int .i64 c)) := by
  rw [rls]
  simp only [Sem.run_bind, partsAE, partsVE, Result.andThen]
  simp [ReflectliteValue.flagAddr, loadVar, isAgg, underlying, Tryz.underlying30, hb, Result.andThen, directE, storeVar, Value.cells, storeCells, Addr.add]
  rw [run_store Tryz.prog W ta _ _ (by rfl)]
  simp [ht, hf]
theorem tyE (v : Value) (w : World) : (ReflectliteType.typeOf #[.iface 30 v]).run Tryz.prog w = .ok (.iface 186 (.agg #[.pointer (some ⟨1, 30, none⟩)])) w := by kernel_rfl
theorem asEE (w : World) : (ReflectliteType.relation "AssignableTo" ReflectliteType.assignableTo #[.agg #[.pointer (some ⟨1, 30, none⟩)], .iface 186 (.agg #[.pointer (some ⟨1, 30, none⟩)])]).run Tryz.prog w = .ok (.bool true) w := by kernel_rfl
/-! target 166 -/
theorem vPC (t : Addr) (w : World) : (ReflectliteValue.unpack (.iface 166 (.pointer (some t)))).run Tryz.prog w = .ok (.agg #[.pointer (some ⟨1, 166, none⟩), .pointer (some ⟨w.heap.size, 0, none⟩), .int .u64 150]) (w.alloc (.cells #[.pointer (some t)] 166)) := by kernel_rfl
theorem tPC (a : Addr) (w : World) : (ReflectliteValue.methodAny (ReflectliteValue.valueError "reflectlite.Value.Type" 0) (fun t _ _ _ => ReflectliteType.toType t) #[.agg #[.pointer (some ⟨1, 166, none⟩), .pointer (some a), .int .u64 150]]).run Tryz.prog w = .ok (.iface 186 (.agg #[.pointer (some ⟨1, 166, none⟩)])) w := by kernel_rfl
theorem kPC (w : World) : ((ReflectliteType.abiMethod fun t => Functor.map (fun a : Nat => Value.int IntKind.u8 (a : Int)) (Rtype.kind t)) #[.pointer (some ⟨1, 166, none⟩)]).run Tryz.prog w = .ok (.int .u8 22) w := by kernel_rfl
theorem kTC (w : World) : ((ReflectliteType.abiMethod fun t => Functor.map (fun a : Nat => Value.int IntKind.u8 (a : Int)) (Rtype.kind t)) #[.pointer (some ⟨1, 140, none⟩)]).run Tryz.prog w = .ok (.int .u8 22) w := by kernel_rfl
theorem partsC (a : Addr) (w : World) : (ReflectliteValue.parts (.agg #[.pointer (some ⟨1, 166, none⟩), .pointer (some a), .int .u64 150])).run Tryz.prog w = .ok (some (166, a, 150)) w := by kernel_rfl
theorem isNilC (a p : Addr) (W : World) (ha : W.cell? a = some (.pointer (some p))) :
    (ReflectliteValue.method (ReflectliteValue.valueError "reflectlite.Value.IsNil" 0) ReflectliteValue.isNil #[.agg #[.pointer (some ⟨1, 166, none⟩), .pointer (some a), .int .u64 150]]).run Tryz.prog W = .ok (.bool false) W := by
  rw [rlm]
  simp only [Sem.run_bind, partsC, Result.andThen]
  simp [ReflectliteValue.isNil, loadVar, isAgg, underlying, Tryz.underlying166, ha, Result.andThen]
theorem elC (w : World) : (ReflectliteType.method ReflectliteType.elem #[.agg #[.pointer (some ⟨1, 166, none⟩)]]).run Tryz.prog w = .ok (.iface 186 (.agg #[.pointer (some ⟨1, 140, none⟩)])) w := by kernel_rfl
theorem imC (w : World) : (ReflectliteType.relation "Implements" ReflectliteType.implements_ #[.agg #[.pointer (some ⟨1, 140, none⟩)], .iface 186 (.agg #[.pointer (some ⟨1, 112, none⟩)])]).run Tryz.prog w = .ok (.bool true) w := by kernel_rfl
theorem elemOfC (w : World) : (Rtype.elem? 166).run Tryz.prog w = .ok (some 140) w := by kernel_rfl
theorem mkC (p : Addr) (w : World) : (ReflectliteValue.mk 140 p ReflectliteValue.flagAddr).run Tryz.prog w = .ok (.agg #[.pointer (some ⟨1, 140, none⟩), .pointer (some p), .int .u64 406]) w := by kernel_rfl
theorem elemVC (a p : Addr) (W : World) (ha : W.cell? a = some (.pointer (some p))) :
    (ReflectliteValue.method (ReflectliteValue.valueError "reflectlite.Value.Elem" 0) ReflectliteValue.elem #[.agg #[.pointer (some ⟨1, 166, none⟩), .pointer (some a), .int .u64 150]]).run Tryz.prog W = .ok (.agg #[.pointer (some ⟨1, 140, none⟩), .pointer (some p), .int .u64 406]) W := by
  rw [rlm]
  simp only [Sem.run_bind, partsC, Result.andThen]
  simp [ReflectliteValue.elem, loadVar, isAgg, underlying, Tryz.underlying166, ha, Result.andThen, elemOfC, mkC]
theorem vTC (c : Addr) (w : World) : (ReflectliteValue.unpack (.iface 140 (.pointer (some c)))).run Tryz.prog w = .ok (.agg #[.pointer (some ⟨1, 140, none⟩), .pointer (some ⟨w.heap.size, 0, none⟩), .int .u64 150]) (w.alloc (.cells #[.pointer (some c)] 140)) := by kernel_rfl
theorem partsAC (a : Addr) (w : World) : (ReflectliteValue.parts (.agg #[.pointer (some ⟨1, 140, none⟩), .pointer (some a), .int .u64 406])).run Tryz.prog w = .ok (some (140, a, 406)) w := by kernel_rfl
theorem partsVC (a : Addr) (w : World) : (ReflectliteValue.parts (.agg #[.pointer (some ⟨1, 140, none⟩), .pointer (some a), .int .u64 150])).run Tryz.prog w = .ok (some (140, a, 150)) w := by kernel_rfl
theorem directC (w : World) : (Rtype.directlyAssignable 140 140).run Tryz.prog w = .ok true w := by kernel_rfl
theorem setC (ta b : Addr) (c : Addr) (old : Value) (W : World) (hb : W.cell? b = some (.pointer (some c))) (ht : W.cell? ta = some old) (hf : W.frozen? ta = false) :
    (ReflectliteValue.set #[.agg #[.pointer (some ⟨1, 140, none⟩), .pointer (some ta), .int .u64 406], .agg #[.pointer (some ⟨1, 140, none⟩), .pointer (some b), .int .u64 150]]).run Tryz.prog W = .ok (.tuple #[]) (W.setCell ta (.pointer (some c))) := by
  rw [rls]
  simp only [Sem.run_bind, partsAC, partsVC, Result.andThen]
  simp [ReflectliteValue.flagAddr, loadVar, isAgg, underlying, Tryz.underlying140, hb, Result.andThen, directC, storeVar, Value.cells, storeCells, Addr.add]
  rw [run_store Tryz.prog W ta _ _ (by rfl)]
  simp [ht, hf]
theorem tyC (v : Value) (w : World) : (ReflectliteType.typeOf #[.iface 140 v]).run Tryz.prog w = .ok (.iface 186 (.agg #[.pointer (some ⟨1, 140, none⟩)])) w := by kernel_rfl
theorem asCC (w : World) : (ReflectliteType.relation "AssignableTo" ReflectliteType.assignableTo #[.agg #[.pointer (some ⟨1, 140, none⟩)], .iface 186 (.agg #[.pointer (some ⟨1, 140, none⟩)])]).run Tryz.prog w = .ok (.bool true) w := by kernel_rfl
theorem asCE (w : World) : (ReflectliteType.relation "AssignableTo" ReflectliteType.assignableTo #[.agg #[.pointer (some ⟨1, 140, none⟩)], .iface 186 (.agg #[.pointer (some ⟨1, 30, none⟩)])]).run Tryz.prog w = .ok (.bool false) w := by kernel_rfl
theorem asEC (w : World) : (ReflectliteType.relation "AssignableTo" ReflectliteType.assignableTo #[.agg #[.pointer (some ⟨1, 30, none⟩)], .iface 186 (.agg #[.pointer (some ⟨1, 140, none⟩)])]).run Tryz.prog w = .ok (.bool false) w := by kernel_rfl
theorem noAsE (v : Value) (xT : TypeId) (w : World) : (Instr.typeAssert (.iface 30 v) xT 191 true).run Tryz.prog w = .ok (.tuple #[.nilIface, .bool false]) w := run_typeAssert_lacksB Tryz.underlying191 (by kernel_rfl) (by kernel_rfl) v xT w
theorem noUsE (v : Value) (xT : TypeId) (w : World) : (Instr.typeAssert (.iface 30 v) xT 196 true).run Tryz.prog w = .ok (.tuple #[.nilIface, .bool false]) w := run_typeAssert_lacksB Tryz.underlying196 (by kernel_rfl) (by kernel_rfl) v xT w
theorem noAsC (v : Value) (xT : TypeId) (w : World) : (Instr.typeAssert (.iface 140 v) xT 191 true).run Tryz.prog w = .ok (.tuple #[.nilIface, .bool false]) w := run_typeAssert_lacksB Tryz.underlying191 (by kernel_rfl) (by kernel_rfl) v xT w
theorem noUsC (v : Value) (xT : TypeId) (w : World) : (Instr.typeAssert (.iface 140 v) xT 196 true).run Tryz.prog w = .ok (.tuple #[.nilIface, .bool false]) w := run_typeAssert_lacksB Tryz.underlying196 (by kernel_rfl) (by kernel_rfl) v xT w
theorem noUE (v : Value) (xT : TypeId) (w : World) : (Instr.typeAssert (.iface 30 v) xT 194 true).run Tryz.prog w = .ok (.tuple #[.nilIface, .bool false]) w := run_typeAssert_lacksB Tryz.underlying194 (by kernel_rfl) (by kernel_rfl) v xT w
theorem hasUC (v : Value) (xT : TypeId) (w : World) : (Instr.typeAssert (.iface 140 v) xT 194 true).run Tryz.prog w = .ok (.tuple #[.iface 140 v, .bool true]) w := run_typeAssert_hasB Tryz.underlying194 (by kernel_rfl) v xT w
end Go.Proofs.YtbgjbikpenefoaaGreatDoor
