import Derived.Test.YtlpdifinkcjckaaGreatDoorMFw01
import Derived.LaidEql
import Derived.Stop.Asserts
import Derived.RowKitTokens
set_option linter.unusedVariables false
set_option linter.unusedSimpArgs false
namespace Go.Proofs.YtlpdifinkcjckaaGreatDoor
open Go.RowKit Go.Extern.Stop Go.Stop Go.Extern
def chainV (c : Nat) : Value := .iface 162 (.pointer (some ⟨c, 0, none⟩))
def chainO (code pos : Int) (v : Nat) : Obj := .cells #[.int .i64 pos, .int .u32 (v : Int), .iface 30 (.int .i64 code)] 164
def ErrT (w : World) : Prop := w.cell? ⟨0, 0, none⟩ = some (.iface 216 (.agg #[.pointer (some ⟨1, 130, none⟩)]))
theorem ErrT.keep {S : Nat → Prop} {w w' : World} (h : ErrT w) (m : Mod S w w') (hs : ¬ S 0) : ErrT w' :=
 (World.cell?_of_block (w := w) (m.block 0 (World.block_lt_of_cell? _ _ h) hs)).trans h
theorem newE_any (code pos : Int) (v : Nat) (w : World) (h : (code == 0) = false) : Calls Tryz.prog 100 #[.int .i64 code, .int .i64 pos, .int .u32 (v : Int)] w fun e w' => e = .returned (chainV w.heap.size) ∧ w' = w.alloc (chainO code pos v) := by
 unfold chainV chainO
 go_enter Tryz.func100, Tryz.ntmps100
 go_wp2
 go_ret
 exact ⟨rfl, rfl⟩
theorem refusal_any (code pos : Int) (v : Nat) (w : World) (h : (code == 0) = false) : Calls Tryz.prog 83 #[.int .i64 code, .int .i64 pos, .int .u32 (v : Int)] w fun e w' => e = .returned (chainV w.heap.size) ∧ w' = w.alloc (chainO code pos v) := by
 have HN := Lib.hid (newE_any code pos v w h)
 clear h
 unfold chainV chainO at *
 go_enter Tryz.func83, Tryz.ntmps83
 go_wp2_with (go_at_call 100; refine HN.out.mono ?_; (rintro e w' ⟨rfl, rfl⟩))
 go_ret
 exact ⟨rfl, rfl⟩
theorem rlm (z : Sem Value) (f : TypeId → Addr → Nat → Nat → Sem Value) (v : Value) :
   ReflectliteValue.method z f #[v] = (do match ← ReflectliteValue.parts v with | none => z | some (t, a, fl) => f t a fl (fl % 32)) := rfl
theorem rls (v x : Value) : ReflectliteValue.set #[v, x] = (do
   let (some (dst, a, fl), some (src, b, _)) := (← ReflectliteValue.parts v, ← ReflectliteValue.parts x)
     | unsupported (.noEntry "extern/(internal/reflectlite.Value).Set.zeroValue")
   if fl / ReflectliteValue.flagAddr % 2 == 0 then unsupported (.noEntry "extern/(internal/reflectlite.Value).Set.unaddressable")
   let val ← loadVar src b
   if ← Rtype.directlyAssignable dst src then storeVar dst a val
   else if ← Rtype.implements dst src then
     if (← Rtype.kind src) == 20 then
       match val with
       | .nilIface => unsupported (.noEntry "extern/reflectlite: a nil value of one interface type handed on as a value of another")
       | _ => storeVar dst a val
     else storeVar dst a (.iface src val)
   else panicString ("reflectlite.Set: value of type " ++ (← Rtype.spelt src) ++ " is not assignable to type " ++ (← Rtype.spelt dst))
   pure (.tuple #[])) := rfl
theorem vPE (t : Addr) (w : World) : (ReflectliteValue.unpack (.iface 159 (.pointer (some t)))).run Tryz.prog w = .ok (.agg #[.pointer (some ⟨1, 159, none⟩), .pointer (some ⟨w.heap.size, 0, none⟩), .int .u64 150]) (w.alloc (.cells #[.pointer (some t)] 159)) := by kernel_rfl
theorem tPE (a : Addr) (w : World) : (ReflectliteValue.methodAny (ReflectliteValue.valueError "reflectlite.Value.Type" 0) (fun t _ _ _ => ReflectliteType.toType t) #[.agg #[.pointer (some ⟨1, 159, none⟩), .pointer (some a), .int .u64 150]]).run Tryz.prog w = .ok (.iface 216 (.agg #[.pointer (some ⟨1, 159, none⟩)])) w := by kernel_rfl
theorem kPE (w : World) : ((ReflectliteType.abiMethod fun t => Functor.map (fun a : Nat => Value.int IntKind.u8 (a : Int)) (Rtype.kind t)) #[.pointer (some ⟨1, 159, none⟩)]).run Tryz.prog w = .ok (.int .u8 22) w := by kernel_rfl
theorem kTE (w : World) : ((ReflectliteType.abiMethod fun t => Functor.map (fun a : Nat => Value.int IntKind.u8 (a : Int)) (Rtype.kind t)) #[.pointer (some ⟨1, 30, none⟩)]).run Tryz.prog w = .ok (.int .u8 2) w := by kernel_rfl
theorem partsE (a : Addr) (w : World) : (ReflectliteValue.parts (.agg #[.pointer (some ⟨1, 159, none⟩), .pointer (some a), .int .u64 150])).run Tryz.prog w = .ok (some (159, a, 150)) w := by kernel_rfl
theorem isNilE (a p : Addr) (W : World) (ha : W.cell? a = some (.pointer (some p))) :
   (ReflectliteValue.method (ReflectliteValue.valueError "reflectlite.Value.IsNil" 0) ReflectliteValue.isNil #[.agg #[.pointer (some ⟨1, 159, none⟩), .pointer (some a), .int .u64 150]]).run Tryz.prog W = .ok (.bool false) W := by
 rw [rlm]
 simp only [Sem.run_bind, partsE, Result.andThen]
 simp [ReflectliteValue.isNil, loadVar, isAgg, underlying, Tryz.underlying159, ha, Result.andThen]
theorem elE (w : World) : (ReflectliteType.method ReflectliteType.elem #[.agg #[.pointer (some ⟨1, 159, none⟩)]]).run Tryz.prog w = .ok (.iface 216 (.agg #[.pointer (some ⟨1, 30, none⟩)])) w := by kernel_rfl
theorem imE (w : World) : (ReflectliteType.relation "Implements" ReflectliteType.implements_ #[.agg #[.pointer (some ⟨1, 30, none⟩)], .iface 216 (.agg #[.pointer (some ⟨1, 130, none⟩)])]).run Tryz.prog w = .ok (.bool true) w := by kernel_rfl
theorem elemOfE (w : World) : (Rtype.elem? 159).run Tryz.prog w = .ok (some 30) w := by kernel_rfl
theorem mkE (p : Addr) (w : World) : (ReflectliteValue.mk 30 p ReflectliteValue.flagAddr).run Tryz.prog w = .ok (.agg #[.pointer (some ⟨1, 30, none⟩), .pointer (some p), .int .u64 386]) w := by kernel_rfl
theorem elemVE (a p : Addr) (W : World) (ha : W.cell? a = some (.pointer (some p))) :
   (ReflectliteValue.method (ReflectliteValue.valueError "reflectlite.Value.Elem" 0) ReflectliteValue.elem #[.agg #[.pointer (some ⟨1, 159, none⟩), .pointer (some a), .int .u64 150]]).run Tryz.prog W = .ok (.agg #[.pointer (some ⟨1, 30, none⟩), .pointer (some p), .int .u64 386]) W := by
 rw [rlm]
 simp only [Sem.run_bind, partsE, Result.andThen]
 simp [ReflectliteValue.elem, loadVar, isAgg, underlying, Tryz.underlying159, ha, Result.andThen, elemOfE, mkE]
theorem vTE (c : Int) (w : World) : (ReflectliteValue.unpack (.iface 30 (.int .i64 c))).run Tryz.prog w = .ok (.agg #[.pointer (some ⟨1, 30, none⟩), .pointer (some ⟨w.heap.size, 0, none⟩), .int .u64 130]) (w.alloc (.cells #[.int .i64 c] 30)) := by kernel_rfl
theorem partsAE (a : Addr) (w : World) : (ReflectliteValue.parts (.agg #[.pointer (some ⟨1, 30, none⟩), .pointer (some a), .int .u64 386])).run Tryz.prog w = .ok (some (30, a, 386)) w := by kernel_rfl
theorem partsVE (a : Addr) (w : World) : (ReflectliteValue.parts (.agg #[.pointer (some ⟨1, 30, none⟩), .pointer (some a), .int .u64 130])).run Tryz.prog w = .ok (some (30, a, 130)) w := by kernel_rfl
theorem directE (w : World) : (Rtype.directlyAssignable 30 30).run Tryz.prog w = .ok true w := by kernel_rfl
theorem setE (ta b : Addr) (c : Int) (old : Value) (W : World) (hb : W.cell? b = some (.int .i64 c)) (ht : W.cell? ta = some old) (hf : W.frozen? ta = false) :
   (ReflectliteValue.set #[.agg #[.pointer (some ⟨1, 30, none⟩), .pointer (some ta), .int .u64 386], .agg #[.pointer (some ⟨1, 30, none⟩), .pointer (some b), .int .u64 130]]).run Tryz.prog W = .ok (.tuple #[]) (W.setCell ta (.int .i64 c)) := by
 rw [rls]
 simp only [Sem.run_bind, partsAE, partsVE, Result.andThen]
 simp [ReflectliteValue.flagAddr, loadVar, isAgg, underlying, Tryz.underlying30, hb, Result.andThen, directE, storeVar, Value.cells, storeCells, Addr.add]
 rw [run_store Tryz.prog W ta _ _ (by rfl)]
 simp [ht, hf]
theorem tyE (v : Value) (w : World) : (ReflectliteType.typeOf #[.iface 30 v]).run Tryz.prog w = .ok (.iface 216 (.agg #[.pointer (some ⟨1, 30, none⟩)])) w := by kernel_rfl
theorem asEE (w : World) : (ReflectliteType.relation "AssignableTo" ReflectliteType.assignableTo #[.agg #[.pointer (some ⟨1, 30, none⟩)], .iface 216 (.agg #[.pointer (some ⟨1, 30, none⟩)])]).run Tryz.prog w = .ok (.bool true) w := by kernel_rfl
theorem vPC (t : Addr) (w : World) : (ReflectliteValue.unpack (.iface 193 (.pointer (some t)))).run Tryz.prog w = .ok (.agg #[.pointer (some ⟨1, 193, none⟩), .pointer (some ⟨w.heap.size, 0, none⟩), .int .u64 150]) (w.alloc (.cells #[.pointer (some t)] 193)) := by kernel_rfl
theorem tPC (a : Addr) (w : World) : (ReflectliteValue.methodAny (ReflectliteValue.valueError "reflectlite.Value.Type" 0) (fun t _ _ _ => ReflectliteType.toType t) #[.agg #[.pointer (some ⟨1, 193, none⟩), .pointer (some a), .int .u64 150]]).run Tryz.prog w = .ok (.iface 216 (.agg #[.pointer (some ⟨1, 193, none⟩)])) w := by kernel_rfl
theorem kPC (w : World) : ((ReflectliteType.abiMethod fun t => Functor.map (fun a : Nat => Value.int IntKind.u8 (a : Int)) (Rtype.kind t)) #[.pointer (some ⟨1, 193, none⟩)]).run Tryz.prog w = .ok (.int .u8 22) w := by kernel_rfl
theorem kTC (w : World) : ((ReflectliteType.abiMethod fun t => Functor.map (fun a : Nat => Value.int IntKind.u8 (a : Int)) (Rtype.kind t)) #[.pointer (some ⟨1, 162, none⟩)]).run Tryz.prog w = .ok (.int .u8 22) w := by kernel_rfl
theorem partsC (a : Addr) (w : World) : (ReflectliteValue.parts (.agg #[.pointer (some ⟨1, 193, none⟩), .pointer (some a), .int .u64 150])).run Tryz.prog w = .ok (some (193, a, 150)) w := by kernel_rfl
theorem isNilC (a p : Addr) (W : World) (ha : W.cell? a = some (.pointer (some p))) :
   (ReflectliteValue.method (ReflectliteValue.valueError "reflectlite.Value.IsNil" 0) ReflectliteValue.isNil #[.agg #[.pointer (some ⟨1, 193, none⟩), .pointer (some a), .int .u64 150]]).run Tryz.prog W = .ok (.bool false) W := by
 rw [rlm]
 simp only [Sem.run_bind, partsC, Result.andThen]
 simp [ReflectliteValue.isNil, loadVar, isAgg, underlying, Tryz.underlying193, ha, Result.andThen]
theorem elC (w : World) : (ReflectliteType.method ReflectliteType.elem #[.agg #[.pointer (some ⟨1, 193, none⟩)]]).run Tryz.prog w = .ok (.iface 216 (.agg #[.pointer (some ⟨1, 162, none⟩)])) w := by kernel_rfl
theorem imC (w : World) : (ReflectliteType.relation "Implements" ReflectliteType.implements_ #[.agg #[.pointer (some ⟨1, 162, none⟩)], .iface 216 (.agg #[.pointer (some ⟨1, 130, none⟩)])]).run Tryz.prog w = .ok (.bool true) w := by kernel_rfl
theorem elemOfC (w : World) : (Rtype.elem? 193).run Tryz.prog w = .ok (some 162) w := by kernel_rfl
theorem mkC (p : Addr) (w : World) : (ReflectliteValue.mk 162 p ReflectliteValue.flagAddr).run Tryz.prog w = .ok (.agg #[.pointer (some ⟨1, 162, none⟩), .pointer (some p), .int .u64 406]) w := by kernel_rfl
theorem elemVC (a p : Addr) (W : World) (ha : W.cell? a = some (.pointer (some p))) :
   (ReflectliteValue.method (ReflectliteValue.valueError "reflectlite.Value.Elem" 0) ReflectliteValue.elem #[.agg #[.pointer (some ⟨1, 193, none⟩), .pointer (some a), .int .u64 150]]).run Tryz.prog W = .ok (.agg #[.pointer (some ⟨1, 162, none⟩), .pointer (some p), .int .u64 406]) W := by
 rw [rlm]
 simp only [Sem.run_bind, partsC, Result.andThen]
 simp [ReflectliteValue.elem, loadVar, isAgg, underlying, Tryz.underlying193, ha, Result.andThen, elemOfC, mkC]
theorem vTC (c : Addr) (w : World) : (ReflectliteValue.unpack (.iface 162 (.pointer (some c)))).run Tryz.prog w = .ok (.agg #[.pointer (some ⟨1, 162, none⟩), .pointer (some ⟨w.heap.size, 0, none⟩), .int .u64 150]) (w.alloc (.cells #[.pointer (some c)] 162)) := by kernel_rfl
theorem partsAC (a : Addr) (w : World) : (ReflectliteValue.parts (.agg #[.pointer (some ⟨1, 162, none⟩), .pointer (some a), .int .u64 406])).run Tryz.prog w = .ok (some (162, a, 406)) w := by kernel_rfl
theorem partsVC (a : Addr) (w : World) : (ReflectliteValue.parts (.agg #[.pointer (some ⟨1, 162, none⟩), .pointer (some a), .int .u64 150])).run Tryz.prog w = .ok (some (162, a, 150)) w := by kernel_rfl
theorem directC (w : World) : (Rtype.directlyAssignable 162 162).run Tryz.prog w = .ok true w := by kernel_rfl
theorem setC (ta b : Addr) (c : Addr) (old : Value) (W : World) (hb : W.cell? b = some (.pointer (some c))) (ht : W.cell? ta = some old) (hf : W.frozen? ta = false) :
   (ReflectliteValue.set #[.agg #[.pointer (some ⟨1, 162, none⟩), .pointer (some ta), .int .u64 406], .agg #[.pointer (some ⟨1, 162, none⟩), .pointer (some b), .int .u64 150]]).run Tryz.prog W = .ok (.tuple #[]) (W.setCell ta (.pointer (some c))) := by
 rw [rls]
 simp only [Sem.run_bind, partsAC, partsVC, Result.andThen]
 simp [ReflectliteValue.flagAddr, loadVar, isAgg, underlying, Tryz.underlying162, hb, Result.andThen, directC, storeVar, Value.cells, storeCells, Addr.add]
 rw [run_store Tryz.prog W ta _ _ (by rfl)]
 simp [ht, hf]
theorem tyC (v : Value) (w : World) : (ReflectliteType.typeOf #[.iface 162 v]).run Tryz.prog w = .ok (.iface 216 (.agg #[.pointer (some ⟨1, 162, none⟩)])) w := by kernel_rfl
theorem asCC (w : World) : (ReflectliteType.relation "AssignableTo" ReflectliteType.assignableTo #[.agg #[.pointer (some ⟨1, 162, none⟩)], .iface 216 (.agg #[.pointer (some ⟨1, 162, none⟩)])]).run Tryz.prog w = .ok (.bool true) w := by kernel_rfl
theorem asCE (w : World) : (ReflectliteType.relation "AssignableTo" ReflectliteType.assignableTo #[.agg #[.pointer (some ⟨1, 162, none⟩)], .iface 216 (.agg #[.pointer (some ⟨1, 30, none⟩)])]).run Tryz.prog w = .ok (.bool false) w := by kernel_rfl
theorem asEC (w : World) : (ReflectliteType.relation "AssignableTo" ReflectliteType.assignableTo #[.agg #[.pointer (some ⟨1, 30, none⟩)], .iface 216 (.agg #[.pointer (some ⟨1, 162, none⟩)])]).run Tryz.prog w = .ok (.bool false) w := by kernel_rfl
theorem noAsE (v : Value) (xT : TypeId) (w : World) : (Instr.typeAssert (.iface 30 v) xT 221 true).run Tryz.prog w = .ok (.tuple #[.nilIface, .bool false]) w := run_typeAssert_lacksB Tryz.underlying221 (by kernel_rfl) (by kernel_rfl) v xT w
theorem noUsE (v : Value) (xT : TypeId) (w : World) : (Instr.typeAssert (.iface 30 v) xT 226 true).run Tryz.prog w = .ok (.tuple #[.nilIface, .bool false]) w := run_typeAssert_lacksB Tryz.underlying226 (by kernel_rfl) (by kernel_rfl) v xT w
theorem noAsC (v : Value) (xT : TypeId) (w : World) : (Instr.typeAssert (.iface 162 v) xT 221 true).run Tryz.prog w = .ok (.tuple #[.nilIface, .bool false]) w := run_typeAssert_lacksB Tryz.underlying221 (by kernel_rfl) (by kernel_rfl) v xT w
theorem noUsC (v : Value) (xT : TypeId) (w : World) : (Instr.typeAssert (.iface 162 v) xT 226 true).run Tryz.prog w = .ok (.tuple #[.nilIface, .bool false]) w := run_typeAssert_lacksB Tryz.underlying226 (by kernel_rfl) (by kernel_rfl) v xT w
theorem noUE (v : Value) (xT : TypeId) (w : World) : (Instr.typeAssert (.iface 30 v) xT 224 true).run Tryz.prog w = .ok (.tuple #[.nilIface, .bool false]) w := run_typeAssert_lacksB Tryz.underlying224 (by kernel_rfl) (by kernel_rfl) v xT w
theorem hasUC (v : Value) (xT : TypeId) (w : World) : (Instr.typeAssert (.iface 162 v) xT 224 true).run Tryz.prog w = .ok (.tuple #[.iface 162 v, .bool true]) w := run_typeAssert_hasB Tryz.underlying224 (by kernel_rfl) v xT w
end Go.Proofs.YtlpdifinkcjckaaGreatDoor
