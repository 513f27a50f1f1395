import Derived.Test.YtpigipgoopeeoaaGreatDoorMOn14
import Derived.LaidEql
import Derived.Stop.Asserts
import Derived.RowKitTokens
set_option linter.unusedVariables false
set_option linter.unusedSimpArgs false
namespace Go.Proofs.YtpigipgoopeeoaaGreatDoor
open Go.RowKit Go.Extern.Stop Go.Stop Go.Extern
def chainV (c : Nat) : Value := .iface 172 (.pointer (some ⟨c, 0, none⟩))
def chainO (code pos : Int) (v : Nat) : Obj := .cells #[.int .i64 pos, .int .u32 (v : Int), .iface 35 (.int .i64 code)] 174
def ErrT (w : World) : Prop := w.cell? ⟨0, 0, none⟩ = some (.iface 218 (.agg #[.pointer (some ⟨1, 151, none⟩)]))
theorem ErrT.keep {S : Nat → Prop} {w w' : World} (h : ErrT w) (m : Mod S w w') (hs : ¬ S 0) : ErrT w' :=
 (World.cell?_of_block (w := w) (m.block 0 (World.block_lt_of_cell? _ _ h) hs)).trans h
theorem newE_any (code pos : Int) (v : Nat) (w : World) (h : (code == 0) = false) : Calls Tryz.prog 99 #[.int .i64 code, .int .i64 pos, .int .u32 (v : Int)] w fun e w' => e = .returned (chainV w.heap.size) ∧ w' = w.alloc (chainO code pos v) := by
 unfold chainV chainO
 go_enter Tryz.func99, Tryz.ntmps99
 go_wp2
 go_ret
 exact ⟨rfl, rfl⟩
theorem refusal_any (code pos : Int) (v : Nat) (w : World) (h : (code == 0) = false) : Calls Tryz.prog 87 #[.int .i64 code, .int .i64 pos, .int .u32 (v : Int)] w fun e w' => e = .returned (chainV w.heap.size) ∧ w' = w.alloc (chainO code pos v) := by
 have HN := Lib.hid (newE_any code pos v w h)
 clear h
 unfold chainV chainO at *
 go_enter Tryz.func87, Tryz.ntmps87
 go_wp2_with (go_at_call 99; refine HN.out.mono ?_; (rintro e w' ⟨rfl, rfl⟩))
 go_ret
 exact ⟨rfl, rfl⟩
theorem rlm (z : Sem Value) (f : TypeId → Addr → Nat → Nat → Sem Value) (v : Value) :
   ReflectliteValue.method z f #[v] = (do match ← ReflectliteValue.parts v with | none => z | some (t, a, fl) => f t a fl (fl % 32)) := rfl
theorem rls (v x : Value) : ReflectliteValue.set #[v, x] = (do
   let (some (dst, a, fl), some (src, b, _)) := (← ReflectliteValue.parts v, ← ReflectliteValue.parts x)
     | unsupported (.noEntry "extern/(internal/reflectlite.Value).Set.zeroValue")
   if fl / ReflectliteValue.flagAddr % 2 == 0 then unsupported (.noEntry "extern/(internal/reflectlite.Value).Set.unaddressable")
   let val ← loadVar src b
   if ← Rtype.directlyAssignable dst src then storeVar dst a val
   else if ← Rtype.implements dst src then
     if (← Rtype.kind src) == 20 then
       match val with
       | .nilIface => unsupported (.noEntry "extern/reflectlite: a nil value of one interface type handed on as a value of another")
       | _ => storeVar dst a val
     else storeVar dst a (.iface src val)
   else panicString ("reflectlite.Set: value of type " ++ (← Rtype.spelt src) ++ " is not assignable to type " ++ (← Rtype.spelt dst))
   pure (.tuple #[])) := rfl
theorem vPE (t : Addr) (w : World) : (ReflectliteValue.unpack (.iface 169 (.pointer (some t)))).run Tryz.prog w = .ok (.agg #[.pointer (some ⟨1, 169, none⟩), .pointer (some ⟨w.heap.size, 0, none⟩), .int .u64 150]) (w.alloc (.cells #[.pointer (some t)] 169)) := by kernel_rfl
theorem tPE (a : Addr) (w : World) : (ReflectliteValue.methodAny (ReflectliteValue.valueError "reflectlite.Value.Type" 0) (fun t _ _ _ => ReflectliteType.toType t) #[.agg #[.pointer (some ⟨1, 169, none⟩), .pointer (some a), .int .u64 150]]).run Tryz.prog w = .ok (.iface 218 (.agg #[.pointer (some ⟨1, 169, none⟩)])) w := by kernel_rfl
theorem kPE (w : World) : ((ReflectliteType.abiMethod fun t => Functor.map (fun a : Nat => Value.int IntKind.u8 (a : Int)) (Rtype.kind t)) #[.pointer (some ⟨1, 169, none⟩)]).run Tryz.prog w = .ok (.int .u8 22) w := by kernel_rfl
theorem kTE (w : World) : ((ReflectliteType.abiMethod fun t => Functor.map (fun a : Nat => Value.int IntKind.u8 (a : Int)) (Rtype.kind t)) #[.pointer (some ⟨1, 35, none⟩)]).run Tryz.prog w = .ok (.int .u8 2) w := by kernel_rfl
theorem partsE (a : Addr) (w : World) : (ReflectliteValue.parts (.agg #[.pointer (some ⟨1, 169, none⟩), .pointer (some a), .int .u64 150])).run Tryz.prog w = .ok (some (169, a, 150)) w := by kernel_rfl
theorem isNilE (a p : Addr) (W : World) (ha : W.cell? a = some (.pointer (some p))) :
   (ReflectliteValue.method (ReflectliteValue.valueError "reflectlite.Value.IsNil" 0) ReflectliteValue.isNil #[.agg #[.pointer (some ⟨1, 169, none⟩), .pointer (some a), .int .u64 150]]).run Tryz.prog W = .ok (.bool false) W := by
 rw [rlm]
 simp only [Sem.run_bind, partsE, Result.andThen]
 simp [ReflectliteValue.isNil, loadVar, isAgg, underlying, Tryz.underlying169, ha, Result.andThen]
theorem elE (w : World) : (ReflectliteType.method ReflectliteType.elem #[.agg #[.pointer (some ⟨1, 169, none⟩)]]).run Tryz.prog w = .ok (.iface 218 (.agg #[.pointer (some ⟨1, 35, none⟩)])) w := by kernel_rfl
theorem imE (w : World) : (ReflectliteType.relation "Implements" ReflectliteType.implements_ #[.agg #[.pointer (some ⟨1, 35, none⟩)], .iface 218 (.agg #[.pointer (some ⟨1, 151, none⟩)])]).run Tryz.prog w = .ok (.bool true) w := by kernel_rfl
theorem elemOfE (w : World) : (Rtype.elem? 169).run Tryz.prog w = .ok (some 35) w := by kernel_rfl
theorem mkE (p : Addr) (w : World) : (ReflectliteValue.mk 35 p ReflectliteValue.flagAddr).run Tryz.prog w = .ok (.agg #[.pointer (some ⟨1, 35, none⟩), .pointer (some p), .int .u64 386]) w := by kernel_rfl
theorem elemVE (a p : Addr) (W : World) (ha : W.cell? a = some (.pointer (some p))) :
   (ReflectliteValue.method (ReflectliteValue.valueError "reflectlite.Value.Elem" 0) ReflectliteValue.elem #[.agg #[.pointer (some ⟨1, 169, none⟩), .pointer (some a), .int .u64 150]]).run Tryz.prog W = .ok (.agg #[.pointer (some ⟨1, 35, none⟩), .pointer (some p), .int .u64 386]) W := by
 rw [rlm]
 simp only [Sem.run_bind, partsE, Result.andThen]
 simp [ReflectliteValue.elem, loadVar, isAgg, underlying, Tryz.underlying169, ha, Result.andThen, elemOfE, mkE]
theorem vTE (c : Int) (w : World) : (ReflectliteValue.unpack (.iface 35 (.int .i64 c))).run Tryz.prog w = .ok (.agg #[.pointer (some ⟨1, 35, none⟩), .pointer (some ⟨w.heap.size, 0, none⟩), .int .u64 130]) (w.alloc (.cells #[.int .i64 c] 35)) := by kernel_rfl
theorem partsAE (a : Addr) (w : World) : (ReflectliteValue.parts (.agg #[.pointer (some ⟨1, 35, none⟩), .pointer (some a), .int .u64 386])).run Tryz.prog w = .ok (some (35, a, 386)) w := by kernel_rfl
theorem partsVE (a : Addr) (w : World) : (ReflectliteValue.parts (.agg #[.pointer (some ⟨1, 35, none⟩), .pointer (some a), .int .u64 130])).run Tryz.prog w = .ok (some (35, a, 130)) w := by kernel_rfl
theorem directE (w : World) : (Rtype.directlyAssignable 35 35).run Tryz.prog w = .ok true w := by kernel_rfl
theorem setE (ta b : Addr) (c : Int) (old : Value) (W : World) (hb : W.cell? b = some (.int .i64 c)) (ht : W.cell? ta = some old) (hf : W.frozen? ta = false) :
   (ReflectliteValue.set #[.agg #[.pointer (some ⟨1, 35, none⟩), .pointer (some ta), .int .u64 386], .agg #[.pointer (some ⟨1, 35, none⟩), .pointer (some b), .int .u64 130]]).run Tryz.prog W = .ok (.tuple #[]) (W.setCell ta (.int .i64 c)) := by
 rw [rls]
 simp only [Sem.run_bind, partsAE, partsVE, Result.andThen]
 simp [ReflectliteValue.flagAddr, loadVar, isAgg, underlying, Tryz.underlying35, hb, Result.andThen, directE, storeVar, Value.cells, storeCells, Addr.add]
 rw [run_store Tryz.prog W ta _ _ (by rfl)]
 simp [ht, hf]
theorem tyE (v : Value) (w : World) : (ReflectliteType.typeOf #[.iface 35 v]).run Tryz.prog w = .ok (.iface 218 (.agg #[.pointer (some ⟨1, 35, none⟩)])) w := by kernel_rfl
theorem asEE (w : World) : (ReflectliteType.relation "AssignableTo" ReflectliteType.assignableTo #[.agg #[.pointer (some ⟨1, 35, none⟩)], .iface 218 (.agg #[.pointer (some ⟨1, 35, none⟩)])]).run Tryz.prog w = .ok (.bool true) w := by kernel_rfl
theorem vPC (t : Addr) (w : World) : (ReflectliteValue.unpack (.iface 198 (.pointer (some t)))).run Tryz.prog w = .ok (.agg #[.pointer (some ⟨1, 198, none⟩), .pointer (some ⟨w.heap.size, 0, none⟩), .int .u64 150]) (w.alloc (.cells #[.pointer (some t)] 198)) := by kernel_rfl
theorem tPC (a : Addr) (w : World) : (ReflectliteValue.methodAny (ReflectliteValue.valueError "reflectlite.Value.Type" 0) (fun t _ _ _ => ReflectliteType.toType t) #[.agg #[.pointer (some ⟨1, 198, none⟩), .pointer (some a), .int .u64 150]]).run Tryz.prog w = .ok (.iface 218 (.agg #[.pointer (some ⟨1, 198, none⟩)])) w := by kernel_rfl
theorem kPC (w : World) : ((ReflectliteType.abiMethod fun t => Functor.map (fun a : Nat => Value.int IntKind.u8 (a : Int)) (Rtype.kind t)) #[.pointer (some ⟨1, 198, none⟩)]).run Tryz.prog w = .ok (.int .u8 22) w := by kernel_rfl
theorem kTC (w : World) : ((ReflectliteType.abiMethod fun t => Functor.map (fun a : Nat => Value.int IntKind.u8 (a : Int)) (Rtype.kind t)) #[.pointer (some ⟨1, 172, none⟩)]).run Tryz.prog w = .ok (.int .u8 22) w := by kernel_rfl
theorem partsC (a : Addr) (w : World) : (ReflectliteValue.parts (.agg #[.pointer (some ⟨1, 198, none⟩), .pointer (some a), .int .u64 150])).run Tryz.prog w = .ok (some (198, a, 150)) w := by kernel_rfl
theorem isNilC (a p : Addr) (W : World) (ha : W.cell? a = some (.pointer (some p))) :
   (ReflectliteValue.method (ReflectliteValue.valueError "reflectlite.Value.IsNil" 0) ReflectliteValue.isNil #[.agg #[.pointer (some ⟨1, 198, none⟩), .pointer (some a), .int .u64 150]]).run Tryz.prog W = .ok (.bool false) W := by
 rw [rlm]
 simp only [Sem.run_bind, partsC, Result.andThen]
 simp [ReflectliteValue.isNil, loadVar, isAgg, underlying, Tryz.underlying198, ha, Result.andThen]
theorem elC (w : World) : (ReflectliteType.method ReflectliteType.elem #[.agg #[.pointer (some ⟨1, 198, none⟩)]]).run Tryz.prog w = .ok (.iface 218 (.agg #[.pointer (some ⟨1, 172, none⟩)])) w := by kernel_rfl
theorem imC (w : World) : (ReflectliteType.relation "Implements" ReflectliteType.implements_ #[.agg #[.pointer (some ⟨1, 172, none⟩)], .iface 218 (.agg #[.pointer (some ⟨1, 151, none⟩)])]).run Tryz.prog w = .ok (.bool true) w := by kernel_rfl
theorem elemOfC (w : World) : (Rtype.elem? 198).run Tryz.prog w = .ok (some 172) w := by kernel_rfl
theorem mkC (p : Addr) (w : World) : (ReflectliteValue.mk 172 p ReflectliteValue.flagAddr).run Tryz.prog w = .ok (.agg #[.pointer (some ⟨1, 172, none⟩), .pointer (some p), .int .u64 406]) w := by kernel_rfl
theorem elemVC (a p : Addr) (W : World) (ha : W.cell? a = some (.pointer (some p))) :
   (ReflectliteValue.method (ReflectliteValue.valueError "reflectlite.Value.Elem" 0) ReflectliteValue.elem #[.agg #[.pointer (some ⟨1, 198, none⟩), .pointer (some a), .int .u64 150]]).run Tryz.prog W = .ok (.agg #[.pointer (some ⟨1, 172, none⟩), .pointer (some p), .int .u64 406]) W := by
 rw [rlm]
 simp only [Sem.run_bind, partsC, Result.andThen]
 simp [ReflectliteValue.elem, loadVar, isAgg, underlying, Tryz.underlying198, ha, Result.andThen, elemOfC, mkC]
theorem vTC (c : Addr) (w : World) : (ReflectliteValue.unpack (.iface 172 (.pointer (some c)))).run Tryz.prog w = .ok (.agg #[.pointer (some ⟨1, 172, none⟩), .pointer (some ⟨w.heap.size, 0, none⟩), .int .u64 150]) (w.alloc (.cells #[.pointer (some c)] 172)) := by kernel_rfl
theorem partsAC (a : Addr) (w : World) : (ReflectliteValue.parts (.agg #[.pointer (some ⟨1, 172, none⟩), .pointer (some a), .int .u64 406])).run Tryz.prog w = .ok (some (172, a, 406)) w := by kernel_rfl
theorem partsVC (a : Addr) (w : World) : (ReflectliteValue.parts (.agg #[.pointer (some ⟨1, 172, none⟩), .pointer (some a), .int .u64 150])).run Tryz.prog w = .ok (some (172, a, 150)) w := by kernel_rfl
theorem directC (w : World) : (Rtype.directlyAssignable 172 172).run Tryz.prog w = .ok true w := by kernel_rfl
theorem setC (ta b : Addr) (c : Addr) (old : Value) (W : World) (hb : W.cell? b = some (.pointer (some c))) (ht : W.cell? ta = some old) (hf : W.frozen? ta = false) :
   (ReflectliteValue.set #[.agg #[.pointer (some ⟨1, 172, none⟩), .pointer (some ta), .int .u64 406], .agg #[.pointer (some ⟨1, 172, none⟩), .pointer (some b), .int .u64 150]]).run Tryz.prog W = .ok (.tuple #[]) (W.setCell ta (.pointer (some c))) := by
 rw [rls]
 simp only [Sem.run_bind, partsAC, partsVC, Result.andThen]
 simp [ReflectliteValue.flagAddr, loadVar, isAgg, underlying, Tryz.underlying172, hb, Result.andThen, directC, storeVar, Value.cells, storeCells, Addr.add]
 rw [run_store Tryz.prog W ta _ _ (by rfl)]
 simp [ht, hf]
theorem tyC (v : Value) (w : World) : (ReflectliteType.typeOf #[.iface 172 v]).run Tryz.prog w = .ok (.iface 218 (.agg #[.pointer (some ⟨1, 172, none⟩)])) w := by kernel_rfl
theorem asCC (w : World) : (ReflectliteType.relation "AssignableTo" ReflectliteType.assignableTo #[.agg #[.pointer (some ⟨1, 172, none⟩)], .iface 218 (.agg #[.pointer (some ⟨1, 172, none⟩)])]).run Tryz.prog w = .ok (.bool true) w := by kernel_rfl
theorem asCE (w : World) : (ReflectliteType.relation "AssignableTo" ReflectliteType.assignableTo #[.agg #[.pointer (some ⟨1, 172, none⟩)], .iface 218 (.agg #[.pointer (some ⟨1, 35, none⟩)])]).run Tryz.prog w = .ok (.bool false) w := by kernel_rfl
theorem asEC (w : World) : (ReflectliteType.relation "AssignableTo" ReflectliteType.assignableTo #[.agg #[.pointer (some ⟨1, 35, none⟩)], .iface 218 (.agg #[.pointer (some ⟨1, 172, none⟩)])]).run Tryz.prog w = .ok (.bool false) w := by kernel_rfl
theorem noAsE (v : Value) (xT : TypeId) (w : World) : (Instr.typeAssert (.iface 35 v) xT 223 true).run Tryz.prog w = .ok (.tuple #[.nilIface, .bool false]) w := run_typeAssert_lacksB Tryz.underlying223 (by kernel_rfl) (by kernel_rfl) v xT w
theorem noUsE (v : Value) (xT : TypeId) (w : World) : (Instr.typeAssert (.iface 35 v) xT 228 true).run Tryz.prog w = .ok (.tuple #[.nilIface, .bool false]) w := run_typeAssert_lacksB Tryz.underlying228 (by kernel_rfl) (by kernel_rfl) v xT w
theorem noAsC (v : Value) (xT : TypeId) (w : World) : (Instr.typeAssert (.iface 172 v) xT 223 true).run Tryz.prog w = .ok (.tuple #[.nilIface, .bool false]) w := run_typeAssert_lacksB Tryz.underlying223 (by kernel_rfl) (by kernel_rfl) v xT w
theorem noUsC (v : Value) (xT : TypeId) (w : World) : (Instr.typeAssert (.iface 172 v) xT 228 true).run Tryz.prog w = .ok (.tuple #[.nilIface, .bool false]) w := run_typeAssert_lacksB Tryz.underlying228 (by kernel_rfl) (by kernel_rfl) v xT w
theorem noUE (v : Value) (xT : TypeId) (w : World) : (Instr.typeAssert (.iface 35 v) xT 226 true).run Tryz.prog w = .ok (.tuple #[.nilIface, .bool false]) w := run_typeAssert_lacksB Tryz.underlying226 (by kernel_rfl) (by kernel_rfl) v xT w
theorem hasUC (v : Value) (xT : TypeId) (w : World) : (Instr.typeAssert (.iface 172 v) xT 226 true).run Tryz.prog w = .ok (.tuple #[.iface 172 v, .bool true]) w := run_typeAssert_hasB Tryz.underlying226 (by kernel_rfl) v xT w
open Go.RowKit Go.Extern.Stop Go.Stop Go.Extern
theorem mKind (n : Nat) (h : Value) (w : World) : (Go.method (n + 1) 218 (.agg #[h]) "Kind").run Tryz.prog w = .ok (156, h) w := by kernel_rfl
theorem mElem (n : Nat) (h : Value) (w : World) : (Go.method (n + 1) 218 (.agg #[h]) "Elem").run Tryz.prog w = .ok (168, .agg #[h]) w := by kernel_rfl
theorem mImpl (n : Nat) (h : Value) (w : World) : (Go.method (n + 1) 218 (.agg #[h]) "Implements").run Tryz.prog w = .ok (169, .agg #[h]) w := by kernel_rfl
theorem mAssign (n : Nat) (h : Value) (w : World) : (Go.method (n + 1) 218 (.agg #[h]) "AssignableTo").run Tryz.prog w = .ok (166, .agg #[h]) w := by kernel_rfl
theorem mUnwrap (n : Nat) (c : Nat) (w : World) : (Go.method (n + 1) 172 (.pointer (some ⟨c, 0, none⟩)) "Unwrap").run Tryz.prog w = .ok (161, .pointer (some ⟨c, 0, none⟩)) w := by kernel_rfl
set_option maxRecDepth 100000 in
set_option maxHeartbeats 4000000 in
theorem asC_hit (c : Nat) (tb : Nat) (old : Value) (w : World) (hg : ErrT w) (ht : w.heap[tb]? = some (.cells #[old] 172 (0, 0))) :
   Calls Tryz.prog 88 #[chainV c, .iface 198 (.pointer (some ⟨tb, 0, none⟩))] w fun e w' => e = .returned (.bool true) ∧ Mod (fun k => k = tb) w w' ∧ w'.heap[tb]? = some (.cells #[.pointer (some ⟨c, 0, none⟩)] 172 (0, 0)) := by
 have x1 := @run_callFunc_extern Tryz.prog 100 _ (fun args => ReflectliteValue.unpack (args.getD 0 (.tuple #[]))) Tryz.func100 (by kernel_rfl) (by kernel_rfl) (by kernel_rfl) (by kernel_rfl)
 have x2 := @run_callFunc_extern Tryz.prog 101 _ (ReflectliteValue.methodAny (ReflectliteValue.valueError "reflectlite.Value.Type" 0) (fun t _ _ _ => ReflectliteType.toType t)) Tryz.func101 (by kernel_rfl) (by kernel_rfl) (by kernel_rfl) (by kernel_rfl)
 have x3 := @run_callFunc_extern Tryz.prog 102 _ (ReflectliteValue.method (ReflectliteValue.valueError "reflectlite.Value.IsNil" 0) ReflectliteValue.isNil) Tryz.func102 (by kernel_rfl) (by kernel_rfl) (by kernel_rfl) (by kernel_rfl)
 have x4 := @run_callFunc_extern Tryz.prog 156 _ (ReflectliteType.abiMethod fun t => do pure (.int .u8 (← Rtype.kind t))) Tryz.func156 (by kernel_rfl) (by kernel_rfl) (by kernel_rfl) (by kernel_rfl)
 have x5 := @run_callFunc_extern Tryz.prog 168 _ (ReflectliteType.method ReflectliteType.elem) Tryz.func168 (by kernel_rfl) (by kernel_rfl) (by kernel_rfl) (by kernel_rfl)
 have x6 := @run_callFunc_extern Tryz.prog 169 _ (ReflectliteType.relation "Implements" ReflectliteType.implements_) Tryz.func169 (by kernel_rfl) (by kernel_rfl) (by kernel_rfl) (by kernel_rfl)
 have x7 := @run_callFunc_extern Tryz.prog 126 _ ReflectliteType.typeOf Tryz.func126 (by kernel_rfl) (by kernel_rfl) (by kernel_rfl) (by kernel_rfl)
 have x8 := @run_callFunc_extern Tryz.prog 166 _ (ReflectliteType.relation "AssignableTo" ReflectliteType.assignableTo) Tryz.func166 (by kernel_rfl) (by kernel_rfl) (by kernel_rfl) (by kernel_rfl)
 have x9 := @run_callFunc_extern Tryz.prog 127 _ (ReflectliteValue.method (ReflectliteValue.valueError "reflectlite.Value.Elem" 0) ReflectliteValue.elem) Tryz.func127 (by kernel_rfl) (by kernel_rfl) (by kernel_rfl) (by kernel_rfl)
 have xa := @run_callFunc_extern Tryz.prog 128 _ ReflectliteValue.set Tryz.func128 (by kernel_rfl) (by kernel_rfl) (by kernel_rfl) (by kernel_rfl)
 have g1 := vPC
 have g2 := tPC
 have g3 := kPC
 have g4 := kTC
 have g5 := elC
 have g6 := imC
 have m1 := mKind
 have m2 := mElem
 have m3 := mImpl
 have m4 := mAssign
 have m5 := mUnwrap
 have t1 := tyC
 have t2 := asCC
 have t3 := vTC
 unfold chainV
 have hlt : tb < w.heap.size := lt_of_block ht
 have n8 := isNilC ⟨w.heap.size, 0, none⟩ ⟨tb, 0, none⟩ ((w.alloc (.cells #[.pointer (some ⟨tb, 0, none⟩)] 198)).alloc (.cells #[.pointer (some ⟨1, 198, none⟩), .pointer (some ⟨w.heap.size, 0, none⟩), .int .u64 150] 188)) (by simp)
 have hgl : 0 < w.heap.size := World.block_lt_of_cell? _ _ hg
 have hg2 : ((w.alloc (.cells #[.pointer (some ⟨tb, 0, none⟩)] 198)).alloc (.cells #[.pointer (some ⟨1, 198, none⟩), .pointer (some ⟨w.heap.size, 0, none⟩), .int .u64 150] 188)).cell? ⟨0, 0, none⟩ = some (.iface 218 (.agg #[.pointer (some ⟨1, 151, none⟩)])) := by
   rw [World.cell?_alloc_lt _ _ ⟨0, 0, none⟩ (by simp <;> omega), World.cell?_alloc_lt _ _ ⟨0, 0, none⟩ hgl]; exact hg
 have el := elemVC ⟨w.heap.size, 0, none⟩ ⟨tb, 0, none⟩ (((w.alloc (.cells #[.pointer (some ⟨tb, 0, none⟩)] 198)).alloc (.cells #[.pointer (some ⟨1, 198, none⟩), .pointer (some ⟨w.heap.size, 0, none⟩), .int .u64 150] 188)).alloc (.cells #[.pointer (some ⟨1, 198, none⟩), .pointer (some ⟨w.heap.size, 0, none⟩), .int .u64 150] 188)) (by rw [World.cell?_alloc_lt _ _ ⟨w.heap.size, 0, none⟩ (by simp; omega)]; simp)
 have st := setC ⟨tb, 0, none⟩ ⟨w.heap.size + 1 + 1 + 1, 0, none⟩ ⟨c, 0, none⟩ old ((((w.alloc (.cells #[.pointer (some ⟨tb, 0, none⟩)] 198)).alloc (.cells #[.pointer (some ⟨1, 198, none⟩), .pointer (some ⟨w.heap.size, 0, none⟩), .int .u64 150] 188)).alloc (.cells #[.pointer (some ⟨1, 198, none⟩), .pointer (some ⟨w.heap.size, 0, none⟩), .int .u64 150] 188)).alloc (.cells #[.pointer (some ⟨c, 0, none⟩)] 172))
   (by rw [World.cell?_alloc_at _ _ _ _ (by simp)]; rfl)
   (by rw [World.cell?_alloc_lt _ _ ⟨tb, 0, none⟩ (by simp; omega), World.cell?_alloc_lt _ _ ⟨tb, 0, none⟩ (by simp; omega), World.cell?_alloc_lt _ _ ⟨tb, 0, none⟩ (by simp; omega), World.cell?_alloc_lt _ _ ⟨tb, 0, none⟩ hlt]; rw [cell_of_row ht]; rfl)
   (by rw [World.frozen?_alloc_old _ _ ⟨tb, 0, none⟩ (by simp; omega), World.frozen?_alloc_old _ _ ⟨tb, 0, none⟩ (by simp; omega), World.frozen?_alloc_old _ _ ⟨tb, 0, none⟩ (by simp; omega), World.frozen?_alloc_old _ _ ⟨tb, 0, none⟩ (Nat.ne_of_lt hlt)]; exact free_of_row ht 0)
 go_enter Tryz.func88, Tryz.ntmps88
 go_wp2
 refine wp_loop_rounds 1 ?_
 rw [rounds_succ]
 go_wp2
 go_ret
 have hm : Mod (fun k => k = tb) w ((((w.alloc (.cells #[.pointer (some ⟨tb, 0, none⟩)] 198)).alloc (.cells #[.pointer (some ⟨1, 198, none⟩), .pointer (some ⟨w.heap.size, 0, none⟩), .int .u64 150] 188)).alloc (.cells #[.pointer (some ⟨1, 198, none⟩), .pointer (some ⟨w.heap.size, 0, none⟩), .int .u64 150] 188)).alloc (.cells #[.pointer (some ⟨c, 0, none⟩)] 172)) := ((((Mod.refl _ w).alloc _).alloc _).alloc _).alloc _
 have hb : ((((w.alloc (.cells #[.pointer (some ⟨tb, 0, none⟩)] 198)).alloc (.cells #[.pointer (some ⟨1, 198, none⟩), .pointer (some ⟨w.heap.size, 0, none⟩), .int .u64 150] 188)).alloc (.cells #[.pointer (some ⟨1, 198, none⟩), .pointer (some ⟨w.heap.size, 0, none⟩), .int .u64 150] 188)).alloc (.cells #[.pointer (some ⟨c, 0, none⟩)] 172)).heap[tb]? = some (.cells #[old] 172 (0, 0)) := heap_alloc_old (heap_alloc_old (heap_alloc_old (heap_alloc_old ht)))
 refine ⟨rfl, hm.setCell (p := ⟨tb, 0, none⟩) (fun _ => rfl) _, ?_⟩
 simpa using row_setCell hb 0 (.pointer (some ⟨c, 0, none⟩))
set_option maxRecDepth 100000 in
set_option maxHeartbeats 4000000 in
theorem asE_hit (c : Nat) (code pos : Int) (v : Nat) (tb : Nat) (old : Value) (w : World) (hg : ErrT w) (hc : w.heap[c]? = some (chainO code pos v)) (ht : w.heap[tb]? = some (.cells #[old] 35 (0, 0))) :
   Calls Tryz.prog 88 #[chainV c, .iface 169 (.pointer (some ⟨tb, 0, none⟩))] w fun e w' => e = .returned (.bool true) ∧ Mod (fun k => k = tb) w w' ∧ w'.heap[tb]? = some (.cells #[.int .i64 code] 35 (0, 0)) := by
 have x1 := @run_callFunc_extern Tryz.prog 100 _ (fun args => ReflectliteValue.unpack (args.getD 0 (.tuple #[]))) Tryz.func100 (by kernel_rfl) (by kernel_rfl) (by kernel_rfl) (by kernel_rfl)
 have x2 := @run_callFunc_extern Tryz.prog 101 _ (ReflectliteValue.methodAny (ReflectliteValue.valueError "reflectlite.Value.Type" 0) (fun t _ _ _ => ReflectliteType.toType t)) Tryz.func101 (by kernel_rfl) (by kernel_rfl) (by kernel_rfl) (by kernel_rfl)
 have x3 := @run_callFunc_extern Tryz.prog 102 _ (ReflectliteValue.method (ReflectliteValue.valueError "reflectlite.Value.IsNil" 0) ReflectliteValue.isNil) Tryz.func102 (by kernel_rfl) (by kernel_rfl) (by kernel_rfl) (by kernel_rfl)
 have x4 := @run_callFunc_extern Tryz.prog 156 _ (ReflectliteType.abiMethod fun t => do pure (.int .u8 (← Rtype.kind t))) Tryz.func156 (by kernel_rfl) (by kernel_rfl) (by kernel_rfl) (by kernel_rfl)
 have x5 := @run_callFunc_extern Tryz.prog 168 _ (ReflectliteType.method ReflectliteType.elem) Tryz.func168 (by kernel_rfl) (by kernel_rfl) (by kernel_rfl) (by kernel_rfl)
 have x6 := @run_callFunc_extern Tryz.prog 169 _ (ReflectliteType.relation "Implements" ReflectliteType.implements_) Tryz.func169 (by kernel_rfl) (by kernel_rfl) (by kernel_rfl) (by kernel_rfl)
 have x7 := @run_callFunc_extern Tryz.prog 126 _ ReflectliteType.typeOf Tryz.func126 (by kernel_rfl) (by kernel_rfl) (by kernel_rfl) (by kernel_rfl)
 have x8 := @run_callFunc_extern Tryz.prog 166 _ (ReflectliteType.relation "AssignableTo" ReflectliteType.assignableTo) Tryz.func166 (by kernel_rfl) (by kernel_rfl) (by kernel_rfl) (by kernel_rfl)
 have x9 := @run_callFunc_extern Tryz.prog 127 _ (ReflectliteValue.method (ReflectliteValue.valueError "reflectlite.Value.Elem" 0) ReflectliteValue.elem) Tryz.func127 (by kernel_rfl) (by kernel_rfl) (by kernel_rfl) (by kernel_rfl)
 have xa := @run_callFunc_extern Tryz.prog 128 _ ReflectliteValue.set Tryz.func128 (by kernel_rfl) (by kernel_rfl) (by kernel_rfl) (by kernel_rfl)
 have g1 := vPE
 have g2 := tPE
 have g3 := kPE
 have g4 := kTE
 have g5 := elE
 have g6 := imE
 have m1 := mKind
 have m2 := mElem
 have m3 := mImpl
 have m4 := mAssign
 have m5 := mUnwrap
 have t1 := tyC
 have t2 := asCE
 have t3 := tyE
 have t4 := asEE
 have t5 := vTE
 have t6 := noAsC
 have t7 := hasUC
 unfold chainV
 have hlt : tb < w.heap.size := lt_of_block ht
 have n8 := isNilE ⟨w.heap.size, 0, none⟩ ⟨tb, 0, none⟩ ((w.alloc (.cells #[.pointer (some ⟨tb, 0, none⟩)] 169)).alloc (.cells #[.pointer (some ⟨1, 169, none⟩), .pointer (some ⟨w.heap.size, 0, none⟩), .int .u64 150] 188)) (by simp)
 have hgl : 0 < w.heap.size := World.block_lt_of_cell? _ _ hg
 have hg2 : ((w.alloc (.cells #[.pointer (some ⟨tb, 0, none⟩)] 169)).alloc (.cells #[.pointer (some ⟨1, 169, none⟩), .pointer (some ⟨w.heap.size, 0, none⟩), .int .u64 150] 188)).cell? ⟨0, 0, none⟩ = some (.iface 218 (.agg #[.pointer (some ⟨1, 151, none⟩)])) := by
   rw [World.cell?_alloc_lt _ _ ⟨0, 0, none⟩ (by simp <;> omega), World.cell?_alloc_lt _ _ ⟨0, 0, none⟩ hgl]; exact hg
 have el := elemVE ⟨w.heap.size, 0, none⟩ ⟨tb, 0, none⟩ (((w.alloc (.cells #[.pointer (some ⟨tb, 0, none⟩)] 169)).alloc (.cells #[.pointer (some ⟨1, 169, none⟩), .pointer (some ⟨w.heap.size, 0, none⟩), .int .u64 150] 188)).alloc (.cells #[.pointer (some ⟨1, 169, none⟩), .pointer (some ⟨w.heap.size, 0, none⟩), .int .u64 150] 188)) (by rw [World.cell?_alloc_lt _ _ ⟨w.heap.size, 0, none⟩ (by simp; omega)]; simp)
 have st := setE ⟨tb, 0, none⟩ ⟨w.heap.size + 1 + 1 + 1, 0, none⟩ code old ((((w.alloc (.cells #[.pointer (some ⟨tb, 0, none⟩)] 169)).alloc (.cells #[.pointer (some ⟨1, 169, none⟩), .pointer (some ⟨w.heap.size, 0, none⟩), .int .u64 150] 188)).alloc (.cells #[.pointer (some ⟨1, 169, none⟩), .pointer (some ⟨w.heap.size, 0, none⟩), .int .u64 150] 188)).alloc (.cells #[.int .i64 code] 35))
   (by rw [World.cell?_alloc_at _ _ _ _ (by simp)]; rfl)
   (by rw [World.cell?_alloc_lt _ _ ⟨tb, 0, none⟩ (by simp; omega), World.cell?_alloc_lt _ _ ⟨tb, 0, none⟩ (by simp; omega), World.cell?_alloc_lt _ _ ⟨tb, 0, none⟩ (by simp; omega), World.cell?_alloc_lt _ _ ⟨tb, 0, none⟩ hlt]; rw [cell_of_row ht]; rfl)
   (by rw [World.frozen?_alloc_old _ _ ⟨tb, 0, none⟩ (by simp; omega), World.frozen?_alloc_old _ _ ⟨tb, 0, none⟩ (by simp; omega), World.frozen?_alloc_old _ _ ⟨tb, 0, none⟩ (by simp; omega), World.frozen?_alloc_old _ _ ⟨tb, 0, none⟩ (Nat.ne_of_lt hlt)]; exact free_of_row ht 0)
 have hcl : c < w.heap.size := lt_of_block hc
 have c2 : (((w.alloc (.cells #[.pointer (some ⟨tb, 0, none⟩)] 169)).alloc (.cells #[.pointer (some ⟨1, 169, none⟩), .pointer (some ⟨w.heap.size, 0, none⟩), .int .u64 150] 188)).alloc (.cells #[.pointer (some ⟨1, 169, none⟩), .pointer (some ⟨w.heap.size, 0, none⟩), .int .u64 150] 188)).cell? ⟨c, 2, none⟩ = some (.iface 35 (.int .i64 code)) := by
   rw [World.cell?_alloc_lt _ _ ⟨c, 2, none⟩ (by simp; omega), World.cell?_alloc_lt _ _ ⟨c, 2, none⟩ (by simp; omega), World.cell?_alloc_lt _ _ ⟨c, 2, none⟩ hcl]
   exact cell_of_row hc 2
 go_enter Tryz.func88, Tryz.ntmps88
 go_wp2
 refine wp_loop_rounds 2 ?_
 rw [rounds_succ]
 go_wp2
 rw [rounds_succ]
 go_wp2
 go_ret
 have hm : Mod (fun k => k = tb) w ((((w.alloc (.cells #[.pointer (some ⟨tb, 0, none⟩)] 169)).alloc (.cells #[.pointer (some ⟨1, 169, none⟩), .pointer (some ⟨w.heap.size, 0, none⟩), .int .u64 150] 188)).alloc (.cells #[.pointer (some ⟨1, 169, none⟩), .pointer (some ⟨w.heap.size, 0, none⟩), .int .u64 150] 188)).alloc (.cells #[.int .i64 code] 35)) := ((((Mod.refl _ w).alloc _).alloc _).alloc _).alloc _
 have hb : ((((w.alloc (.cells #[.pointer (some ⟨tb, 0, none⟩)] 169)).alloc (.cells #[.pointer (some ⟨1, 169, none⟩), .pointer (some ⟨w.heap.size, 0, none⟩), .int .u64 150] 188)).alloc (.cells #[.pointer (some ⟨1, 169, none⟩), .pointer (some ⟨w.heap.size, 0, none⟩), .int .u64 150] 188)).alloc (.cells #[.int .i64 code] 35)).heap[tb]? = some (.cells #[old] 35 (0, 0)) := heap_alloc_old (heap_alloc_old (heap_alloc_old (heap_alloc_old ht)))
 refine ⟨rfl, hm.setCell (p := ⟨tb, 0, none⟩) (fun _ => rfl) _, ?_⟩
 simpa using row_setCell hb 0 (.int .i64 code)
set_option maxRecDepth 100000 in
set_option maxHeartbeats 4000000 in
theorem asC_miss (code : Int) (tb : Nat) (old : Value) (w : World) (hg : ErrT w) (ht : w.heap[tb]? = some (.cells #[old] 172 (0, 0))) :
   Calls Tryz.prog 88 #[.iface 35 (.int .i64 code), .iface 198 (.pointer (some ⟨tb, 0, none⟩))] w fun e w' => e = .returned (.bool false) ∧ Mod (fun _ => False) w w' := by
 have x1 := @run_callFunc_extern Tryz.prog 100 _ (fun args => ReflectliteValue.unpack (args.getD 0 (.tuple #[]))) Tryz.func100 (by kernel_rfl) (by kernel_rfl) (by kernel_rfl) (by kernel_rfl)
 have x2 := @run_callFunc_extern Tryz.prog 101 _ (ReflectliteValue.methodAny (ReflectliteValue.valueError "reflectlite.Value.Type" 0) (fun t _ _ _ => ReflectliteType.toType t)) Tryz.func101 (by kernel_rfl) (by kernel_rfl) (by kernel_rfl) (by kernel_rfl)
 have x3 := @run_callFunc_extern Tryz.prog 102 _ (ReflectliteValue.method (ReflectliteValue.valueError "reflectlite.Value.IsNil" 0) ReflectliteValue.isNil) Tryz.func102 (by kernel_rfl) (by kernel_rfl) (by kernel_rfl) (by kernel_rfl)
 have x4 := @run_callFunc_extern Tryz.prog 156 _ (ReflectliteType.abiMethod fun t => do pure (.int .u8 (← Rtype.kind t))) Tryz.func156 (by kernel_rfl) (by kernel_rfl) (by kernel_rfl) (by kernel_rfl)
 have x5 := @run_callFunc_extern Tryz.prog 168 _ (ReflectliteType.method ReflectliteType.elem) Tryz.func168 (by kernel_rfl) (by kernel_rfl) (by kernel_rfl) (by kernel_rfl)
 have x6 := @run_callFunc_extern Tryz.prog 169 _ (ReflectliteType.relation "Implements" ReflectliteType.implements_) Tryz.func169 (by kernel_rfl) (by kernel_rfl) (by kernel_rfl) (by kernel_rfl)
 have x7 := @run_callFunc_extern Tryz.prog 126 _ ReflectliteType.typeOf Tryz.func126 (by kernel_rfl) (by kernel_rfl) (by kernel_rfl) (by kernel_rfl)
 have x8 := @run_callFunc_extern Tryz.prog 166 _ (ReflectliteType.relation "AssignableTo" ReflectliteType.assignableTo) Tryz.func166 (by kernel_rfl) (by kernel_rfl) (by kernel_rfl) (by kernel_rfl)
 have x9 := @run_callFunc_extern Tryz.prog 127 _ (ReflectliteValue.method (ReflectliteValue.valueError "reflectlite.Value.Elem" 0) ReflectliteValue.elem) Tryz.func127 (by kernel_rfl) (by kernel_rfl) (by kernel_rfl) (by kernel_rfl)
 have xa := @run_callFunc_extern Tryz.prog 128 _ ReflectliteValue.set Tryz.func128 (by kernel_rfl) (by kernel_rfl) (by kernel_rfl) (by kernel_rfl)
 have g1 := vPC
 have g2 := tPC
 have g3 := kPC
 have g4 := kTC
 have g5 := elC
 have g6 := imC
 have m1 := mKind
 have m2 := mElem
 have m3 := mImpl
 have m4 := mAssign
 have m5 := mUnwrap
 have t3 := tyE
 have t4 := asEC
 have t6 := noAsE
 have t7 := noUE
 have t8 := noUsE
 have hlt : tb < w.heap.size := lt_of_block ht
 have n8 := isNilC ⟨w.heap.size, 0, none⟩ ⟨tb, 0, none⟩ ((w.alloc (.cells #[.pointer (some ⟨tb, 0, none⟩)] 198)).alloc (.cells #[.pointer (some ⟨1, 198, none⟩), .pointer (some ⟨w.heap.size, 0, none⟩), .int .u64 150] 188)) (by simp)
 have hgl : 0 < w.heap.size := World.block_lt_of_cell? _ _ hg
 have hg2 : ((w.alloc (.cells #[.pointer (some ⟨tb, 0, none⟩)] 198)).alloc (.cells #[.pointer (some ⟨1, 198, none⟩), .pointer (some ⟨w.heap.size, 0, none⟩), .int .u64 150] 188)).cell? ⟨0, 0, none⟩ = some (.iface 218 (.agg #[.pointer (some ⟨1, 151, none⟩)])) := by
   rw [World.cell?_alloc_lt _ _ ⟨0, 0, none⟩ (by simp <;> omega), World.cell?_alloc_lt _ _ ⟨0, 0, none⟩ hgl]; exact hg
 go_enter Tryz.func88, Tryz.ntmps88
 go_wp2
 refine wp_loop_rounds 1 ?_
 rw [rounds_succ]
 go_wp2
 go_ret
 exact ⟨rfl, (((Mod.refl _ w).alloc _).alloc _).alloc _⟩
open Go.RowKit Go.Maps
def ptrN : Option Node → Value
 | none => .pointer none
 | some n => .pointer (some ⟨n.p, 0, none⟩)
theorem zero_ptr (w : World) : (zeroValue 130).run Tryz.prog w = .ok (.pointer none) w := Tryz.zeroValue130 w
theorem zero_val (w : World) : (zeroValue 77).run Tryz.prog w = .ok (.agg #[.int .u8 0, .int .i64 0, .string ⟨#[]⟩]) w := Tryz.zeroValue77 w
theorem NM.look {w w' : World} {bm : Nat} {ns : List Node} (h : NM w bm ns) (m : Mod (fun _ => False) w w') {v : Nat} (hv : v < 4294967296) :
   (Instr.lookup 125 (.map (some bm)) (.int .u32 (v : Int)) false).run Tryz.prog w' = .ok (ptrN (findN ns v)) w' := by
 have := (h.map.keep m).get Tryz.underlying32 Tryz.underlying125 (zero_ptr w') (u32key hv)
 rw [getL_nodes] at this
 rw [this]
 cases findN ns v <;> rfl
def valO : Option Val → Value
 | none => .agg #[.int .u8 0, .int .i64 0, .string ⟨#[]⟩]
 | some v => .agg #[.int .u8 (v.k : Int), .int .i64 v.n, .string v.s]
theorem valO_getD (o : Option Val) : (o.map Val.v).getD (.agg #[.int .u8 0, .int .i64 0, .string ⟨#[]⟩]) = valO o := by cases o <;> rfl
theorem NAt.edge {w w' : World} {n : Node} (h : NAt w n) (m : Mod (fun _ => False) w w') {v : Nat} (hv : v < 4294967296) :
   (Instr.lookup 141 (.map (some n.me)) (.int .u32 (v : Int)) true).run Tryz.prog w' = .ok (.tuple #[valO (entX n.x.halves v), .bool (entX n.x.halves v).isSome]) w' := by
 have := (h.edges.keep m).getOk Tryz.underlying32 Tryz.underlying141 (zero_val w') (u32key hv)
 rw [getL_pents] at this
 rw [this, valO_getD, Option.isSome_map]
theorem NAt.prop {w w' : World} {n : Node} (h : NAt w n) (m : Mod (fun _ => False) w w') {k : Nat} (hk : k < 256) :
   (Instr.lookup 140 (.map (some n.mp)) (.int .u8 (k : Int)) false).run Tryz.prog w' = .ok (valO (entX n.x.props k)) w' := by
 have := (h.props.keep m).get Tryz.underlying5 Tryz.underlying140 (zero_val w') (u8key hk)
 rw [getL_pents] at this
 rw [this, valO_getD]
theorem valO_eq (o : Option Val) : valO o = .agg #[.int .u8 ((o.getD noVal).k : Int), .int .i64 (o.getD noVal).n, .string (o.getD noVal).s] := by cases o <;> rfl
theorem NAt.propv {w w' : World} {n : Node} (h : NAt w n) (m : Mod (fun _ => False) w w') {k : Nat} (hk : k < 256) :
   (Instr.lookup 140 (.map (some n.mp)) (.int .u8 (k : Int)) false).run Tryz.prog w' = .ok (.agg #[.int .u8 ((propV n.x k).k : Int), .int .i64 (propV n.x k).n, .string (propV n.x k).s]) w' := by
 have := h.prop m hk
 rw [valO_eq] at this
 exact this
theorem NAt.deg {w w' : World} {n : Node} (h : NAt w n) (m : Mod (fun _ => False) w w') (ty : TypeId) : (Builtin.len_ #[141] ty #[.map (some n.me)]).run Tryz.prog w' = .ok (.int .i64 (n.x.halves.length : Int)) w' := by
 have := (h.edges.keep m).len Tryz.underlying141 ty
 rw [pents_length] at this
 exact this
def RunOK (g bm : Nat) (ns : List Node) (o : Opr) (G : Gr) (vals : List Val) (w : World) (e : Ending) (w' : World) : Prop :=
 ∃ vo ns', e = .returned (.tuple #[vo, .nilIface]) ∧ Turned g bm ns G (fun k => k ≠ o.a ∧ k ≠ o.b) w w' ns' ∧ RdS w' 3 vo vals.length (vvcells vals)
def RunNO (code : Nat) (pos : Int) (w : World) (e : Ending) (w' : World) : Prop :=
 ∃ c v, e = .returned (.tuple #[.slice none 0 0, chainV c]) ∧ w'.heap[c]? = some (chainO (code : Int) pos v) ∧ Mod (fun _ => False) w w'
def RunP (g bm : Nat) (ns : List Node) (o : Opr) (pos : Int) (w : World) (e : Ending) (w' : World) : Prop :=
 ((oneG (ns.map Node.x) o).e = 0 → RunOK g bm ns o (oneG (ns.map Node.x) o).g (oneG (ns.map Node.x) o).vals w e w') ∧ ((oneG (ns.map Node.x) o).e ≠ 0 → RunNO (oneG (ns.map Node.x) o).e pos w e w')
theorem RunP.ok {g bm : Nat} {ns : List Node} {o : Opr} {pos : Int} {w w' : World} {e : Ending} {G : Gr} {vals : List Val} (h : oneG (ns.map Node.x) o = ⟨0, G, vals⟩) (k : RunOK g bm ns o G vals w e w') : RunP g bm ns o pos w e w' := by
 unfold RunP
 rw [h]
 exact ⟨fun _ => k, fun c => absurd rfl c⟩
theorem RunP.no {g bm : Nat} {ns : List Node} {o : Opr} {pos : Int} {w w' : World} {e : Ending} {G : Gr} {vals : List Val} {code : Nat} (h : oneG (ns.map Node.x) o = ⟨code, G, vals⟩) (hc : code ≠ 0) (k : RunNO code pos w e w') : RunP g bm ns o pos w e w' := by
 unfold RunP
 rw [h]
 exact ⟨fun c => absurd c hc, fun _ => k⟩
theorem RunNO.made {code : Nat} {pos : Int} {v c : Nat} {w wx : World} (m : Mod (fun _ => False) w wx) (hc : wx.heap.size = c) : RunNO code pos w (.returned (.tuple #[.slice none 0 0, chainV c])) (wx.alloc (chainO (code : Int) pos v)) := by
 subst hc
 exact ⟨_, v, rfl, heap_alloc_new' _ _, m.alloc _⟩
theorem UMap.empty {P : Program} {kt : TypeId} {q : IntKind} {w : World} {b : Nat} (h : w.heap[b]? = some (.map #[] 0)) : UMap P kt q w b [] := by
 obtain ⟨es, clock, hb, F, hn, hD⟩ := World.ownsMap_made w P kt rawE
 rw [heap_alloc_new'] at hb
 injection hb with hb
 injection hb with h1 h2
 subst h1 h2
 exact ⟨⟨#[], 0, h, F, hn, hD⟩⟩
theorem NAt.made {w : World} {p mp me id : Nat} (hid : id < 4294967296) (h0 : w.heap[p]? = some (.cells #[.map (some mp), .map (some me)] 143 (0, 0))) (h1 : w.heap[mp]? = some (.map #[] 0)) (h2 : w.heap[me]? = some (.map #[] 0)) : NAt w ⟨⟨id, true, [], []⟩, p, mp, me⟩ :=
 ⟨h0, UMap.empty h1, UMap.empty h2, ⟨hid, by simp, by simp⟩⟩
end Go.Proofs.YtpigipgoopeeoaaGreatDoor
