import Derived.Test.YtpigipgoopeeoaaGreatDoorMAll10
import Derived.LaidEql
import Derived.Stop.Asserts
import Derived.RowKitTokens
set_option linter.unusedVariables false
set_option linter.unusedSimpArgs false
namespace Go.Proofs.YtpigipgoopeeoaaGreatDoor
open Go.RowKit Go.Maps
def namedB (ops : List Opr) (k : Nat) : Bool := ops.any fun o => o.a == k || o.b == k
def namedTo (ops : List Opr) (ids : List Nat) (j k : Nat) : Bool := namedB ops k || (ids.take j).any fun i => i == k
theorem namedTo_zero (ops : List Opr) (ids : List Nat) : namedTo ops ids 0 = namedB ops := by
 funext k; simp [namedTo]
theorem namedTo_succ {ops : List Opr} {ids : List Nat} {j i : Nat} (h : ids[j]? = some i) (k : Nat) : namedTo ops ids (j + 1) k = (namedTo ops ids j k || i == k) := by
 obtain ⟨h1, h2⟩ := List.getElem?_eq_some_iff.1 h
 unfold namedTo
 rw [List.take_succ_eq_append_getElem h1, h2, List.any_append]
 simp [Bool.or_assoc]
theorem namedB_next {ops : List Opr} {i : Nat} {o : Opr} (h : ops[i]? = some o) : namedB (ops.take (i + 1)) = namedTo (ops.take i) [o.a, o.b] 2 := by
 obtain ⟨h1, h2⟩ := List.getElem?_eq_some_iff.1 h
 funext k
 unfold namedB namedTo
 rw [List.take_succ_eq_append_getElem h1, h2, List.any_append]
 simp [namedB]
theorem namedB_nil : namedB [] = fun _ => false := rfl
theorem filter_more {L : Gr} (hr : Rising Vtx.id L) {x : Vtx} (hx : x ∈ L) (p : Nat → Bool) : layG Vtx.id x false (L.filter fun y => p y.id) = L.filter fun y => p y.id || x.id == y.id := by
 have hf : Rising Vtx.id (L.filter fun y => p y.id) := List.Pairwise.filter _ hr
 refine rising_extG (Rising.lay hf) (List.Pairwise.filter _ hr) fun y => ?_
 rw [layG_mem hf, List.mem_filter, List.mem_filter, Bool.or_eq_true, beq_iff_eq]
 constructor
 · rintro (⟨⟨h1, h2⟩, _⟩ | ⟨_, rfl⟩)
   · exact ⟨h1, .inl h2⟩
   · exact ⟨hx, .inr rfl⟩
 · rintro ⟨h1, h2⟩
   by_cases e : y.id = x.id
   · exact .inr ⟨rfl, hr.uniq h1 hx e⟩
   · exact .inl ⟨⟨h1, h2.resolve_right (fun c => e c.symm)⟩, e⟩
theorem filter_none {L : Gr} {v : Nat} (hv : findV L v = none) (p : Nat → Bool) : (L.filter fun y => p y.id || v == y.id) = L.filter fun y => p y.id := by
 apply List.filter_congr
 intro y hy
 have := findV_none.1 hv y hy
 have e : (v == y.id) = false := by simp; omega
 rw [e, Bool.or_false]
theorem laid_back {ops : List Opr} {ns0 nsi nsf cs : List Node} (h0 : Rising keyN ns0) (hf : Rising keyN nsf) (hs : ∀ n : Node, namedB ops n.x.id = false → (n ∈ nsi ↔ n ∈ ns0)) (hc : cs.map Node.x = (ns0.map Node.x).filter fun y => namedB ops y.id)
   (hm : ∀ n : Node, n ∈ nsf ↔ (n ∈ nsi ∧ namedB ops n.x.id = false) ∨ n ∈ cs) : nsf.map Node.x = ns0.map Node.x := by
 refine rising_extG (key := Vtx.id) (rising_map hf) (rising_map h0) fun p => ?_
 rw [List.mem_map, List.mem_map]
 constructor
 · rintro ⟨n, hn, rfl⟩
   rcases (hm n).1 hn with ⟨h1, h2⟩ | h
   · exact ⟨n, (hs n h2).1 h1, rfl⟩
   · have : n.x ∈ cs.map Node.x := List.mem_map_of_mem h
     rw [hc] at this
     obtain ⟨m, h1, h2⟩ := List.mem_map.1 (List.mem_filter.1 this).1
     exact ⟨m, h1, h2⟩
 · rintro ⟨n, hn, rfl⟩
   cases hb : namedB ops n.x.id with
   | true =>
     have : n.x ∈ cs.map Node.x := by
       rw [hc, List.mem_filter]
       exact ⟨List.mem_map_of_mem hn, hb⟩
     obtain ⟨c, h1, h2⟩ := List.mem_map.1 this
     exact ⟨c, (hm c).2 (.inr h1), h2⟩
   | false => exact ⟨n, (hm n).2 (.inl ⟨(hs n hb).2 hn, hb⟩), rfl⟩
open Go.RowKit Go.Extern.Stop Go.Stop Go.Extern
def chainV (c : Nat) : Value := .iface 172 (.pointer (some ⟨c, 0, none⟩))
def chainO (code pos : Int) (v : Nat) : Obj := .cells #[.int .i64 pos, .int .u32 (v : Int), .iface 35 (.int .i64 code)] 174
def ErrT (w : World) : Prop := w.cell? ⟨0, 0, none⟩ = some (.iface 218 (.agg #[.pointer (some ⟨1, 151, none⟩)]))
theorem ErrT.keep {S : Nat → Prop} {w w' : World} (h : ErrT w) (m : Mod S w w') (hs : ¬ S 0) : ErrT w' :=
 (World.cell?_of_block (w := w) (m.block 0 (World.block_lt_of_cell? _ _ h) hs)).trans h
theorem newE_any (code pos : Int) (v : Nat) (w : World) (h : (code == 0) = false) : Calls Tryz.prog 99 #[.int .i64 code, .int .i64 pos, .int .u32 (v : Int)] w fun e w' => e = .returned (chainV w.heap.size) ∧ w' = w.alloc (chainO code pos v) := by
 unfold chainV chainO
 go_enter Tryz.func99, Tryz.ntmps99
 go_wp2
 go_ret
 exact ⟨rfl, rfl⟩
theorem refusal_any (code pos : Int) (v : Nat) (w : World) (h : (code == 0) = false) : Calls Tryz.prog 87 #[.int .i64 code, .int .i64 pos, .int .u32 (v : Int)] w fun e w' => e = .returned (chainV w.heap.size) ∧ w' = w.alloc (chainO code pos v) := by
 have HN := Lib.hid (newE_any code pos v w h)
 clear h
 unfold chainV chainO at *
 go_enter Tryz.func87, Tryz.ntmps87
 go_wp2_with (go_at_call 99; refine HN.out.mono ?_; (rintro e w' ⟨rfl, rfl⟩))
 go_ret
 exact ⟨rfl, rfl⟩
theorem rlm (z : Sem Value) (f : TypeId → Addr → Nat → Nat → Sem Value) (v : Value) :
   ReflectliteValue.method z f #[v] = (do match ← ReflectliteValue.parts v with | none => z | some (t, a, fl) => f t a fl (fl % 32)) := rfl
theorem rls (v x : Value) : ReflectliteValue.set #[v, x] = (do
   let (some (dst, a, fl), some (src, b, _)) := (← ReflectliteValue.parts v, ← ReflectliteValue.parts x)
     | unsupported (.noEntry "extern/(internal/reflectlite.Value).Set.zeroValue")
   if fl / ReflectliteValue.flagAddr % 2 == 0 then unsupported (.noEntry "extern/(internal/reflectlite.Value).Set.unaddressable")
   let val ← loadVar src b
   if ← Rtype.directlyAssignable dst src then storeVar dst a val
   else if ← Rtype.implements dst src then
     if (← Rtype.kind src) == 20 then
       match val with
       | .nilIface => unsupported (.noEntry "extern/reflectlite: a nil value of one interface type handed on as a value of another")
       | _ => storeVar dst a val
     else storeVar dst a (.iface src val)
   else panicString ("reflectlite.Set: value of type " ++ (← Rtype.spelt src) ++ " is not assignable to type " ++ (← Rtype.spelt dst))
   pure (.tuple #[])) := rfl
theorem vPE (t : Addr) (w : World) : (ReflectliteValue.unpack (.iface 169 (.pointer (some t)))).run Tryz.prog w = .ok (.agg #[.pointer (some ⟨1, 169, none⟩), .pointer (some ⟨w.heap.size, 0, none⟩), .int .u64 150]) (w.alloc (.cells #[.pointer (some t)] 169)) := by kernel_rfl
theorem tPE (a : Addr) (w : World) : (ReflectliteValue.methodAny (ReflectliteValue.valueError "reflectlite.Value.Type" 0) (fun t _ _ _ => ReflectliteType.toType t) #[.agg #[.pointer (some ⟨1, 169, none⟩), .pointer (some a), .int .u64 150]]).run Tryz.prog w = .ok (.iface 218 (.agg #[.pointer (some ⟨1, 169, none⟩)])) w := by kernel_rfl
theorem kPE (w : World) : ((ReflectliteType.abiMethod fun t => Functor.map (fun a : Nat => Value.int IntKind.u8 (a : Int)) (Rtype.kind t)) #[.pointer (some ⟨1, 169, none⟩)]).run Tryz.prog w = .ok (.int .u8 22) w := by kernel_rfl
theorem kTE (w : World) : ((ReflectliteType.abiMethod fun t => Functor.map (fun a : Nat => Value.int IntKind.u8 (a : Int)) (Rtype.kind t)) #[.pointer (some ⟨1, 35, none⟩)]).run Tryz.prog w = .ok (.int .u8 2) w := by kernel_rfl
theorem partsE (a : Addr) (w : World) : (ReflectliteValue.parts (.agg #[.pointer (some ⟨1, 169, none⟩), .pointer (some a), .int .u64 150])).run Tryz.prog w = .ok (some (169, a, 150)) w := by kernel_rfl
theorem isNilE (a p : Addr) (W : World) (ha : W.cell? a = some (.pointer (some p))) :
   (ReflectliteValue.method (ReflectliteValue.valueError "reflectlite.Value.IsNil" 0) ReflectliteValue.isNil #[.agg #[.pointer (some ⟨1, 169, none⟩), .pointer (some a), .int .u64 150]]).run Tryz.prog W = .ok (.bool false) W := by
 rw [rlm]
 simp only [Sem.run_bind, partsE, Result.andThen]
 simp [ReflectliteValue.isNil, loadVar, isAgg, underlying, Tryz.underlying169, ha, Result.andThen]
theorem elE (w : World) : (ReflectliteType.method ReflectliteType.elem #[.agg #[.pointer (some ⟨1, 169, none⟩)]]).run Tryz.prog w = .ok (.iface 218 (.agg #[.pointer (some ⟨1, 35, none⟩)])) w := by kernel_rfl
theorem imE (w : World) : (ReflectliteType.relation "Implements" ReflectliteType.implements_ #[.agg #[.pointer (some ⟨1, 35, none⟩)], .iface 218 (.agg #[.pointer (some ⟨1, 151, none⟩)])]).run Tryz.prog w = .ok (.bool true) w := by kernel_rfl
theorem elemOfE (w : World) : (Rtype.elem? 169).run Tryz.prog w = .ok (some 35) w := by kernel_rfl
theorem mkE (p : Addr) (w : World) : (ReflectliteValue.mk 35 p ReflectliteValue.flagAddr).run Tryz.prog w = .ok (.agg #[.pointer (some ⟨1, 35, none⟩), .pointer (some p), .int .u64 386]) w := by kernel_rfl
theorem elemVE (a p : Addr) (W : World) (ha : W.cell? a = some (.pointer (some p))) :
   (ReflectliteValue.method (ReflectliteValue.valueError "reflectlite.Value.Elem" 0) ReflectliteValue.elem #[.agg #[.pointer (some ⟨1, 169, none⟩), .pointer (some a), .int .u64 150]]).run Tryz.prog W = .ok (.agg #[.pointer (some ⟨1, 35, none⟩), .pointer (some p), .int .u64 386]) W := by
 rw [rlm]
 simp only [Sem.run_bind, partsE, Result.andThen]
 simp [ReflectliteValue.elem, loadVar, isAgg, underlying, Tryz.underlying169, ha, Result.andThen, elemOfE, mkE]
theorem vTE (c : Int) (w : World) : (ReflectliteValue.unpack (.iface 35 (.int .i64 c))).run Tryz.prog w = .ok (.agg #[.pointer (some ⟨1, 35, none⟩), .pointer (some ⟨w.heap.size, 0, none⟩), .int .u64 130]) (w.alloc (.cells #[.int .i64 c] 35)) := by kernel_rfl
theorem partsAE (a : Addr) (w : World) : (ReflectliteValue.parts (.agg #[.pointer (some ⟨1, 35, none⟩), .pointer (some a), .int .u64 386])).run Tryz.prog w = .ok (some (35, a, 386)) w := by kernel_rfl
theorem partsVE (a : Addr) (w : World) : (ReflectliteValue.parts (.agg #[.pointer (some ⟨1, 35, none⟩), .pointer (some a), .int .u64 130])).run Tryz.prog w = .ok (some (35, a, 130)) w := by kernel_rfl
theorem directE (w : World) : (Rtype.directlyAssignable 35 35).run Tryz.prog w = .ok true w := by kernel_rfl
theorem setE (ta b : Addr) (c : Int) (old : Value) (W : World) (hb : W.cell? b = some (.int .i64 c)) (ht : W.cell? ta = some old) (hf : W.frozen? ta = false) :
   (ReflectliteValue.set #[.agg #[.pointer (some ⟨1, 35, none⟩), .pointer (some ta), .int .u64 386], .agg #[.pointer (some ⟨1, 35, none⟩), .pointer (some b), .int .u64 130]]).run Tryz.prog W = .ok (.tuple #[]) (W.setCell ta (.int .i64 c)) := by
 rw [rls]
 simp only [Sem.run_bind, partsAE, partsVE, Result.andThen]
 simp [ReflectliteValue.flagAddr, loadVar, isAgg, underlying, Tryz.underlying35, hb, Result.andThen, directE, storeVar, Value.cells, storeCells, Addr.add]
 rw [run_store Tryz.prog W ta _ _ (by rfl)]
 simp [ht, hf]
theorem tyE (v : Value) (w : World) : (ReflectliteType.typeOf #[.iface 35 v]).run Tryz.prog w = .ok (.iface 218 (.agg #[.pointer (some ⟨1, 35, none⟩)])) w := by kernel_rfl
theorem asEE (w : World) : (ReflectliteType.relation "AssignableTo" ReflectliteType.assignableTo #[.agg #[.pointer (some ⟨1, 35, none⟩)], .iface 218 (.agg #[.pointer (some ⟨1, 35, none⟩)])]).run Tryz.prog w = .ok (.bool true) w := by kernel_rfl
theorem vPC (t : Addr) (w : World) : (ReflectliteValue.unpack (.iface 198 (.pointer (some t)))).run Tryz.prog w = .ok (.agg #[.pointer (some ⟨1, 198, none⟩), .pointer (some ⟨w.heap.size, 0, none⟩), .int .u64 150]) (w.alloc (.cells #[.pointer (some t)] 198)) := by kernel_rfl
theorem tPC (a : Addr) (w : World) : (ReflectliteValue.methodAny (ReflectliteValue.valueError "reflectlite.Value.Type" 0) (fun t _ _ _ => ReflectliteType.toType t) #[.agg #[.pointer (some ⟨1, 198, none⟩), .pointer (some a), .int .u64 150]]).run Tryz.prog w = .ok (.iface 218 (.agg #[.pointer (some ⟨1, 198, none⟩)])) w := by kernel_rfl
theorem kPC (w : World) : ((ReflectliteType.abiMethod fun t => Functor.map (fun a : Nat => Value.int IntKind.u8 (a : Int)) (Rtype.kind t)) #[.pointer (some ⟨1, 198, none⟩)]).run Tryz.prog w = .ok (.int .u8 22) w := by kernel_rfl
theorem kTC (w : World) : ((ReflectliteType.abiMethod fun t => Functor.map (fun a : Nat => Value.int IntKind.u8 (a : Int)) (Rtype.kind t)) #[.pointer (some ⟨1, 172, none⟩)]).run Tryz.prog w = .ok (.int .u8 22) w := by kernel_rfl
theorem partsC (a : Addr) (w : World) : (ReflectliteValue.parts (.agg #[.pointer (some ⟨1, 198, none⟩), .pointer (some a), .int .u64 150])).run Tryz.prog w = .ok (some (198, a, 150)) w := by kernel_rfl
theorem isNilC (a p : Addr) (W : World) (ha : W.cell? a = some (.pointer (some p))) :
   (ReflectliteValue.method (ReflectliteValue.valueError "reflectlite.Value.IsNil" 0) ReflectliteValue.isNil #[.agg #[.pointer (some ⟨1, 198, none⟩), .pointer (some a), .int .u64 150]]).run Tryz.prog W = .ok (.bool false) W := by
 rw [rlm]
 simp only [Sem.run_bind, partsC, Result.andThen]
 simp [ReflectliteValue.isNil, loadVar, isAgg, underlying, Tryz.underlying198, ha, Result.andThen]
theorem elC (w : World) : (ReflectliteType.method ReflectliteType.elem #[.agg #[.pointer (some ⟨1, 198, none⟩)]]).run Tryz.prog w = .ok (.iface 218 (.agg #[.pointer (some ⟨1, 172, none⟩)])) w := by kernel_rfl
theorem imC (w : World) : (ReflectliteType.relation "Implements" ReflectliteType.implements_ #[.agg #[.pointer (some ⟨1, 172, none⟩)], .iface 218 (.agg #[.pointer (some ⟨1, 151, none⟩)])]).run Tryz.prog w = .ok (.bool true) w := by kernel_rfl
theorem elemOfC (w : World) : (Rtype.elem? 198).run Tryz.prog w = .ok (some 172) w := by kernel_rfl
theorem mkC (p : Addr) (w : World) : (ReflectliteValue.mk 172 p ReflectliteValue.flagAddr).run Tryz.prog w = .ok (.agg #[.pointer (some ⟨1, 172, none⟩), .pointer (some p), .int .u64 406]) w := by kernel_rfl
theorem elemVC (a p : Addr) (W : World) (ha : W.cell? a = some (.pointer (some p))) :
   (ReflectliteValue.method (ReflectliteValue.valueError "reflectlite.Value.Elem" 0) ReflectliteValue.elem #[.agg #[.pointer (some ⟨1, 198, none⟩), .pointer (some a), .int .u64 150]]).run Tryz.prog W = .ok (.agg #[.pointer (some ⟨1, 172, none⟩), .pointer (some p), .int .u64 406]) W := by
 rw [rlm]
 simp only [Sem.run_bind, partsC, Result.andThen]
 simp [ReflectliteValue.elem, loadVar, isAgg, underlying, Tryz.underlying198, ha, Result.andThen, elemOfC, mkC]
theorem vTC (c : Addr) (w : World) : (ReflectliteValue.unpack (.iface 172 (.pointer (some c)))).run Tryz.prog w = .ok (.agg #[.pointer (some ⟨1, 172, none⟩), .pointer (some ⟨w.heap.size, 0, none⟩), .int .u64 150]) (w.alloc (.cells #[.pointer (some c)] 172)) := by kernel_rfl
theorem partsAC (a : Addr) (w : World) : (ReflectliteValue.parts (.agg #[.pointer (some ⟨1, 172, none⟩), .pointer (some a), .int .u64 406])).run Tryz.prog w = .ok (some (172, a, 406)) w := by kernel_rfl
theorem partsVC (a : Addr) (w : World) : (ReflectliteValue.parts (.agg #[.pointer (some ⟨1, 172, none⟩), .pointer (some a), .int .u64 150])).run Tryz.prog w = .ok (some (172, a, 150)) w := by kernel_rfl
theorem directC (w : World) : (Rtype.directlyAssignable 172 172).run Tryz.prog w = .ok true w := by kernel_rfl
theorem setC (ta b : Addr) (c : Addr) (old : Value) (W : World) (hb : W.cell? b = some (.pointer (some c))) (ht : W.cell? ta = some old) (hf : W.frozen? ta = false) :
   (ReflectliteValue.set #[.agg #[.pointer (some ⟨1, 172, none⟩), .pointer (some ta), .int .u64 406], .agg #[.pointer (some ⟨1, 172, none⟩), .pointer (some b), .int .u64 150]]).run Tryz.prog W = .ok (.tuple #[]) (W.setCell ta (.pointer (some c))) := by
 rw [rls]
 simp only [Sem.run_bind, partsAC, partsVC, Result.andThen]
 simp [ReflectliteValue.flagAddr, loadVar, isAgg, underlying, Tryz.underlying172, hb, Result.andThen, directC, storeVar, Value.cells, storeCells, Addr.add]
 rw [run_store Tryz.prog W ta _ _ (by rfl)]
 simp [ht, hf]
theorem tyC (v : Value) (w : World) : (ReflectliteType.typeOf #[.iface 172 v]).run Tryz.prog w = .ok (.iface 218 (.agg #[.pointer (some ⟨1, 172, none⟩)])) w := by kernel_rfl
theorem asCC (w : World) : (ReflectliteType.relation "AssignableTo" ReflectliteType.assignableTo #[.agg #[.pointer (some ⟨1, 172, none⟩)], .iface 218 (.agg #[.pointer (some ⟨1, 172, none⟩)])]).run Tryz.prog w = .ok (.bool true) w := by kernel_rfl
theorem asCE (w : World) : (ReflectliteType.relation "AssignableTo" ReflectliteType.assignableTo #[.agg #[.pointer (some ⟨1, 172, none⟩)], .iface 218 (.agg #[.pointer (some ⟨1, 35, none⟩)])]).run Tryz.prog w = .ok (.bool false) w := by kernel_rfl
theorem asEC (w : World) : (ReflectliteType.relation "AssignableTo" ReflectliteType.assignableTo #[.agg #[.pointer (some ⟨1, 35, none⟩)], .iface 218 (.agg #[.pointer (some ⟨1, 172, none⟩)])]).run Tryz.prog w = .ok (.bool false) w := by kernel_rfl
theorem noAsE (v : Value) (xT : TypeId) (w : World) : (Instr.typeAssert (.iface 35 v) xT 223 true).run Tryz.prog w = .ok (.tuple #[.nilIface, .bool false]) w := run_typeAssert_lacksB Tryz.underlying223 (by kernel_rfl) (by kernel_rfl) v xT w
theorem noUsE (v : Value) (xT : TypeId) (w : World) : (Instr.typeAssert (.iface 35 v) xT 228 true).run Tryz.prog w = .ok (.tuple #[.nilIface, .bool false]) w := run_typeAssert_lacksB Tryz.underlying228 (by kernel_rfl) (by kernel_rfl) v xT w
theorem noAsC (v : Value) (xT : TypeId) (w : World) : (Instr.typeAssert (.iface 172 v) xT 223 true).run Tryz.prog w = .ok (.tuple #[.nilIface, .bool false]) w := run_typeAssert_lacksB Tryz.underlying223 (by kernel_rfl) (by kernel_rfl) v xT w
theorem noUsC (v : Value) (xT : TypeId) (w : World) : (Instr.typeAssert (.iface 172 v) xT 228 true).run Tryz.prog w = .ok (.tuple #[.nilIface, .bool false]) w := run_typeAssert_lacksB Tryz.underlying228 (by kernel_rfl) (by kernel_rfl) v xT w
theorem noUE (v : Value) (xT : TypeId) (w : World) : (Instr.typeAssert (.iface 35 v) xT 226 true).run Tryz.prog w = .ok (.tuple #[.nilIface, .bool false]) w := run_typeAssert_lacksB Tryz.underlying226 (by kernel_rfl) (by kernel_rfl) v xT w
theorem hasUC (v : Value) (xT : TypeId) (w : World) : (Instr.typeAssert (.iface 172 v) xT 226 true).run Tryz.prog w = .ok (.tuple #[.iface 172 v, .bool true]) w := run_typeAssert_hasB Tryz.underlying226 (by kernel_rfl) v xT w
end Go.Proofs.YtpigipgoopeeoaaGreatDoor
