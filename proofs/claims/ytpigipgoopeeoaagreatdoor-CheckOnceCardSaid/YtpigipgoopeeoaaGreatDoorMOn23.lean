import Derived.Test.YtpigipgoopeeoaaGreatDoorMOn22
import Derived.WideKeyEntry
set_option linter.unusedVariables false
set_option linter.unusedSimpArgs false
namespace Go.Proofs.YtpigipgoopeeoaaGreatDoor
open Go.RowKit Go.Maps
theorem b0_9 {a b key vk : Nat} {vn : Int} {vs : ByteArray} {ns : List Node} (hL : Good (ns.map Node.x)) (hok : opOK ⟨9, a, b, key, ⟨vk, vn, vs⟩⟩ = true) {n : Node} (hn : n ∈ ns) : entX n.x.halves b = none := by
 have hb : b = 0 := by
   unfold opOK at hok
   simp only [Opr.two, Opr.hasKey, Opr.hasVal, Bool.and_eq_true] at hok
   simpa using hok.1.1.2
 subst hb
 rw [entX_isNone]
 intro e he h0
 have := ((hL.each n.x (List.mem_map_of_mem hn)).halves e he).1
 omega
set_option maxRecDepth 100000 in
set_option maxHeartbeats 4000000 in
theorem run_9 (g bm : Nat) (ns : List Node) (a b key vk : Nat) (vn : Int) (vs : ByteArray) (pos : Int) (w : World) (hp : PG w g bm ns) (hL : Good (ns.map Node.x)) (ho : Opr.Fits ⟨9, a, b, key, ⟨vk, vn, vs⟩⟩) (n : Node) (hf : findN ns a = some n) (hx : entX n.x.halves b = none) :
   Calls Tryz.prog 72 #[.pointer (some ⟨g, 0, none⟩), .int .i64 pos, .agg #[.int .u8 9, .int .u32 (a : Int), .int .u32 (b : Int), .int .u8 (key : Int), .int .u8 (vk : Int), .int .i64 vn, .string vs]] w (RunP g bm ns ⟨9, a, b, key, ⟨vk, vn, vs⟩⟩ pos w) := by
 have HONE : Hid (oneG (ns.map Node.x) ⟨9, a, b, key, ⟨vk, vn, vs⟩⟩ = if propV n.x key = ⟨vk, vn, vs⟩ then ⟨0, ns.map Node.x, []⟩ else ⟨9, ns.map Node.x, []⟩) := Lib.hid (by unfold oneG; simp only [findN_map, hf, Option.map_some, Nat.reduceEqDiff, if_false, if_true, or_self])
 have HP := Lib.hid hp
 have HL := Lib.hid hL
 have HO := Lib.hid ho
 have g0 := cell_of_row hp.cell 0
 have zg := lt_of_block hp.cell
 have zg1 : g < w.heap.size + 1 := by omega
 have zg2 : g < w.heap.size + 1 + 1 := by omega
 have zg3 : g < w.heap.size + 1 + 1 + 1 := by omega
 simp at g0
 have m1 : Mod (fun _ => False) w (w.alloc (.cells #[.int .u8 9, .int .u32 (a : Int), .int .u32 (b : Int), .int .u8 (key : Int), .int .u8 (vk : Int), .int .i64 vn, .string vs] 79)).drew := ((Mod.refl _ _).alloc _).drew
 have HM1 := Lib.hid m1
 have la := hp.nm.look m1 ho.a
 have lb := hp.nm.look m1 ho.b
 obtain ⟨hnm, hni⟩ := findN_mem hf
 have hna := hp.nm.each n hnm
 have HNM := Lib.hid hnm
 have HNI := Lib.hid hni
 have HNA := Lib.hid hna
 have HOW := Lib.hid (hp.nm.own n hnm)
 have HOF := Lib.hid (fun e : g ∈ n.blocks => hp.goff (.inr ⟨n, hnm, e⟩))
 have p0 := cell_of_row hna.box 0
 have p1 := cell_of_row hna.box 1
 have zp := lt_of_block hna.box
 have zp1 : n.p < w.heap.size + 1 := by omega
 have zp2 : n.p < w.heap.size + 1 + 1 := by omega
 have zp3 : n.p < w.heap.size + 1 + 1 + 1 := by omega
 simp at p0 p1
 rw [hf] at la
 simp only [ptrN] at la
 generalize ptrN (findN ns b) = pb at lb
 have m9a : Mod (fun _ => False) w (w.alloc (.cells #[.int .u8 9, .int .u32 (a : Int), .int .u32 (b : Int), .int .u8 (key : Int), .int .u8 (vk : Int), .int .i64 vn, .string vs] 79)).drew.drew := m1.drew
 have m9b : Mod (fun _ => False) w (((w.alloc (.cells #[.int .u8 9, .int .u32 (a : Int), .int .u32 (b : Int), .int .u8 (key : Int), .int .u8 (vk : Int), .int .i64 vn, .string vs] 79)).alloc (.cells #[.int .u8 0, .int .i64 0, .string ⟨#[]⟩] 77)).drew.drew) := (((Mod.refl _ w).alloc _).alloc _).drew.drew
 have he1 := hna.edge m9a ho.b
 have he2 := hna.edge m9b ho.b
 rw [hx] at he1 he2
 simp only [valO, Option.isSome_none] at he1 he2
 have hpr := hna.propv m9b.drew ho.key
 generalize propV n.x key = pv at hpr HONE
 obtain ⟨pk, pn, ps⟩ := pv
 simp only at hpr
 have HM9 := Lib.hid m9b
 clear hp hL ho hf hx m1 hna hnm hni m9a m9b
 by_cases h1 : pk = vk
 rotate_left
 · have h1' : ¬ (pk : Int) = (vk : Int) := by omega
   have HQ : Hid (oneG (ns.map Node.x) ⟨9, a, b, key, ⟨vk, vn, vs⟩⟩ = ⟨9, ns.map Node.x, []⟩) := Lib.hid (by rw [HONE.out, if_neg (by intro e; injection e with e1 _ _; exact h1 e1)])
   clear h1
   go_enter Tryz.func72, Tryz.ntmps72
   go_wp2_with fail
   go_region
   go_wp2_with fail
   go_region
   all_goals
     go_wp2_with fail
     go_region
     all_goals
       go_wp2_with (go_at_call 87; refine (refusal_any 9 pos _ _ (by rfl)).mono ?_; (rintro e w9 ⟨rfl, rfl⟩))
       go_ret2
       exact RunP.no HQ.out (by omega) (RunNO.made HM9.out.drew (by simp))
 have h1 := h1.symm
 subst h1
 by_cases h2 : pn = vn
 rotate_left
 · have h2' : ¬ pn = vn := h2
   have HQ : Hid (oneG (ns.map Node.x) ⟨9, a, b, key, ⟨vk, vn, vs⟩⟩ = ⟨9, ns.map Node.x, []⟩) := Lib.hid (by rw [HONE.out, if_neg (by intro e; injection e with _ e1 _; exact h2 e1)])
   clear h2
   go_enter Tryz.func72, Tryz.ntmps72
   go_wp2_with fail
   go_region
   go_wp2_with fail
   go_region
   all_goals
     go_wp2_with fail
     go_region
     all_goals
       go_wp2_with (go_at_call 87; refine (refusal_any 9 pos _ _ (by rfl)).mono ?_; (rintro e w9 ⟨rfl, rfl⟩))
       go_ret2
       exact RunP.no HQ.out (by omega) (RunNO.made HM9.out.drew (by simp))
 have h2 := h2.symm
 subst h2
 by_cases h3 : ps = vs
 rotate_left
 · have h3' : ¬ ps.toList = vs.toList := fun e => h3 (by
     rw [ByteArray.toList_eq, ByteArray.toList_eq] at e
     obtain ⟨⟨x⟩⟩ := ps
     obtain ⟨⟨y⟩⟩ := vs
     simp at e
     rw [e])
   have HQ : Hid (oneG (ns.map Node.x) ⟨9, a, b, key, ⟨vk, vn, vs⟩⟩ = ⟨9, ns.map Node.x, []⟩) := Lib.hid (by rw [HONE.out, if_neg (by intro e; injection e with _ _ e1; exact h3 e1)])
   clear h3
   go_enter Tryz.func72, Tryz.ntmps72
   go_wp2_with fail
   go_region
   go_wp2_with fail
   go_region
   all_goals
     go_wp2_with fail
     go_region
     all_goals
       go_wp2_with (go_at_call 87; refine (refusal_any 9 pos _ _ (by rfl)).mono ?_; (rintro e w9 ⟨rfl, rfl⟩))
       go_ret2
       exact RunP.no HQ.out (by omega) (RunNO.made HM9.out.drew (by simp))
 have h3 := h3.symm
 subst h3
 have HQ : Hid (oneG (ns.map Node.x) ⟨9, a, b, key, ⟨vk, vn, vs⟩⟩ = ⟨0, ns.map Node.x, []⟩) := Lib.hid (by rw [HONE.out, if_pos rfl])
 go_enter Tryz.func72, Tryz.ntmps72
 go_wp2_with fail
 go_region
 go_wp2_with fail
 go_region
 all_goals
   go_wp2_with fail
   go_region
   all_goals
     go_wp2_with fail
     go_ret2
     exact RunP.ok HQ.out ⟨_, _, rfl, Turned.idle HP.out HM9.out.drew _, RdS.none _ _⟩
open Go.RowKit Go.Maps Go.WideElems Go.WideMaps Go.ChangeMaps
section
variable {P : Program} {w : World} {t k e : TypeId} {b : Nat} {es : Array MapEntry} {clock : Nat} {R : Value → Option (DataW Value × List MemPlace)}
theorem entry_run (K : Keyed P k) (ht : P.underlying t = some (.map k e)) {z : Value} (hz : (zeroValue e).run P w = .ok z w) (hb : w.heap[b]? = some (.map es clock)) (F : Fit P k R es clock) {key : Value} {kl : Lit} (hkey : keyOf P k key = some kl) :
   ∃ (v0 : Value) (st : Nat) (o1 : Obj), (Instr.mapEntry t (.map (some b)) key).run P w = .ok (.tuple #[v0, .int .i64 (st : Int)]) (setBlock w b o1) ∧
     ∀ val : Value, ∃ o2 : Obj, (Instr.mapUpdate t (.map (some b)) key val).run P w = .ok () (setBlock w b o2) ∧
       ∀ w2 : World, w2.heap[b]? = some o1 → (Instr.entryStore t (.map (some b)) (.int .i64 (st : Int)) val).run P w2 = .ok () (setBlock w2 b o2) := by
 obtain ⟨s1, s2, _⟩ := F.stamped
 rcases K.find w hkey es.toList F.keys with ⟨h1, h2⟩ | ⟨j, e0, h1, h2, h3⟩
 · have hidx : (es.push ⟨key, z, clock⟩).findIdx? (fun e => ((e.born : Nat) : Int) == ((clock : Nat) : Int)) = some es.size := by
     rw [findIdx_arr]
     exact findIdx_born (l := (es.push ⟨key, z, clock⟩).toList) (j := es.size) (e0 := ⟨key, z, clock⟩) (by
       rw [Array.toList_push, List.map_append]
       refine List.nodup_append.2 ⟨s2, by simp, fun a ha c hc e1 => ?_⟩
       simp only [List.map_cons, List.map_nil, List.mem_singleton] at hc
       obtain ⟨x, hx, rfl⟩ := List.mem_map.1 ha
       have := s1 x hx
       omega) (by simp)
   have hmod : ∀ val, (es.push ⟨key, z, clock⟩).modify es.size (fun e => { e with val := val }) = es.push ⟨key, val, clock⟩ := fun val => by
     apply Array.ext'
     rw [Array.toList_modify, Array.toList_push, Array.toList_push, ← Array.length_toList, modify_last]
   refine ⟨z, clock, .map (es.push ⟨key, z, clock⟩) (clock + 1), ?_, fun val => ⟨.map (es.push ⟨key, val, clock⟩) (clock + 1), ?_, fun w2 hw2 => ?_⟩⟩
   · simp [Instr.mapEntry, run_underlying ht, MapKept.run_getObj_map hb, K.check w false hkey, h1, hz, MapKept.run_setObj_map _ hb, Result.andThen, setBlock, goInt]
   · simp [Instr.mapUpdate, run_underlying ht, MapKept.run_getObj_map hb, K.check w false hkey, h1, MapKept.run_setObj_map _ hb, Result.andThen, setBlock]
   · simp [Instr.entryStore, MapKept.run_getObj_map hw2, asInt, asIntOf, hidx, hmod val, MapKept.run_setObj_map _ hw2, Result.andThen, setBlock]
 · have hj : es[j]? = some e0 := by simpa using h2
   have hsame : es.modify j (fun e => { e with key := key }) = es := by
     apply Array.ext'
     rw [Array.toList_modify, modify_eq_set _ _ _ _ h2, show ({ e0 with key := key } : MapEntry) = e0 by rw [← h3]]
     exact set_self _ _ _ h2
   have hidx : es.findIdx? (fun e => ((e.born : Nat) : Int) == ((e0.born : Nat) : Int)) = some j := by
     rw [findIdx_arr]
     exact findIdx_born s2 h2
   have hmod : ∀ val, es.modify j (fun e => { e with val := val }) = es.modify j (fun e' => { e' with key := key, val := val }) := fun val => by
     apply Array.ext'
     rw [Array.toList_modify, Array.toList_modify, modify_eq_set _ _ _ _ h2, modify_eq_set _ _ _ _ h2, ← h3]
   refine ⟨e0.val, e0.born, .map es clock, ?_, fun val => ⟨.map (es.modify j (fun e' => { e' with key := key, val := val })) clock, ?_, fun w2 hw2 => ?_⟩⟩
   · simp [Instr.mapEntry, run_underlying ht, MapKept.run_getObj_map hb, K.check w false hkey, h1, hj, h3, K.stays w hkey, hsame, MapKept.run_setObj_map _ hb, Result.andThen, setBlock, goInt]
   · simp [Instr.mapUpdate, run_underlying ht, MapKept.run_getObj_map hb, K.check w false hkey, h1, hj, h3, K.stays w hkey, MapKept.run_setObj_map _ hb, Result.andThen, setBlock]
   · simp [Instr.entryStore, MapKept.run_getObj_map hw2, asInt, asIntOf, hidx, hmod val, MapKept.run_setObj_map _ hw2, Result.andThen, setBlock]
end
theorem mod_setBlock {w : World} {b : Nat} {o o' : Obj} (hb : w.heap[b]? = some o) : Mod (fun i => i = b) w (setBlock w b o') :=
 ⟨rfl, rfl, rfl, by simp [setBlock], fun i _ hi => (MapKept.heap_set hb).2 i hi⟩
theorem UMap.entry {P : Program} {kt : TypeId} {q : IntKind} {w : World} {b : Nat} {es : Ents} (h : UMap P kt q w b es) (hk : P.underlying kt = some (.int q)) {t e : TypeId} (ht : P.underlying t = some (.map kt e)) {z : Value} (hz : (zeroValue e).run P w = .ok z w) (hn : es.length < maxLen) {k : Nat} (hw : (Lit.int q (k : Int)).wf = true) (v : Value) :
   ∃ (v0 : Value) (st : Nat) (w1 : World), (Instr.mapEntry t (.map (some b)) (.int q (k : Int))).run P w = .ok (.tuple #[v0, .int .i64 (st : Int)]) w1 ∧ Mod (fun i => i = b) w w1 ∧
     ∀ w2 : World, Mod (fun _ => False) w1 w2 → ∃ w3, (Instr.entryStore t (.map (some b)) (.int .i64 (st : Int)) v).run P w2 = .ok () w3 ∧ UMap P kt q w3 b (putL k v es) ∧ Mod (fun i => i = b) w2 w3 := by
 obtain ⟨w', hr, hU, _⟩ := h.store hk ht hn hw v
 obtain ⟨xs, clock, hb, F, _, _⟩ := h.own
 obtain ⟨v0, st, o1, h1, h2⟩ := entry_run (int_keyed hk) ht hz hb F (key_of hk hw)
 obtain ⟨o2, h3, h4⟩ := h2 v
 have e1 : w' = setBlock w b o2 := by
   rw [hr] at h3
   injection h3
 refine ⟨v0, st, _, h1, mod_setBlock hb, fun w2 m => ?_⟩
 have hb1 : (setBlock w b o1).heap[b]? = some o1 := heap_setBlock_same hb _
 have hb2 := m.heap hb1 (fun f => f)
 refine ⟨_, h4 w2 hb2, ?_, mod_setBlock hb2⟩
 obtain ⟨ys, c2, hy, F2, hn2, hD2⟩ := hU.own
 rw [e1, heap_setBlock_same hb] at hy
 injection hy with hy
 exact ⟨⟨ys, c2, by rw [show (setBlock w2 b o2).heap[b]? = some o2 from (MapKept.heap_set hb2).1, hy], F2, hn2, hD2⟩⟩
theorem noVal_fits : Val.Fits noVal := ⟨by show (0 : Nat) < 256; omega, by show (-9223372036854775808 : Int) ≤ 0 ∧ (0 : Int) < 9223372036854775808; omega, Nat.zero_le _⟩
open Go.RowKit Go.Maps
set_option maxRecDepth 100000 in
set_option maxHeartbeats 4000000 in
theorem run_5a (g bm : Nat) (ns : List Node) (a b key vk : Nat) (vn : Int) (vs : ByteArray) (pos : Int) (w : World) (hp : PG w g bm ns) (hL : Good (ns.map Node.x)) (ho : Opr.Fits ⟨5, a, b, key, ⟨vk, vn, vs⟩⟩) (n : Node) (hf : findN ns a = some n) (hfb : findN ns b = none) (hx : entX n.x.halves b = none) :
   Calls Tryz.prog 72 #[.pointer (some ⟨g, 0, none⟩), .int .i64 pos, .agg #[.int .u8 5, .int .u32 (a : Int), .int .u32 (b : Int), .int .u8 (key : Int), .int .u8 (vk : Int), .int .i64 vn, .string vs]] w (RunP g bm ns ⟨5, a, b, key, ⟨vk, vn, vs⟩⟩ pos w) := by
 have HONE : Hid (oneG (ns.map Node.x) ⟨5, a, b, key, ⟨vk, vn, vs⟩⟩ = ⟨6, ns.map Node.x, []⟩) := Lib.hid (by unfold oneG; simp only [findN_map, hf, hfb, Option.map_some, Option.map_none, Nat.reduceEqDiff, if_false, if_true, hx, Option.isSome_none, Option.isSome_some, Bool.false_eq_true])
 have HP := Lib.hid hp
 have HL := Lib.hid hL
 have HO := Lib.hid ho
 have g0 := cell_of_row hp.cell 0
 have zg := lt_of_block hp.cell
 have zg1 : g < w.heap.size + 1 := by omega
 have zg2 : g < w.heap.size + 1 + 1 := by omega
 have zg3 : g < w.heap.size + 1 + 1 + 1 := by omega
 simp at g0
 have m1 : Mod (fun _ => False) w (w.alloc (.cells #[.int .u8 5, .int .u32 (a : Int), .int .u32 (b : Int), .int .u8 (key : Int), .int .u8 (vk : Int), .int .i64 vn, .string vs] 79)).drew := ((Mod.refl _ _).alloc _).drew
 have HM1 := Lib.hid m1
 have la := hp.nm.look m1 ho.a
 have lb := hp.nm.look m1 ho.b
 obtain ⟨hnm, hni⟩ := findN_mem hf
 have hna := hp.nm.each n hnm
 have HNM := Lib.hid hnm
 have HNI := Lib.hid hni
 have HNA := Lib.hid hna
 have HOW := Lib.hid (hp.nm.own n hnm)
 have HOF := Lib.hid (fun e : g ∈ n.blocks => hp.goff (.inr ⟨n, hnm, e⟩))
 have p0 := cell_of_row hna.box 0
 have p1 := cell_of_row hna.box 1
 have zp := lt_of_block hna.box
 have zp1 : n.p < w.heap.size + 1 := by omega
 have zp2 : n.p < w.heap.size + 1 + 1 := by omega
 have zp3 : n.p < w.heap.size + 1 + 1 + 1 := by omega
 simp at p0 p1
 rw [hf] at la
 simp only [ptrN] at la
 rw [hfb] at lb
 simp only [ptrN] at lb
 have m9a : Mod (fun _ => False) w (w.alloc (.cells #[.int .u8 5, .int .u32 (a : Int), .int .u32 (b : Int), .int .u8 (key : Int), .int .u8 (vk : Int), .int .i64 vn, .string vs] 79)).drew.drew := m1.drew
 have m9b : Mod (fun _ => False) w (((w.alloc (.cells #[.int .u8 5, .int .u32 (a : Int), .int .u32 (b : Int), .int .u8 (key : Int), .int .u8 (vk : Int), .int .i64 vn, .string vs] 79)).alloc (.cells #[.int .u8 0, .int .i64 0, .string ⟨#[]⟩] 77)).drew.drew) := (((Mod.refl _ w).alloc _).alloc _).drew.drew
 have he1 := hna.edge m9a ho.b
 have he2 := hna.edge m9b ho.b
 rw [hx] at he1 he2
 simp only [valO, Option.isSome_none] at he1 he2
 have HM9 := Lib.hid m9b
 clear hp hL ho hf hx m1 hna hnm hni m9a m9b hfb
 go_enter Tryz.func72, Tryz.ntmps72
 go_wp2_with fail
 go_region
 go_wp2_with fail
 go_region
 all_goals
   go_wp2_with (go_at_call 87; refine (refusal_any 6 pos _ _ (by rfl)).mono ?_; (rintro e w9 ⟨rfl, rfl⟩))
   go_ret2
   exact RunP.no HONE.out (by omega) (RunNO.made HM9.out (by simp))
set_option maxRecDepth 100000 in
set_option maxHeartbeats 4000000 in
theorem run_5b (g bm : Nat) (ns : List Node) (a b key vk : Nat) (vn : Int) (vs : ByteArray) (pos : Int) (w : World) (hp : PG w g bm ns) (hL : Good (ns.map Node.x)) (ho : Opr.Fits ⟨5, a, b, key, ⟨vk, vn, vs⟩⟩) (n u : Node) (ek : Nat) (en : Int) (es : ByteArray) (hf : findN ns a = some n) (hfb : findN ns b = some u) (hx : entX n.x.halves b = some ⟨ek, en, es⟩) :
   Calls Tryz.prog 72 #[.pointer (some ⟨g, 0, none⟩), .int .i64 pos, .agg #[.int .u8 5, .int .u32 (a : Int), .int .u32 (b : Int), .int .u8 (key : Int), .int .u8 (vk : Int), .int .i64 vn, .string vs]] w (RunP g bm ns ⟨5, a, b, key, ⟨vk, vn, vs⟩⟩ pos w) := by
 have HONE : Hid (oneG (ns.map Node.x) ⟨5, a, b, key, ⟨vk, vn, vs⟩⟩ = ⟨7, ns.map Node.x, []⟩) := Lib.hid (by unfold oneG; simp only [findN_map, hf, hfb, Option.map_some, Option.map_none, Nat.reduceEqDiff, if_false, if_true, hx, Option.isSome_none, Option.isSome_some, Bool.false_eq_true])
 have HP := Lib.hid hp
 have HL := Lib.hid hL
 have HO := Lib.hid ho
 have g0 := cell_of_row hp.cell 0
 have zg := lt_of_block hp.cell
 have zg1 : g < w.heap.size + 1 := by omega
 have zg2 : g < w.heap.size + 1 + 1 := by omega
 have zg3 : g < w.heap.size + 1 + 1 + 1 := by omega
 simp at g0
 have m1 : Mod (fun _ => False) w (w.alloc (.cells #[.int .u8 5, .int .u32 (a : Int), .int .u32 (b : Int), .int .u8 (key : Int), .int .u8 (vk : Int), .int .i64 vn, .string vs] 79)).drew := ((Mod.refl _ _).alloc _).drew
 have HM1 := Lib.hid m1
 have la := hp.nm.look m1 ho.a
 have lb := hp.nm.look m1 ho.b
 obtain ⟨hnm, hni⟩ := findN_mem hf
 have hna := hp.nm.each n hnm
 have HNM := Lib.hid hnm
 have HNI := Lib.hid hni
 have HNA := Lib.hid hna
 have HOW := Lib.hid (hp.nm.own n hnm)
 have HOF := Lib.hid (fun e : g ∈ n.blocks => hp.goff (.inr ⟨n, hnm, e⟩))
 have p0 := cell_of_row hna.box 0
 have p1 := cell_of_row hna.box 1
 have zp := lt_of_block hna.box
 have zp1 : n.p < w.heap.size + 1 := by omega
 have zp2 : n.p < w.heap.size + 1 + 1 := by omega
 have zp3 : n.p < w.heap.size + 1 + 1 + 1 := by omega
 simp at p0 p1
 rw [hf] at la
 simp only [ptrN] at la
 rw [hfb] at lb
 simp only [ptrN] at lb
 have m9a : Mod (fun _ => False) w (w.alloc (.cells #[.int .u8 5, .int .u32 (a : Int), .int .u32 (b : Int), .int .u8 (key : Int), .int .u8 (vk : Int), .int .i64 vn, .string vs] 79)).drew.drew := m1.drew
 have m9b : Mod (fun _ => False) w (((w.alloc (.cells #[.int .u8 5, .int .u32 (a : Int), .int .u32 (b : Int), .int .u8 (key : Int), .int .u8 (vk : Int), .int .i64 vn, .string vs] 79)).alloc (.cells #[.int .u8 0, .int .i64 0, .string ⟨#[]⟩] 77)).drew.drew) := (((Mod.refl _ w).alloc _).alloc _).drew.drew
 have he1 := hna.edge m9a ho.b
 have he2 := hna.edge m9b ho.b
 rw [hx] at he1 he2
 simp only [valO, Option.isSome_some] at he1 he2
 have m9e : Mod (fun _ => False) w (((w.alloc (.cells #[.int .u8 5, .int .u32 (a : Int), .int .u32 (b : Int), .int .u8 (key : Int), .int .u8 (vk : Int), .int .i64 vn, .string vs] 79)).alloc (.cells #[.int .u8 (ek : Int), .int .i64 en, .string es] 77)).drew.drew) := (((Mod.refl _ w).alloc _).alloc _).drew.drew
 have HM9 := Lib.hid m9e
 clear hp hL ho hf hx m1 hna hnm hni m9a m9b hfb m9e
 go_enter Tryz.func72, Tryz.ntmps72
 go_wp2_with fail
 go_region
 go_wp2_with fail
 go_region
 all_goals
   go_wp2_with (go_at_call 87; refine (refusal_any 7 pos _ _ (by rfl)).mono ?_; (rintro e w9 ⟨rfl, rfl⟩))
   go_ret2
   exact RunP.no HONE.out (by omega) (RunNO.made HM9.out (by simp))
set_option maxRecDepth 100000 in
set_option maxHeartbeats 4000000 in
theorem run_5c (g bm : Nat) (ns : List Node) (a b key vk : Nat) (vn : Int) (vs : ByteArray) (pos : Int) (w : World) (hp : PG w g bm ns) (hL : Good (ns.map Node.x)) (ho : Opr.Fits ⟨5, a, b, key, ⟨vk, vn, vs⟩⟩) (n u : Node) (hf : findN ns a = some n) (hfb : findN ns b = some u) (hx : entX n.x.halves b = none) (hd : 16 ≤ n.x.halves.length) :
   Calls Tryz.prog 72 #[.pointer (some ⟨g, 0, none⟩), .int .i64 pos, .agg #[.int .u8 5, .int .u32 (a : Int), .int .u32 (b : Int), .int .u8 (key : Int), .int .u8 (vk : Int), .int .i64 vn, .string vs]] w (RunP g bm ns ⟨5, a, b, key, ⟨vk, vn, vs⟩⟩ pos w) := by
 have HONE : Hid (oneG (ns.map Node.x) ⟨5, a, b, key, ⟨vk, vn, vs⟩⟩ = ⟨10, ns.map Node.x, []⟩) := Lib.hid (by
   unfold oneG
   simp only [findN_map, hf, hfb, Option.map_some, Option.map_none, Nat.reduceEqDiff, if_false, if_true, hx, Option.isSome_none, Option.isSome_some, Bool.false_eq_true]
   rw [if_pos (by exact .inl hd)])
 have HP := Lib.hid hp
 have HL := Lib.hid hL
 have HO := Lib.hid ho
 have g0 := cell_of_row hp.cell 0
 have zg := lt_of_block hp.cell
 have zg1 : g < w.heap.size + 1 := by omega
 have zg2 : g < w.heap.size + 1 + 1 := by omega
 have zg3 : g < w.heap.size + 1 + 1 + 1 := by omega
 simp at g0
 have m1 : Mod (fun _ => False) w (w.alloc (.cells #[.int .u8 5, .int .u32 (a : Int), .int .u32 (b : Int), .int .u8 (key : Int), .int .u8 (vk : Int), .int .i64 vn, .string vs] 79)).drew := ((Mod.refl _ _).alloc _).drew
 have HM1 := Lib.hid m1
 have la := hp.nm.look m1 ho.a
 have lb := hp.nm.look m1 ho.b
 obtain ⟨hnm, hni⟩ := findN_mem hf
 have hna := hp.nm.each n hnm
 have HNM := Lib.hid hnm
 have HNI := Lib.hid hni
 have HNA := Lib.hid hna
 have HOW := Lib.hid (hp.nm.own n hnm)
 have HOF := Lib.hid (fun e : g ∈ n.blocks => hp.goff (.inr ⟨n, hnm, e⟩))
 have p0 := cell_of_row hna.box 0
 have p1 := cell_of_row hna.box 1
 have zp := lt_of_block hna.box
 have zp1 : n.p < w.heap.size + 1 := by omega
 have zp2 : n.p < w.heap.size + 1 + 1 := by omega
 have zp3 : n.p < w.heap.size + 1 + 1 + 1 := by omega
 simp at p0 p1
 rw [hf] at la
 simp only [ptrN] at la
 rw [hfb] at lb
 simp only [ptrN] at lb
 have m9a : Mod (fun _ => False) w (w.alloc (.cells #[.int .u8 5, .int .u32 (a : Int), .int .u32 (b : Int), .int .u8 (key : Int), .int .u8 (vk : Int), .int .i64 vn, .string vs] 79)).drew.drew := m1.drew
 have m9b : Mod (fun _ => False) w (((w.alloc (.cells #[.int .u8 5, .int .u32 (a : Int), .int .u32 (b : Int), .int .u8 (key : Int), .int .u8 (vk : Int), .int .i64 vn, .string vs] 79)).alloc (.cells #[.int .u8 0, .int .i64 0, .string ⟨#[]⟩] 77)).drew.drew) := (((Mod.refl _ w).alloc _).alloc _).drew.drew
 have he1 := hna.edge m9a ho.b
 have he2 := hna.edge m9b ho.b
 rw [hx] at he1 he2
 simp only [valO, Option.isSome_none] at he1 he2
 obtain ⟨hum, hui⟩ := findN_mem hfb
 have hua := hp.nm.each u hum
 have y0 := cell_of_row hua.box 0
 have y1 := cell_of_row hua.box 1
 have zu := lt_of_block hua.box
 have zu1 : u.p < w.heap.size + 1 := by omega
 have zu2 : u.p < w.heap.size + 1 + 1 := by omega
 have zu3 : u.p < w.heap.size + 1 + 1 + 1 := by omega
 simp at y0 y1
 have hl := hna.deg m9b 3
 have hlu := hua.deg m9b 3
 obtain ⟨d, hdd⟩ : ∃ d, d = n.x.halves.length := ⟨_, rfl⟩
 rw [← hdd] at hl
 obtain ⟨f, hff⟩ : ∃ f, f = u.x.halves.length := ⟨_, rfl⟩
 rw [← hff] at hlu
 rw [← hdd] at hd
 have hd' : (16 : Int) ≤ (d : Int) := by omega
 have HM9 := Lib.hid m9b
 clear hp hL ho hf hx m1 hna hnm hni m9a m9b hfb hua hum hui hdd hff hd
 go_enter Tryz.func72, Tryz.ntmps72
 go_wp2_with fail
 go_region
 go_wp2_with fail
 go_region
 all_goals
   go_wp2_with (go_at_call 87; refine (refusal_any 10 pos _ _ (by rfl)).mono ?_; (rintro e w9 ⟨rfl, rfl⟩))
   go_ret2
   exact RunP.no HONE.out (by omega) (RunNO.made HM9.out (by simp))
set_option maxRecDepth 100000 in
set_option maxHeartbeats 4000000 in
theorem run_5e (g bm : Nat) (ns : List Node) (a b key vk : Nat) (vn : Int) (vs : ByteArray) (pos : Int) (w : World) (hp : PG w g bm ns) (hL : Good (ns.map Node.x)) (ho : Opr.Fits ⟨5, a, b, key, ⟨vk, vn, vs⟩⟩) (n u : Node) (hf : findN ns a = some n) (hfb : findN ns b = some u) (hx : entX n.x.halves b = none) (hd : ¬ 16 ≤ n.x.halves.length) (hd2 : 16 ≤ u.x.halves.length) :
   Calls Tryz.prog 72 #[.pointer (some ⟨g, 0, none⟩), .int .i64 pos, .agg #[.int .u8 5, .int .u32 (a : Int), .int .u32 (b : Int), .int .u8 (key : Int), .int .u8 (vk : Int), .int .i64 vn, .string vs]] w (RunP g bm ns ⟨5, a, b, key, ⟨vk, vn, vs⟩⟩ pos w) := by
 have HONE : Hid (oneG (ns.map Node.x) ⟨5, a, b, key, ⟨vk, vn, vs⟩⟩ = ⟨10, ns.map Node.x, []⟩) := Lib.hid (by
   unfold oneG
   simp only [findN_map, hf, hfb, Option.map_some, Option.map_none, Nat.reduceEqDiff, if_false, if_true, hx, Option.isSome_none, Option.isSome_some, Bool.false_eq_true]
   rw [if_pos (by exact .inr hd2)])
 have HP := Lib.hid hp
 have HL := Lib.hid hL
 have HO := Lib.hid ho
 have g0 := cell_of_row hp.cell 0
 have zg := lt_of_block hp.cell
 have zg1 : g < w.heap.size + 1 := by omega
 have zg2 : g < w.heap.size + 1 + 1 := by omega
 have zg3 : g < w.heap.size + 1 + 1 + 1 := by omega
 simp at g0
 have m1 : Mod (fun _ => False) w (w.alloc (.cells #[.int .u8 5, .int .u32 (a : Int), .int .u32 (b : Int), .int .u8 (key : Int), .int .u8 (vk : Int), .int .i64 vn, .string vs] 79)).drew := ((Mod.refl _ _).alloc _).drew
 have HM1 := Lib.hid m1
 have la := hp.nm.look m1 ho.a
 have lb := hp.nm.look m1 ho.b
 obtain ⟨hnm, hni⟩ := findN_mem hf
 have hna := hp.nm.each n hnm
 have HNM := Lib.hid hnm
 have HNI := Lib.hid hni
 have HNA := Lib.hid hna
 have HOW := Lib.hid (hp.nm.own n hnm)
 have HOF := Lib.hid (fun e : g ∈ n.blocks => hp.goff (.inr ⟨n, hnm, e⟩))
 have p0 := cell_of_row hna.box 0
 have p1 := cell_of_row hna.box 1
 have zp := lt_of_block hna.box
 have zp1 : n.p < w.heap.size + 1 := by omega
 have zp2 : n.p < w.heap.size + 1 + 1 := by omega
 have zp3 : n.p < w.heap.size + 1 + 1 + 1 := by omega
 simp at p0 p1
 rw [hf] at la
 simp only [ptrN] at la
 rw [hfb] at lb
 simp only [ptrN] at lb
 have m9a : Mod (fun _ => False) w (w.alloc (.cells #[.int .u8 5, .int .u32 (a : Int), .int .u32 (b : Int), .int .u8 (key : Int), .int .u8 (vk : Int), .int .i64 vn, .string vs] 79)).drew.drew := m1.drew
 have m9b : Mod (fun _ => False) w (((w.alloc (.cells #[.int .u8 5, .int .u32 (a : Int), .int .u32 (b : Int), .int .u8 (key : Int), .int .u8 (vk : Int), .int .i64 vn, .string vs] 79)).alloc (.cells #[.int .u8 0, .int .i64 0, .string ⟨#[]⟩] 77)).drew.drew) := (((Mod.refl _ w).alloc _).alloc _).drew.drew
 have he1 := hna.edge m9a ho.b
 have he2 := hna.edge m9b ho.b
 rw [hx] at he1 he2
 simp only [valO, Option.isSome_none] at he1 he2
 obtain ⟨hum, hui⟩ := findN_mem hfb
 have hua := hp.nm.each u hum
 have y0 := cell_of_row hua.box 0
 have y1 := cell_of_row hua.box 1
 have zu := lt_of_block hua.box
 have zu1 : u.p < w.heap.size + 1 := by omega
 have zu2 : u.p < w.heap.size + 1 + 1 := by omega
 have zu3 : u.p < w.heap.size + 1 + 1 + 1 := by omega
 simp at y0 y1
 have hl := hna.deg m9b 3
 have hlu := hua.deg m9b 3
 obtain ⟨d, hdd⟩ : ∃ d, d = n.x.halves.length := ⟨_, rfl⟩
 rw [← hdd] at hl
 obtain ⟨f, hff⟩ : ∃ f, f = u.x.halves.length := ⟨_, rfl⟩
 rw [← hff] at hlu
 rw [← hdd] at hd
 rw [← hff] at hd2
 have hd' : ¬ (16 : Int) ≤ (d : Int) := by omega
 have hd3 : (16 : Int) ≤ (f : Int) := by omega
 have HM9 := Lib.hid m9b
 clear hp hL ho hf hx m1 hna hnm hni m9a m9b hfb hua hum hui hdd hff hd hd2
 go_enter Tryz.func72, Tryz.ntmps72
 go_wp2_with fail
 go_region
 go_wp2_with fail
 go_region
 all_goals
   go_wp2_with (go_at_call 87; refine (refusal_any 10 pos _ _ (by rfl)).mono ?_; (rintro e w9 ⟨rfl, rfl⟩))
   go_ret2
   exact RunP.no HONE.out (by omega) (RunNO.made HM9.out (by simp))
end Go.Proofs.YtpigipgoopeeoaaGreatDoor
