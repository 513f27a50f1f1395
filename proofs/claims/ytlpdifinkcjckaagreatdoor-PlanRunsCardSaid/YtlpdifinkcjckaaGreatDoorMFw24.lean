import Derived.Test.YtlpdifinkcjckaaGreatDoorMFw23
set_option linter.unusedVariables false
set_option linter.unusedSimpArgs false
namespace Go.Proofs.YtlpdifinkcjckaaGreatDoor
open Go.RowKit Go.Maps
set_option maxRecDepth 100000 in
set_option maxHeartbeats 4000000 in
theorem run_6a (g bm : Nat) (ns : List Node) (a b key vk : Nat) (vn : Int) (vs : ByteArray) (pos : Int) (w : World) (hp : PG w g bm ns) (hL : Fair (ns.map Node.x)) (ho : Opr.Fits ⟨6, a, b, key, ⟨vk, vn, vs⟩⟩) (n : Node) (hf : findN ns a = some n) (hx : entX n.x.halves b = none) :
   Calls Tryz.prog 56 #[.pointer (some ⟨g, 0, none⟩), .int .i64 pos, .agg #[.int .u8 6, .int .u32 (a : Int), .int .u32 (b : Int), .int .u8 (key : Int), .int .u8 (vk : Int), .int .i64 vn, .string vs]] w (RunP g bm ns ⟨6, a, b, key, ⟨vk, vn, vs⟩⟩ pos w) := by
 have HONE : Hid (oneG (ns.map Node.x) ⟨6, a, b, key, ⟨vk, vn, vs⟩⟩ = ⟨6, ns.map Node.x, []⟩) := Lib.hid (by unfold oneG; simp only [findN_map, hf, Option.map_some, Nat.reduceEqDiff, if_false, if_true, hx, or_false, false_or, or_true, true_or])
 have HP := Lib.hid hp
 have HL := Lib.hid hL
 have HO := Lib.hid ho
 have g0 := cell_of_row hp.cell 0
 have zg := lt_of_block hp.cell
 have zg1 : g < w.heap.size + 1 := by omega
 have zg2 : g < w.heap.size + 1 + 1 := by omega
 have zg3 : g < w.heap.size + 1 + 1 + 1 := by omega
 simp at g0
 have m1 : Mod (fun _ => False) w (w.alloc (.cells #[.int .u8 6, .int .u32 (a : Int), .int .u32 (b : Int), .int .u8 (key : Int), .int .u8 (vk : Int), .int .i64 vn, .string vs] 82)).drew := ((Mod.refl _ _).alloc _).drew
 have HM1 := Lib.hid m1
 have la := hp.nm.look m1 ho.a
 have lb := hp.nm.look m1 ho.b
 obtain ⟨hnm, hni⟩ := findN_mem hf
 have hna := hp.nm.each n hnm
 have HNM := Lib.hid hnm
 have HNI := Lib.hid hni
 have HNA := Lib.hid hna
 have HOW := Lib.hid (hp.nm.own n hnm)
 have HOF := Lib.hid (fun e : g ∈ n.blocks => hp.goff (.inr ⟨n, hnm, e⟩))
 have p0 := cell_of_row hna.box 0
 have p1 := cell_of_row hna.box 1
 have zp := lt_of_block hna.box
 have zp1 : n.p < w.heap.size + 1 := by omega
 have zp2 : n.p < w.heap.size + 1 + 1 := by omega
 have zp3 : n.p < w.heap.size + 1 + 1 + 1 := by omega
 simp at p0 p1
 rw [hf] at la
 simp only [ptrN] at la
 generalize ptrN (findN ns b) = pb at lb
 have m9a : Mod (fun _ => False) w (w.alloc (.cells #[.int .u8 6, .int .u32 (a : Int), .int .u32 (b : Int), .int .u8 (key : Int), .int .u8 (vk : Int), .int .i64 vn, .string vs] 82)).drew.drew := m1.drew
 have m9b : Mod (fun _ => False) w (((w.alloc (.cells #[.int .u8 6, .int .u32 (a : Int), .int .u32 (b : Int), .int .u8 (key : Int), .int .u8 (vk : Int), .int .i64 vn, .string vs] 82)).alloc (.cells #[.int .u8 0, .int .i64 0, .string ⟨#[]⟩] 68)).drew.drew) := (((Mod.refl _ w).alloc _).alloc _).drew.drew
 have he1 := hna.edge m9a ho.b
 have he2 := hna.edge m9b ho.b
 rw [hx] at he1 he2
 simp only [valO, Option.isSome_none] at he1 he2
 have HM9 := Lib.hid m9b
 clear hp hL ho hf hx m1 hna hnm hni m9a m9b
 go_enter Tryz.func56, Tryz.ntmps56
 go_wp2_with fail
 go_region
 go_wp2_with fail
 go_region
 all_goals
   go_wp2_with (go_at_call 83; refine (refusal_any 6 pos _ _ (by rfl)).mono ?_; (rintro e w9 ⟨rfl, rfl⟩))
   go_ret2
   exact RunP.no HONE.out (by omega) (RunNO.made HM9.out (by simp))
set_option maxRecDepth 100000 in
set_option maxHeartbeats 4000000 in
theorem run_7a (g bm : Nat) (ns : List Node) (a b key vk : Nat) (vn : Int) (vs : ByteArray) (pos : Int) (w : World) (hp : PG w g bm ns) (hL : Fair (ns.map Node.x)) (ho : Opr.Fits ⟨7, a, b, key, ⟨vk, vn, vs⟩⟩) (n : Node) (hf : findN ns a = some n) (hx : entX n.x.halves b = none) :
   Calls Tryz.prog 56 #[.pointer (some ⟨g, 0, none⟩), .int .i64 pos, .agg #[.int .u8 7, .int .u32 (a : Int), .int .u32 (b : Int), .int .u8 (key : Int), .int .u8 (vk : Int), .int .i64 vn, .string vs]] w (RunP g bm ns ⟨7, a, b, key, ⟨vk, vn, vs⟩⟩ pos w) := by
 have HONE : Hid (oneG (ns.map Node.x) ⟨7, a, b, key, ⟨vk, vn, vs⟩⟩ = ⟨6, ns.map Node.x, []⟩) := Lib.hid (by unfold oneG; simp only [findN_map, hf, Option.map_some, Nat.reduceEqDiff, if_false, if_true, hx, or_false, false_or, or_true, true_or])
 have HP := Lib.hid hp
 have HL := Lib.hid hL
 have HO := Lib.hid ho
 have g0 := cell_of_row hp.cell 0
 have zg := lt_of_block hp.cell
 have zg1 : g < w.heap.size + 1 := by omega
 have zg2 : g < w.heap.size + 1 + 1 := by omega
 have zg3 : g < w.heap.size + 1 + 1 + 1 := by omega
 simp at g0
 have m1 : Mod (fun _ => False) w (w.alloc (.cells #[.int .u8 7, .int .u32 (a : Int), .int .u32 (b : Int), .int .u8 (key : Int), .int .u8 (vk : Int), .int .i64 vn, .string vs] 82)).drew := ((Mod.refl _ _).alloc _).drew
 have HM1 := Lib.hid m1
 have la := hp.nm.look m1 ho.a
 have lb := hp.nm.look m1 ho.b
 obtain ⟨hnm, hni⟩ := findN_mem hf
 have hna := hp.nm.each n hnm
 have HNM := Lib.hid hnm
 have HNI := Lib.hid hni
 have HNA := Lib.hid hna
 have HOW := Lib.hid (hp.nm.own n hnm)
 have HOF := Lib.hid (fun e : g ∈ n.blocks => hp.goff (.inr ⟨n, hnm, e⟩))
 have p0 := cell_of_row hna.box 0
 have p1 := cell_of_row hna.box 1
 have zp := lt_of_block hna.box
 have zp1 : n.p < w.heap.size + 1 := by omega
 have zp2 : n.p < w.heap.size + 1 + 1 := by omega
 have zp3 : n.p < w.heap.size + 1 + 1 + 1 := by omega
 simp at p0 p1
 rw [hf] at la
 simp only [ptrN] at la
 generalize ptrN (findN ns b) = pb at lb
 have m9a : Mod (fun _ => False) w (w.alloc (.cells #[.int .u8 7, .int .u32 (a : Int), .int .u32 (b : Int), .int .u8 (key : Int), .int .u8 (vk : Int), .int .i64 vn, .string vs] 82)).drew.drew := m1.drew
 have m9b : Mod (fun _ => False) w (((w.alloc (.cells #[.int .u8 7, .int .u32 (a : Int), .int .u32 (b : Int), .int .u8 (key : Int), .int .u8 (vk : Int), .int .i64 vn, .string vs] 82)).alloc (.cells #[.int .u8 0, .int .i64 0, .string ⟨#[]⟩] 68)).drew.drew) := (((Mod.refl _ w).alloc _).alloc _).drew.drew
 have he1 := hna.edge m9a ho.b
 have he2 := hna.edge m9b ho.b
 rw [hx] at he1 he2
 simp only [valO, Option.isSome_none] at he1 he2
 have HM9 := Lib.hid m9b
 clear hp hL ho hf hx m1 hna hnm hni m9a m9b
 go_enter Tryz.func56, Tryz.ntmps56
 go_wp2_with fail
 go_region
 go_wp2_with fail
 go_region
 all_goals
   go_wp2_with (go_at_call 83; refine (refusal_any 6 pos _ _ (by rfl)).mono ?_; (rintro e w9 ⟨rfl, rfl⟩))
   go_ret2
   exact RunP.no HONE.out (by omega) (RunNO.made HM9.out (by simp))
set_option maxRecDepth 100000 in
set_option maxHeartbeats 4000000 in
theorem run_7b (g bm : Nat) (ns : List Node) (a b key vk : Nat) (vn : Int) (vs : ByteArray) (pos : Int) (w : World) (hp : PG w g bm ns) (hL : Fair (ns.map Node.x)) (ho : Opr.Fits ⟨7, a, b, key, ⟨vk, vn, vs⟩⟩) (n : Node) (ek : Nat) (en : Int) (es : ByteArray) (hf : findN ns a = some n) (hx : entX n.x.halves b = some ⟨ek, en, es⟩) :
   Calls Tryz.prog 56 #[.pointer (some ⟨g, 0, none⟩), .int .i64 pos, .agg #[.int .u8 7, .int .u32 (a : Int), .int .u32 (b : Int), .int .u8 (key : Int), .int .u8 (vk : Int), .int .i64 vn, .string vs]] w (RunP g bm ns ⟨7, a, b, key, ⟨vk, vn, vs⟩⟩ pos w) := by
 have HONE : Hid (oneG (ns.map Node.x) ⟨7, a, b, key, ⟨vk, vn, vs⟩⟩ = ⟨0, ns.map Node.x, [⟨ek, en, es⟩]⟩) := Lib.hid (by unfold oneG; simp only [findN_map, hf, Option.map_some, Nat.reduceEqDiff, if_false, if_true, hx, or_false, false_or, or_true, true_or])
 have HP := Lib.hid hp
 have HL := Lib.hid hL
 have HO := Lib.hid ho
 have g0 := cell_of_row hp.cell 0
 have zg := lt_of_block hp.cell
 have zg1 : g < w.heap.size + 1 := by omega
 have zg2 : g < w.heap.size + 1 + 1 := by omega
 have zg3 : g < w.heap.size + 1 + 1 + 1 := by omega
 simp at g0
 have m1 : Mod (fun _ => False) w (w.alloc (.cells #[.int .u8 7, .int .u32 (a : Int), .int .u32 (b : Int), .int .u8 (key : Int), .int .u8 (vk : Int), .int .i64 vn, .string vs] 82)).drew := ((Mod.refl _ _).alloc _).drew
 have HM1 := Lib.hid m1
 have la := hp.nm.look m1 ho.a
 have lb := hp.nm.look m1 ho.b
 obtain ⟨hnm, hni⟩ := findN_mem hf
 have hna := hp.nm.each n hnm
 have HNM := Lib.hid hnm
 have HNI := Lib.hid hni
 have HNA := Lib.hid hna
 have HOW := Lib.hid (hp.nm.own n hnm)
 have HOF := Lib.hid (fun e : g ∈ n.blocks => hp.goff (.inr ⟨n, hnm, e⟩))
 have p0 := cell_of_row hna.box 0
 have p1 := cell_of_row hna.box 1
 have zp := lt_of_block hna.box
 have zp1 : n.p < w.heap.size + 1 := by omega
 have zp2 : n.p < w.heap.size + 1 + 1 := by omega
 have zp3 : n.p < w.heap.size + 1 + 1 + 1 := by omega
 simp at p0 p1
 rw [hf] at la
 simp only [ptrN] at la
 generalize ptrN (findN ns b) = pb at lb
 have m9a : Mod (fun _ => False) w (w.alloc (.cells #[.int .u8 7, .int .u32 (a : Int), .int .u32 (b : Int), .int .u8 (key : Int), .int .u8 (vk : Int), .int .i64 vn, .string vs] 82)).drew.drew := m1.drew
 have m9b : Mod (fun _ => False) w (((w.alloc (.cells #[.int .u8 7, .int .u32 (a : Int), .int .u32 (b : Int), .int .u8 (key : Int), .int .u8 (vk : Int), .int .i64 vn, .string vs] 82)).alloc (.cells #[.int .u8 0, .int .i64 0, .string ⟨#[]⟩] 68)).drew.drew) := (((Mod.refl _ w).alloc _).alloc _).drew.drew
 have he1 := hna.edge m9a ho.b
 have he2 := hna.edge m9b ho.b
 rw [hx] at he1 he2
 simp only [valO, Option.isSome_some] at he1 he2
 have m9e : Mod (fun _ => False) w (((w.alloc (.cells #[.int .u8 7, .int .u32 (a : Int), .int .u32 (b : Int), .int .u8 (key : Int), .int .u8 (vk : Int), .int .i64 vn, .string vs] 82)).alloc (.cells #[.int .u8 (ek : Int), .int .i64 en, .string es] 68)).drew.drew) := (((Mod.refl _ w).alloc _).alloc _).drew.drew
 have HM9 := Lib.hid m9e
 clear hp hL ho hf hx m1 hna hnm hni m9a m9b m9e
 go_enter Tryz.func56, Tryz.ntmps56
 go_wp2_with fail
 go_region
 go_wp2_with fail
 go_region
 all_goals
   go_wp2_with fail
   go_ret2
   refine RunP.ok HONE.out ⟨_, _, rfl, Turned.idle HP.out (by repeat (first | exact Mod.refl _ _ | apply Mod.drew | apply Mod.alloc)) _, ?_⟩
   have h := rd_lit (((w.alloc (.cells #[.int .u8 7, .int .u32 (a : Int), .int .u32 (b : Int), .int .u8 (key : Int), .int .u8 (vk : Int), .int .i64 vn, .string vs] 82)).alloc (.cells #[.int .u8 (ek : Int), .int .i64 en, .string es] 68)).drew.drew) 68 #[.int .u8 (ek : Int), .int .i64 en, .string es] 1 3 (w.heap.size + 1 + 1) (by simp) rfl (by unfold maxLen; omega) (by simp [Value.oneCell'])
   exact h
set_option maxRecDepth 100000 in
set_option maxHeartbeats 4000000 in
theorem run_6b (g bm : Nat) (ns : List Node) (a b key vk : Nat) (vn : Int) (vs : ByteArray) (pos : Int) (w : World) (hp : PG w g bm ns) (hL : Fair (ns.map Node.x)) (ho : Opr.Fits ⟨6, a, b, key, ⟨vk, vn, vs⟩⟩) (n u : Node) (ek : Nat) (en : Int) (es : ByteArray) (hf : findN ns a = some n) (hfb : findN ns b = some u) (hx : entX n.x.halves b = some ⟨ek, en, es⟩) (hab : a ≠ b) :
   Calls Tryz.prog 56 #[.pointer (some ⟨g, 0, none⟩), .int .i64 pos, .agg #[.int .u8 6, .int .u32 (a : Int), .int .u32 (b : Int), .int .u8 (key : Int), .int .u8 (vk : Int), .int .i64 vn, .string vs]] w (RunP g bm ns ⟨6, a, b, key, ⟨vk, vn, vs⟩⟩ pos w) := by
 have HONE : Hid (oneG (ns.map Node.x) ⟨6, a, b, key, ⟨vk, vn, vs⟩⟩ = ⟨0, layV (setH u.x a noVal false) (layV (setH n.x b noVal false) (ns.map Node.x)), []⟩) := Lib.hid (by unfold oneG; simp only [findN_map, hf, Option.map_some, Nat.reduceEqDiff, if_false, if_true, hx, or_false, false_or, or_true, true_or, hfb])
 have HP := Lib.hid hp
 have HL := Lib.hid hL
 have HO := Lib.hid ho
 have g0 := cell_of_row hp.cell 0
 have zg := lt_of_block hp.cell
 have zg1 : g < w.heap.size + 1 := by omega
 have zg2 : g < w.heap.size + 1 + 1 := by omega
 have zg3 : g < w.heap.size + 1 + 1 + 1 := by omega
 simp at g0
 have m1 : Mod (fun _ => False) w (w.alloc (.cells #[.int .u8 6, .int .u32 (a : Int), .int .u32 (b : Int), .int .u8 (key : Int), .int .u8 (vk : Int), .int .i64 vn, .string vs] 82)).drew := ((Mod.refl _ _).alloc _).drew
 have HM1 := Lib.hid m1
 have la := hp.nm.look m1 ho.a
 have lb := hp.nm.look m1 ho.b
 obtain ⟨hnm, hni⟩ := findN_mem hf
 have hna := hp.nm.each n hnm
 have HNM := Lib.hid hnm
 have HNI := Lib.hid hni
 have HNA := Lib.hid hna
 have HOW := Lib.hid (hp.nm.own n hnm)
 have HOF := Lib.hid (fun e : g ∈ n.blocks => hp.goff (.inr ⟨n, hnm, e⟩))
 have p0 := cell_of_row hna.box 0
 have p1 := cell_of_row hna.box 1
 have zp := lt_of_block hna.box
 have zp1 : n.p < w.heap.size + 1 := by omega
 have zp2 : n.p < w.heap.size + 1 + 1 := by omega
 have zp3 : n.p < w.heap.size + 1 + 1 + 1 := by omega
 simp at p0 p1
 rw [hf] at la
 simp only [ptrN] at la
 rw [hfb] at lb
 simp only [ptrN] at lb
 have m9a : Mod (fun _ => False) w (w.alloc (.cells #[.int .u8 6, .int .u32 (a : Int), .int .u32 (b : Int), .int .u8 (key : Int), .int .u8 (vk : Int), .int .i64 vn, .string vs] 82)).drew.drew := m1.drew
 have m9b : Mod (fun _ => False) w (((w.alloc (.cells #[.int .u8 6, .int .u32 (a : Int), .int .u32 (b : Int), .int .u8 (key : Int), .int .u8 (vk : Int), .int .i64 vn, .string vs] 82)).alloc (.cells #[.int .u8 0, .int .i64 0, .string ⟨#[]⟩] 68)).drew.drew) := (((Mod.refl _ w).alloc _).alloc _).drew.drew
 have he1 := hna.edge m9a ho.b
 have he2 := hna.edge m9b ho.b
 rw [hx] at he1 he2
 simp only [valO, Option.isSome_some] at he1 he2
 obtain ⟨hum, hui⟩ := findN_mem hfb
 have hua := hp.nm.each u hum
 have y0 := cell_of_row hua.box 0
 have y1 := cell_of_row hua.box 1
 have zu := lt_of_block hua.box
 have zu1 : u.p < w.heap.size + 1 := by omega
 have zu2 : u.p < w.heap.size + 1 + 1 := by omega
 have zu3 : u.p < w.heap.size + 1 + 1 + 1 := by omega
 simp at y0 y1
 have m9e : Mod (fun _ => False) w (((w.alloc (.cells #[.int .u8 6, .int .u32 (a : Int), .int .u32 (b : Int), .int .u8 (key : Int), .int .u8 (vk : Int), .int .i64 vn, .string vs] 82)).alloc (.cells #[.int .u8 (ek : Int), .int .i64 en, .string es] 68)).drew.drew) := (((Mod.refl _ w).alloc _).alloc _).drew.drew
 have HM9 := Lib.hid m9e
 have hbx : (((w.alloc (.cells #[.int .u8 6, .int .u32 (a : Int), .int .u32 (b : Int), .int .u8 (key : Int), .int .u8 (vk : Int), .int .i64 vn, .string vs] 82)).alloc (.cells #[.int .u8 (ek : Int), .int .i64 en, .string es] 68)).drew.drew).drew.heap[w.heap.size]? = some (.cells #[.int .u8 6, .int .u32 (a : Int), .int .u32 (b : Int), .int .u8 (key : Int), .int .u8 (vk : Int), .int .i64 vn, .string vs] 82 (0, 0)) := by
   have m : Mod (fun _ => False) (w.alloc (.cells #[.int .u8 6, .int .u32 (a : Int), .int .u32 (b : Int), .int .u8 (key : Int), .int .u8 (vk : Int), .int .i64 vn, .string vs] 82)) (((w.alloc (.cells #[.int .u8 6, .int .u32 (a : Int), .int .u32 (b : Int), .int .u8 (key : Int), .int .u8 (vk : Int), .int .i64 vn, .string vs] 82)).alloc (.cells #[.int .u8 (ek : Int), .int .i64 en, .string es] 68)).drew.drew).drew := ((Mod.refl _ _).alloc _).drew.drew.drew
   exact m.heap (heap_alloc_new' w _) (fun f => f)
 have hsep : ∀ x ∈ n.blocks, x ∉ u.blocks := fun x h1 h2 => hab (by have := hp.nm.sep n hnm u hum x h1 h2; rw [← hni, this, hui])
 have hvg := hL.each n.x (List.mem_map_of_mem hnm)
 have hug := hL.each u.x (List.mem_map_of_mem hum)
 have s1 : u.me ≠ n.me := fun e => hsep n.me (by simp [Node.blocks]) (by simp [Node.blocks, e])
 have s2 : u.p ≠ n.me := fun e => hsep n.me (by simp [Node.blocks]) (by simp [Node.blocks, e])
 have s3 : u.mp ≠ n.me := fun e => hsep n.me (by simp [Node.blocks]) (by simp [Node.blocks, e])
 have s4 := hp.nm.own u hum
 have hml : n.me < w.heap.size := hna.edges.lt
 obtain ⟨w5, e5, U5, M5⟩ := (hna.edges.keep m9e.drew).drop Tryz.underlying27 Tryz.underlying102 (u32key ho.b) 0
 obtain ⟨w6, e6, U6, M6⟩ := ((hua.edges.keep m9e.drew).mod M5 s1).drew.drop Tryz.underlying27 Tryz.underlying102 (u32key ho.a) 0
 rw [delL_pents b noVal] at U5
 rw [delL_pents a noVal] at U6
 have hb5 := M5.heap hbx (by omega)
 have c0 := cell_of_row hb5 0
 have c1 := cell_of_row hb5 1
 have c2 := cell_of_row hb5 2
 have zc := lt_of_block hb5
 have hy5 := M5.heap (m9e.drew.heap hua.box (fun f => f)) s2
 have x0 := cell_of_row hy5 0
 have x1 := cell_of_row hy5 1
 have zx := lt_of_block hy5
 simp at c0 c1 c2 x0 x1
 have T1 : Turned g bm ns (layV (setH n.x b noVal false) (ns.map Node.x)) (fun k => k ≠ n.x.id) (((w.alloc (.cells #[.int .u8 6, .int .u32 (a : Int), .int .u32 (b : Int), .int .u8 (key : Int), .int .u8 (vk : Int), .int .i64 vn, .string vs] 82)).alloc (.cells #[.int .u8 (ek : Int), .int .i64 en, .string es] 68)).drew.drew).drew w5 (replN ⟨setH n.x b noVal false, n.p, n.mp, n.me⟩ ns) := Turned.repl (hp.keep m9e.drew) (n := ⟨setH n.x b noVal false, n.p, n.mp, n.me⟩) hnm rfl hvg.there rfl M5 (fun b e => .inr e) ⟨M5.heap (m9e.drew.heap hna.box (fun f => f)) HOW.out.2.1, (hna.props.keep m9e.drew).mod M5 HOW.out.2.2, U5, fits_setH hna.fit ho.b noVal_fits⟩
 have T1d := T1.keep (Mod.refl _ _) (Mod.refl _ w5).drew
 have hu1 : u ∈ replN ⟨setH n.x b noVal false, n.p, n.mp, n.me⟩ ns := List.mem_map.2 ⟨u, hum, by rw [if_neg (by show ¬ u.x.id = n.x.id; rw [hui, hni]; exact fun e => hab e.symm)]⟩
 have T2 := Turned.repl T1d.pg (n := ⟨setH u.x a noVal false, u.p, u.mp, u.me⟩) hu1 rfl hug.there rfl M6 (fun b e => .inr e) ⟨M6.heap (M5.drew.heap (m9e.drew.heap hua.box (fun f => f)) s2) s4.2.1, (((hua.props.keep m9e.drew).mod M5 s3).drew).mod M6 s4.2.2, U6, fits_setH hua.fit ho.a noVal_fits⟩
 rw [T1.is] at T2
 have HT : Hid (∃ ns', Turned g bm ns (layV (setH u.x a noVal false) (layV (setH n.x b noVal false) (ns.map Node.x))) (fun k => k ≠ a ∧ k ≠ b) w w6 ns') := Lib.hid ⟨_, (T1d.trans T2 (fun k hk => by rw [hni]; exact hk.1) (fun k hk => by rw [hui]; exact hk.2)).keep m9e.drew (Mod.refl _ _)⟩
 clear hp hL ho hf hx m1 hna hnm hni m9a m9b hfb hua hum hui hsep hvg hug s1 s2 s3 s4 hml M5 U5 U6 M6 hb5 hy5 hbx T1 T1d hu1 T2 hab m9e
 go_enter Tryz.func56, Tryz.ntmps56
 go_wp2_with fail
 go_region
 go_wp2_with fail
 go_region
 all_goals
   go_wp2_with fail
   go_region
   all_goals
     go_wp2_with fail
     go_region
     all_goals
       go_wp2_with fail
       go_ret2
       obtain ⟨ns', ht⟩ := HT.out
       exact RunP.ok HONE.out ⟨_, _, rfl, ht, RdS.none _ _⟩
open Go.RowKit Go.Maps
theorem Turned.weak' {w w1 : World} {g bm : Nat} {ns ns1 : List Node} {L1 : Gr} {o1 o2 : Nat → Prop} (a : Turned g bm ns L1 o1 w w1 ns1) (h : ∀ k, o2 k → o1 k) : Turned g bm ns L1 o2 w w1 ns1 :=
 ⟨a.pg, a.is, a.mod, a.new, a.newM, fun n hn => a.same n (h _ hn)⟩
set_option maxRecDepth 100000 in
set_option maxHeartbeats 4000000 in
theorem run_5f (g bm : Nat) (ns : List Node) (a b key vk : Nat) (vn : Int) (vs : ByteArray) (pos : Int) (w : World) (hp : PG w g bm ns) (hL : Fair (ns.map Node.x)) (ho : Opr.Fits ⟨5, a, b, key, ⟨vk, vn, vs⟩⟩) (n : Node) (ek : Nat) (en : Int) (es : ByteArray) (hf : findN ns a = some n) (hfb : findN ns b = none) (hx : entX n.x.halves b = some ⟨ek, en, es⟩) :
   Calls Tryz.prog 56 #[.pointer (some ⟨g, 0, none⟩), .int .i64 pos, .agg #[.int .u8 5, .int .u32 (a : Int), .int .u32 (b : Int), .int .u8 (key : Int), .int .u8 (vk : Int), .int .i64 vn, .string vs]] w (RunP g bm ns ⟨5, a, b, key, ⟨vk, vn, vs⟩⟩ pos w) := by
 have HONE : Hid (oneG (ns.map Node.x) ⟨5, a, b, key, ⟨vk, vn, vs⟩⟩ = ⟨6, ns.map Node.x, []⟩) := Lib.hid (by unfold oneG; simp only [findN_map, hf, hfb, Option.map_some, Option.map_none, Nat.reduceEqDiff, if_false, if_true, hx, Option.isSome_none, Option.isSome_some, Bool.false_eq_true])
 have HP := Lib.hid hp
 have HL := Lib.hid hL
 have HO := Lib.hid ho
 have g0 := cell_of_row hp.cell 0
 have zg := lt_of_block hp.cell
 have zg1 : g < w.heap.size + 1 := by omega
 have zg2 : g < w.heap.size + 1 + 1 := by omega
 have zg3 : g < w.heap.size + 1 + 1 + 1 := by omega
 simp at g0
 have m1 : Mod (fun _ => False) w (w.alloc (.cells #[.int .u8 5, .int .u32 (a : Int), .int .u32 (b : Int), .int .u8 (key : Int), .int .u8 (vk : Int), .int .i64 vn, .string vs] 82)).drew := ((Mod.refl _ _).alloc _).drew
 have HM1 := Lib.hid m1
 have la := hp.nm.look m1 ho.a
 have lb := hp.nm.look m1 ho.b
 obtain ⟨hnm, hni⟩ := findN_mem hf
 have hna := hp.nm.each n hnm
 have HNM := Lib.hid hnm
 have HNI := Lib.hid hni
 have HNA := Lib.hid hna
 have HOW := Lib.hid (hp.nm.own n hnm)
 have HOF := Lib.hid (fun e : g ∈ n.blocks => hp.goff (.inr ⟨n, hnm, e⟩))
 have p0 := cell_of_row hna.box 0
 have p1 := cell_of_row hna.box 1
 have zp := lt_of_block hna.box
 have zp1 : n.p < w.heap.size + 1 := by omega
 have zp2 : n.p < w.heap.size + 1 + 1 := by omega
 have zp3 : n.p < w.heap.size + 1 + 1 + 1 := by omega
 simp at p0 p1
 rw [hf] at la
 simp only [ptrN] at la
 rw [hfb] at lb
 simp only [ptrN] at lb
 have m9a : Mod (fun _ => False) w (w.alloc (.cells #[.int .u8 5, .int .u32 (a : Int), .int .u32 (b : Int), .int .u8 (key : Int), .int .u8 (vk : Int), .int .i64 vn, .string vs] 82)).drew.drew := m1.drew
 have m9b : Mod (fun _ => False) w (((w.alloc (.cells #[.int .u8 5, .int .u32 (a : Int), .int .u32 (b : Int), .int .u8 (key : Int), .int .u8 (vk : Int), .int .i64 vn, .string vs] 82)).alloc (.cells #[.int .u8 0, .int .i64 0, .string ⟨#[]⟩] 68)).drew.drew) := (((Mod.refl _ w).alloc _).alloc _).drew.drew
 have he1 := hna.edge m9a ho.b
 have he2 := hna.edge m9b ho.b
 rw [hx] at he1 he2
 simp only [valO, Option.isSome_some] at he1 he2
 have m9e : Mod (fun _ => False) w (((w.alloc (.cells #[.int .u8 5, .int .u32 (a : Int), .int .u32 (b : Int), .int .u8 (key : Int), .int .u8 (vk : Int), .int .i64 vn, .string vs] 82)).alloc (.cells #[.int .u8 (ek : Int), .int .i64 en, .string es] 68)).drew.drew) := (((Mod.refl _ w).alloc _).alloc _).drew.drew
 have HM9 := Lib.hid m9e
 clear hp hL ho hf hx m1 hna hnm hni m9a m9b hfb m9e
 go_enter Tryz.func56, Tryz.ntmps56
 go_wp2_with fail
 go_region
 go_wp2_with fail
 go_region
 all_goals
   go_wp2_with (go_at_call 83; refine (refusal_any 6 pos _ _ (by rfl)).mono ?_; (rintro e w9 ⟨rfl, rfl⟩))
   go_ret2
   exact RunP.no HONE.out (by omega) (RunNO.made HM9.out (by simp))
set_option maxRecDepth 100000 in
set_option maxHeartbeats 4000000 in
theorem run_6c (g bm : Nat) (ns : List Node) (a b key vk : Nat) (vn : Int) (vs : ByteArray) (pos : Int) (w : World) (hp : PG w g bm ns) (hL : Fair (ns.map Node.x)) (ho : Opr.Fits ⟨6, a, b, key, ⟨vk, vn, vs⟩⟩) (n : Node) (ek : Nat) (en : Int) (es : ByteArray) (hf : findN ns a = some n) (hfb : findN ns b = none) (hx : entX n.x.halves b = some ⟨ek, en, es⟩) :
   Calls Tryz.prog 56 #[.pointer (some ⟨g, 0, none⟩), .int .i64 pos, .agg #[.int .u8 6, .int .u32 (a : Int), .int .u32 (b : Int), .int .u8 (key : Int), .int .u8 (vk : Int), .int .i64 vn, .string vs]] w (RunP g bm ns ⟨6, a, b, key, ⟨vk, vn, vs⟩⟩ pos w) := by
 have HONE : Hid (oneG (ns.map Node.x) ⟨6, a, b, key, ⟨vk, vn, vs⟩⟩ = ⟨0, layV (setH n.x b noVal false) (ns.map Node.x), []⟩) := Lib.hid (by unfold oneG; simp only [findN_map, hf, Option.map_some, Option.map_none, Nat.reduceEqDiff, if_false, if_true, hx, or_false, false_or, or_true, true_or, hfb])
 have HP := Lib.hid hp
 have HL := Lib.hid hL
 have HO := Lib.hid ho
 have g0 := cell_of_row hp.cell 0
 have zg := lt_of_block hp.cell
 have zg1 : g < w.heap.size + 1 := by omega
 have zg2 : g < w.heap.size + 1 + 1 := by omega
 have zg3 : g < w.heap.size + 1 + 1 + 1 := by omega
 simp at g0
 have m1 : Mod (fun _ => False) w (w.alloc (.cells #[.int .u8 6, .int .u32 (a : Int), .int .u32 (b : Int), .int .u8 (key : Int), .int .u8 (vk : Int), .int .i64 vn, .string vs] 82)).drew := ((Mod.refl _ _).alloc _).drew
 have HM1 := Lib.hid m1
 have la := hp.nm.look m1 ho.a
 have lb := hp.nm.look m1 ho.b
 obtain ⟨hnm, hni⟩ := findN_mem hf
 have hna := hp.nm.each n hnm
 have HNM := Lib.hid hnm
 have HNI := Lib.hid hni
 have HNA := Lib.hid hna
 have HOW := Lib.hid (hp.nm.own n hnm)
 have HOF := Lib.hid (fun e : g ∈ n.blocks => hp.goff (.inr ⟨n, hnm, e⟩))
 have p0 := cell_of_row hna.box 0
 have p1 := cell_of_row hna.box 1
 have zp := lt_of_block hna.box
 have zp1 : n.p < w.heap.size + 1 := by omega
 have zp2 : n.p < w.heap.size + 1 + 1 := by omega
 have zp3 : n.p < w.heap.size + 1 + 1 + 1 := by omega
 simp at p0 p1
 rw [hf] at la
 simp only [ptrN] at la
 rw [hfb] at lb
 simp only [ptrN] at lb
 have m9a : Mod (fun _ => False) w (w.alloc (.cells #[.int .u8 6, .int .u32 (a : Int), .int .u32 (b : Int), .int .u8 (key : Int), .int .u8 (vk : Int), .int .i64 vn, .string vs] 82)).drew.drew := m1.drew
 have m9b : Mod (fun _ => False) w (((w.alloc (.cells #[.int .u8 6, .int .u32 (a : Int), .int .u32 (b : Int), .int .u8 (key : Int), .int .u8 (vk : Int), .int .i64 vn, .string vs] 82)).alloc (.cells #[.int .u8 0, .int .i64 0, .string ⟨#[]⟩] 68)).drew.drew) := (((Mod.refl _ w).alloc _).alloc _).drew.drew
 have he1 := hna.edge m9a ho.b
 have he2 := hna.edge m9b ho.b
 rw [hx] at he1 he2
 simp only [valO, Option.isSome_some] at he1 he2
 have m9e : Mod (fun _ => False) w (((w.alloc (.cells #[.int .u8 6, .int .u32 (a : Int), .int .u32 (b : Int), .int .u8 (key : Int), .int .u8 (vk : Int), .int .i64 vn, .string vs] 82)).alloc (.cells #[.int .u8 (ek : Int), .int .i64 en, .string es] 68)).drew.drew) := (((Mod.refl _ w).alloc _).alloc _).drew.drew
 have HM9 := Lib.hid m9e
 have hbx : (((w.alloc (.cells #[.int .u8 6, .int .u32 (a : Int), .int .u32 (b : Int), .int .u8 (key : Int), .int .u8 (vk : Int), .int .i64 vn, .string vs] 82)).alloc (.cells #[.int .u8 (ek : Int), .int .i64 en, .string es] 68)).drew.drew).drew.heap[w.heap.size]? = some (.cells #[.int .u8 6, .int .u32 (a : Int), .int .u32 (b : Int), .int .u8 (key : Int), .int .u8 (vk : Int), .int .i64 vn, .string vs] 82 (0, 0)) := by
   have m : Mod (fun _ => False) (w.alloc (.cells #[.int .u8 6, .int .u32 (a : Int), .int .u32 (b : Int), .int .u8 (key : Int), .int .u8 (vk : Int), .int .i64 vn, .string vs] 82)) (((w.alloc (.cells #[.int .u8 6, .int .u32 (a : Int), .int .u32 (b : Int), .int .u8 (key : Int), .int .u8 (vk : Int), .int .i64 vn, .string vs] 82)).alloc (.cells #[.int .u8 (ek : Int), .int .i64 en, .string es] 68)).drew.drew).drew := ((Mod.refl _ _).alloc _).drew.drew.drew
   exact m.heap (heap_alloc_new' w _) (fun f => f)
 have hvg := hL.each n.x (List.mem_map_of_mem hnm)
 have hml : n.me < w.heap.size := hna.edges.lt
 obtain ⟨w5, e5, U5, M5⟩ := (hna.edges.keep m9e.drew).drop Tryz.underlying27 Tryz.underlying102 (u32key ho.b) 0
 rw [delL_pents b noVal] at U5
 have hb5 := M5.heap hbx (by omega)
 have c0 := cell_of_row hb5 0
 have c1 := cell_of_row hb5 1
 have c2 := cell_of_row hb5 2
 have zc := lt_of_block hb5
 simp at c0 c1 c2
 have T1 : Turned g bm ns (layV (setH n.x b noVal false) (ns.map Node.x)) (fun k => k ≠ n.x.id) (((w.alloc (.cells #[.int .u8 6, .int .u32 (a : Int), .int .u32 (b : Int), .int .u8 (key : Int), .int .u8 (vk : Int), .int .i64 vn, .string vs] 82)).alloc (.cells #[.int .u8 (ek : Int), .int .i64 en, .string es] 68)).drew.drew).drew w5 (replN ⟨setH n.x b noVal false, n.p, n.mp, n.me⟩ ns) := Turned.repl (hp.keep m9e.drew) (n := ⟨setH n.x b noVal false, n.p, n.mp, n.me⟩) hnm rfl hvg.there rfl M5 (fun b e => .inr e) ⟨M5.heap (m9e.drew.heap hna.box (fun f => f)) HOW.out.2.1, (hna.props.keep m9e.drew).mod M5 HOW.out.2.2, U5, fits_setH hna.fit ho.b noVal_fits⟩
 have HT : Hid (∃ ns', Turned g bm ns (layV (setH n.x b noVal false) (ns.map Node.x)) (fun k => k ≠ a ∧ k ≠ b) w w5 ns') := Lib.hid ⟨_, (T1.weak' (fun k hk => by rw [hni]; exact hk.1)).keep m9e.drew (Mod.refl _ _)⟩
 clear hp hL ho hf hx m1 hna hnm hni m9a m9b hfb hvg hml M5 U5 hb5 hbx T1 m9e
 go_enter Tryz.func56, Tryz.ntmps56
 go_wp2_with fail
 go_region
 go_wp2_with fail
 go_region
 all_goals
   go_wp2_with fail
   go_region
   all_goals
     go_wp2_with fail
     go_ret2
     obtain ⟨ns', ht⟩ := HT.out
     exact RunP.ok HONE.out ⟨_, _, rfl, ht, RdS.none _ _⟩
open Go.RowKit Go.Maps
theorem run_any (o : Opr) (hok : opOK o = true) (ho : o.Fits) (g bm : Nat) (ns : List Node) (pos : Int) (w : World) (hp : PG w g bm ns) (hL : Fair (ns.map Node.x)) :
   Calls Tryz.prog 56 #[.pointer (some ⟨g, 0, none⟩), .int .i64 pos, o.v] w (RunP g bm ns o pos w) := by
 obtain ⟨⟨k1, k9⟩, ha, htwo, hkey, hval⟩ := opOK_parts hok
 obtain ⟨kind, a, b, key, ⟨vk, vn, vs⟩⟩ := o
 simp only at k1 k9 ha htwo hkey
 cases hf : findN ns a with
 | none =>
   by_cases h1 : kind = 1
   · subst h1
     exact run_1b g bm ns a b key vk vn vs pos w hp hL ho hf
   · exact run_none g bm ns kind a b key vk vn vs pos w hp hL ho h1 hf
 | some n =>
   have hn := (findN_mem hf).1
   have hk : kind = 1 ∨ kind = 2 ∨ kind = 3 ∨ kind = 4 ∨ kind = 5 ∨ kind = 6 ∨ kind = 7 ∨ kind = 8 ∨ kind = 9 := by omega
   rcases hk with rfl | rfl | rfl | rfl | rfl | rfl | rfl | rfl | rfl
   · exact run_1a g bm ns a b key vk vn vs pos w hp hL ho n hf
   · have hx := b0_2 hL hok hn
     by_cases hd : 0 < n.x.halves.length
     · exact run_2a g bm ns a b key vk vn vs pos w hp hL ho n hf hx hd
     · exact run_2b g bm ns a b key vk vn vs pos w hp hL ho n hf hx (by omega)
   · have hx := b0_3 hL hok hn
     by_cases hz : vk = 0
     · exact run_3b g bm ns a b key vk vn vs pos w hp hL ho n hf hx hkey hz
     · exact run_3a g bm ns a b key vk vn vs pos w hp hL ho n hf hx hkey hz
   · exact run_4 g bm ns a b key vk vn vs pos w hp hL ho n hf (b0_4 hL hok hn)
   · cases hx : entX n.x.halves b with
     | some v =>
       obtain ⟨ek, en, es⟩ := v
       cases hfb : findN ns b with
       | none => exact run_5f g bm ns a b key vk vn vs pos w hp hL ho n ek en es hf hfb hx
       | some u => exact run_5b g bm ns a b key vk vn vs pos w hp hL ho n u ek en es hf hfb hx
     | none =>
       cases hfb : findN ns b with
       | none => exact run_5a g bm ns a b key vk vn vs pos w hp hL ho n hf hfb hx
       | some u =>
         by_cases hd : 16 ≤ n.x.halves.length
         · exact run_5c g bm ns a b key vk vn vs pos w hp hL ho n u hf hfb hx hd
         · by_cases hd2 : 16 ≤ u.x.halves.length
           · exact run_5e g bm ns a b key vk vn vs pos w hp hL ho n u hf hfb hx hd hd2
           · exact run_5d g bm ns a b key vk vn vs pos w hp hL ho n u hf hfb hx hd hd2 (fun e => (htwo rfl).2 e.symm)
   · cases hx : entX n.x.halves b with
     | none => exact run_6a g bm ns a b key vk vn vs pos w hp hL ho n hf hx
     | some v =>
       obtain ⟨ek, en, es⟩ := v
       cases hfb : findN ns b with
       | none => exact run_6c g bm ns a b key vk vn vs pos w hp hL ho n ek en es hf hfb hx
       | some u => exact run_6b g bm ns a b key vk vn vs pos w hp hL ho n u ek en es hf hfb hx (fun e => (htwo rfl).2 e.symm)
   · cases hx : entX n.x.halves b with
     | none => exact run_7a g bm ns a b key vk vn vs pos w hp hL ho n hf hx
     | some v =>
       obtain ⟨ek, en, es⟩ := v
       exact run_7b g bm ns a b key vk vn vs pos w hp hL ho n ek en es hf hx
   · exact run_8 g bm ns a b key vk vn vs pos w hp hL ho n hf (b0_8 hL hok hn)
   · exact run_9 g bm ns a b key vk vn vs pos w hp hL ho n hf (b0_9 hL hok hn)
end Go.Proofs.YtlpdifinkcjckaaGreatDoor
