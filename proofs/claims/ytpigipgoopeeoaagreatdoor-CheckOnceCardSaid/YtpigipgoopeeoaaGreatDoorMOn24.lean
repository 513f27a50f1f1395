import Derived.Test.YtpigipgoopeeoaaGreatDoorMOn23b
set_option linter.unusedVariables false
set_option linter.unusedSimpArgs false
namespace Go.Proofs.YtpigipgoopeeoaaGreatDoor
open Go.RowKit Go.Maps
set_option maxRecDepth 100000 in
set_option maxHeartbeats 4000000 in
theorem run_6a (g bm : Nat) (ns : List Node) (a b key vk : Nat) (vn : Int) (vs : ByteArray) (pos : Int) (w : World) (hp : PG w g bm ns) (hL : Good (ns.map Node.x)) (ho : Opr.Fits ⟨6, a, b, key, ⟨vk, vn, vs⟩⟩) (n : Node) (hf : findN ns a = some n) (hx : entX n.x.halves b = none) :
   Calls Tryz.prog 72 #[.pointer (some ⟨g, 0, none⟩), .int .i64 pos, .agg #[.int .u8 6, .int .u32 (a : Int), .int .u32 (b : Int), .int .u8 (key : Int), .int .u8 (vk : Int), .int .i64 vn, .string vs]] w (RunP g bm ns ⟨6, a, b, key, ⟨vk, vn, vs⟩⟩ pos w) := by
 have HONE : Hid (oneG (ns.map Node.x) ⟨6, a, b, key, ⟨vk, vn, vs⟩⟩ = ⟨6, ns.map Node.x, []⟩) := Lib.hid (by unfold oneG; simp only [findN_map, hf, Option.map_some, Nat.reduceEqDiff, if_false, if_true, hx, or_false, false_or, or_true, true_or])
 have HP := Lib.hid hp
 have HL := Lib.hid hL
 have HO := Lib.hid ho
 have g0 := cell_of_row hp.cell 0
 have zg := lt_of_block hp.cell
 have zg1 : g < w.heap.size + 1 := by omega
 have zg2 : g < w.heap.size + 1 + 1 := by omega
 have zg3 : g < w.heap.size + 1 + 1 + 1 := by omega
 simp at g0
 have m1 : Mod (fun _ => False) w (w.alloc (.cells #[.int .u8 6, .int .u32 (a : Int), .int .u32 (b : Int), .int .u8 (key : Int), .int .u8 (vk : Int), .int .i64 vn, .string vs] 79)).drew := ((Mod.refl _ _).alloc _).drew
 have HM1 := Lib.hid m1
 have la := hp.nm.look m1 ho.a
 have lb := hp.nm.look m1 ho.b
 obtain ⟨hnm, hni⟩ := findN_mem hf
 have hna := hp.nm.each n hnm
 have HNM := Lib.hid hnm
 have HNI := Lib.hid hni
 have HNA := Lib.hid hna
 have HOW := Lib.hid (hp.nm.own n hnm)
 have HOF := Lib.hid (fun e : g ∈ n.blocks => hp.goff (.inr ⟨n, hnm, e⟩))
 have p0 := cell_of_row hna.box 0
 have p1 := cell_of_row hna.box 1
 have zp := lt_of_block hna.box
 have zp1 : n.p < w.heap.size + 1 := by omega
 have zp2 : n.p < w.heap.size + 1 + 1 := by omega
 have zp3 : n.p < w.heap.size + 1 + 1 + 1 := by omega
 simp at p0 p1
 rw [hf] at la
 simp only [ptrN] at la
 generalize ptrN (findN ns b) = pb at lb
 have m9a : Mod (fun _ => False) w (w.alloc (.cells #[.int .u8 6, .int .u32 (a : Int), .int .u32 (b : Int), .int .u8 (key : Int), .int .u8 (vk : Int), .int .i64 vn, .string vs] 79)).drew.drew := m1.drew
 have m9b : Mod (fun _ => False) w (((w.alloc (.cells #[.int .u8 6, .int .u32 (a : Int), .int .u32 (b : Int), .int .u8 (key : Int), .int .u8 (vk : Int), .int .i64 vn, .string vs] 79)).alloc (.cells #[.int .u8 0, .int .i64 0, .string ⟨#[]⟩] 77)).drew.drew) := (((Mod.refl _ w).alloc _).alloc _).drew.drew
 have he1 := hna.edge m9a ho.b
 have he2 := hna.edge m9b ho.b
 rw [hx] at he1 he2
 simp only [valO, Option.isSome_none] at he1 he2
 have HM9 := Lib.hid m9b
 clear hp hL ho hf hx m1 hna hnm hni m9a m9b
 go_enter Tryz.func72, Tryz.ntmps72
 go_wp2_with fail
 go_region
 go_wp2_with fail
 go_region
 all_goals
   go_wp2_with (go_at_call 87; refine (refusal_any 6 pos _ _ (by rfl)).mono ?_; (rintro e w9 ⟨rfl, rfl⟩))
   go_ret2
   exact RunP.no HONE.out (by omega) (RunNO.made HM9.out (by simp))
set_option maxRecDepth 100000 in
set_option maxHeartbeats 4000000 in
theorem run_7a (g bm : Nat) (ns : List Node) (a b key vk : Nat) (vn : Int) (vs : ByteArray) (pos : Int) (w : World) (hp : PG w g bm ns) (hL : Good (ns.map Node.x)) (ho : Opr.Fits ⟨7, a, b, key, ⟨vk, vn, vs⟩⟩) (n : Node) (hf : findN ns a = some n) (hx : entX n.x.halves b = none) :
   Calls Tryz.prog 72 #[.pointer (some ⟨g, 0, none⟩), .int .i64 pos, .agg #[.int .u8 7, .int .u32 (a : Int), .int .u32 (b : Int), .int .u8 (key : Int), .int .u8 (vk : Int), .int .i64 vn, .string vs]] w (RunP g bm ns ⟨7, a, b, key, ⟨vk, vn, vs⟩⟩ pos w) := by
 have HONE : Hid (oneG (ns.map Node.x) ⟨7, a, b, key, ⟨vk, vn, vs⟩⟩ = ⟨6, ns.map Node.x, []⟩) := Lib.hid (by unfold oneG; simp only [findN_map, hf, Option.map_some, Nat.reduceEqDiff, if_false, if_true, hx, or_false, false_or, or_true, true_or])
 have HP := Lib.hid hp
 have HL := Lib.hid hL
 have HO := Lib.hid ho
 have g0 := cell_of_row hp.cell 0
 have zg := lt_of_block hp.cell
 have zg1 : g < w.heap.size + 1 := by omega
 have zg2 : g < w.heap.size + 1 + 1 := by omega
 have zg3 : g < w.heap.size + 1 + 1 + 1 := by omega
 simp at g0
 have m1 : Mod (fun _ => False) w (w.alloc (.cells #[.int .u8 7, .int .u32 (a : Int), .int .u32 (b : Int), .int .u8 (key : Int), .int .u8 (vk : Int), .int .i64 vn, .string vs] 79)).drew := ((Mod.refl _ _).alloc _).drew
 have HM1 := Lib.hid m1
 have la := hp.nm.look m1 ho.a
 have lb := hp.nm.look m1 ho.b
 obtain ⟨hnm, hni⟩ := findN_mem hf
 have hna := hp.nm.each n hnm
 have HNM := Lib.hid hnm
 have HNI := Lib.hid hni
 have HNA := Lib.hid hna
 have HOW := Lib.hid (hp.nm.own n hnm)
 have HOF := Lib.hid (fun e : g ∈ n.blocks => hp.goff (.inr ⟨n, hnm, e⟩))
 have p0 := cell_of_row hna.box 0
 have p1 := cell_of_row hna.box 1
 have zp := lt_of_block hna.box
 have zp1 : n.p < w.heap.size + 1 := by omega
 have zp2 : n.p < w.heap.size + 1 + 1 := by omega
 have zp3 : n.p < w.heap.size + 1 + 1 + 1 := by omega
 simp at p0 p1
 rw [hf] at la
 simp only [ptrN] at la
 generalize ptrN (findN ns b) = pb at lb
 have m9a : Mod (fun _ => False) w (w.alloc (.cells #[.int .u8 7, .int .u32 (a : Int), .int .u32 (b : Int), .int .u8 (key : Int), .int .u8 (vk : Int), .int .i64 vn, .string vs] 79)).drew.drew := m1.drew
 have m9b : Mod (fun _ => False) w (((w.alloc (.cells #[.int .u8 7, .int .u32 (a : Int), .int .u32 (b : Int), .int .u8 (key : Int), .int .u8 (vk : Int), .int .i64 vn, .string vs] 79)).alloc (.cells #[.int .u8 0, .int .i64 0, .string ⟨#[]⟩] 77)).drew.drew) := (((Mod.refl _ w).alloc _).alloc _).drew.drew
 have he1 := hna.edge m9a ho.b
 have he2 := hna.edge m9b ho.b
 rw [hx] at he1 he2
 simp only [valO, Option.isSome_none] at he1 he2
 have HM9 := Lib.hid m9b
 clear hp hL ho hf hx m1 hna hnm hni m9a m9b
 go_enter Tryz.func72, Tryz.ntmps72
 go_wp2_with fail
 go_region
 go_wp2_with fail
 go_region
 all_goals
   go_wp2_with (go_at_call 87; refine (refusal_any 6 pos _ _ (by rfl)).mono ?_; (rintro e w9 ⟨rfl, rfl⟩))
   go_ret2
   exact RunP.no HONE.out (by omega) (RunNO.made HM9.out (by simp))
set_option maxRecDepth 100000 in
set_option maxHeartbeats 4000000 in
theorem run_7b (g bm : Nat) (ns : List Node) (a b key vk : Nat) (vn : Int) (vs : ByteArray) (pos : Int) (w : World) (hp : PG w g bm ns) (hL : Good (ns.map Node.x)) (ho : Opr.Fits ⟨7, a, b, key, ⟨vk, vn, vs⟩⟩) (n : Node) (ek : Nat) (en : Int) (es : ByteArray) (hf : findN ns a = some n) (hx : entX n.x.halves b = some ⟨ek, en, es⟩) :
   Calls Tryz.prog 72 #[.pointer (some ⟨g, 0, none⟩), .int .i64 pos, .agg #[.int .u8 7, .int .u32 (a : Int), .int .u32 (b : Int), .int .u8 (key : Int), .int .u8 (vk : Int), .int .i64 vn, .string vs]] w (RunP g bm ns ⟨7, a, b, key, ⟨vk, vn, vs⟩⟩ pos w) := by
 have HONE : Hid (oneG (ns.map Node.x) ⟨7, a, b, key, ⟨vk, vn, vs⟩⟩ = ⟨0, ns.map Node.x, [⟨ek, en, es⟩]⟩) := Lib.hid (by unfold oneG; simp only [findN_map, hf, Option.map_some, Nat.reduceEqDiff, if_false, if_true, hx, or_false, false_or, or_true, true_or])
 have HP := Lib.hid hp
 have HL := Lib.hid hL
 have HO := Lib.hid ho
 have g0 := cell_of_row hp.cell 0
 have zg := lt_of_block hp.cell
 have zg1 : g < w.heap.size + 1 := by omega
 have zg2 : g < w.heap.size + 1 + 1 := by omega
 have zg3 : g < w.heap.size + 1 + 1 + 1 := by omega
 simp at g0
 have m1 : Mod (fun _ => False) w (w.alloc (.cells #[.int .u8 7, .int .u32 (a : Int), .int .u32 (b : Int), .int .u8 (key : Int), .int .u8 (vk : Int), .int .i64 vn, .string vs] 79)).drew := ((Mod.refl _ _).alloc _).drew
 have HM1 := Lib.hid m1
 have la := hp.nm.look m1 ho.a
 have lb := hp.nm.look m1 ho.b
 obtain ⟨hnm, hni⟩ := findN_mem hf
 have hna := hp.nm.each n hnm
 have HNM := Lib.hid hnm
 have HNI := Lib.hid hni
 have HNA := Lib.hid hna
 have HOW := Lib.hid (hp.nm.own n hnm)
 have HOF := Lib.hid (fun e : g ∈ n.blocks => hp.goff (.inr ⟨n, hnm, e⟩))
 have p0 := cell_of_row hna.box 0
 have p1 := cell_of_row hna.box 1
 have zp := lt_of_block hna.box
 have zp1 : n.p < w.heap.size + 1 := by omega
 have zp2 : n.p < w.heap.size + 1 + 1 := by omega
 have zp3 : n.p < w.heap.size + 1 + 1 + 1 := by omega
 simp at p0 p1
 rw [hf] at la
 simp only [ptrN] at la
 generalize ptrN (findN ns b) = pb at lb
 have m9a : Mod (fun _ => False) w (w.alloc (.cells #[.int .u8 7, .int .u32 (a : Int), .int .u32 (b : Int), .int .u8 (key : Int), .int .u8 (vk : Int), .int .i64 vn, .string vs] 79)).drew.drew := m1.drew
 have m9b : Mod (fun _ => False) w (((w.alloc (.cells #[.int .u8 7, .int .u32 (a : Int), .int .u32 (b : Int), .int .u8 (key : Int), .int .u8 (vk : Int), .int .i64 vn, .string vs] 79)).alloc (.cells #[.int .u8 0, .int .i64 0, .string ⟨#[]⟩] 77)).drew.drew) := (((Mod.refl _ w).alloc _).alloc _).drew.drew
 have he1 := hna.edge m9a ho.b
 have he2 := hna.edge m9b ho.b
 rw [hx] at he1 he2
 simp only [valO, Option.isSome_some] at he1 he2
 have m9e : Mod (fun _ => False) w (((w.alloc (.cells #[.int .u8 7, .int .u32 (a : Int), .int .u32 (b : Int), .int .u8 (key : Int), .int .u8 (vk : Int), .int .i64 vn, .string vs] 79)).alloc (.cells #[.int .u8 (ek : Int), .int .i64 en, .string es] 77)).drew.drew) := (((Mod.refl _ w).alloc _).alloc _).drew.drew
 have HM9 := Lib.hid m9e
 clear hp hL ho hf hx m1 hna hnm hni m9a m9b m9e
 go_enter Tryz.func72, Tryz.ntmps72
 go_wp2_with fail
 go_region
 go_wp2_with fail
 go_region
 all_goals
   go_wp2_with fail
   go_ret2
   refine RunP.ok HONE.out ⟨_, _, rfl, Turned.idle HP.out (by repeat (first | exact Mod.refl _ _ | apply Mod.drew | apply Mod.alloc)) _, ?_⟩
   have h := rd_lit (((w.alloc (.cells #[.int .u8 7, .int .u32 (a : Int), .int .u32 (b : Int), .int .u8 (key : Int), .int .u8 (vk : Int), .int .i64 vn, .string vs] 79)).alloc (.cells #[.int .u8 (ek : Int), .int .i64 en, .string es] 77)).drew.drew) 77 #[.int .u8 (ek : Int), .int .i64 en, .string es] 1 3 (w.heap.size + 1 + 1) (by simp) rfl (by unfold maxLen; omega) (by simp [Value.oneCell'])
   exact h
set_option maxRecDepth 100000 in
set_option maxHeartbeats 4000000 in
theorem run_6b (g bm : Nat) (ns : List Node) (a b key vk : Nat) (vn : Int) (vs : ByteArray) (pos : Int) (w : World) (hp : PG w g bm ns) (hL : Good (ns.map Node.x)) (ho : Opr.Fits ⟨6, a, b, key, ⟨vk, vn, vs⟩⟩) (n u : Node) (ek : Nat) (en : Int) (es : ByteArray) (hf : findN ns a = some n) (hfb : findN ns b = some u) (hx : entX n.x.halves b = some ⟨ek, en, es⟩) (hab : a ≠ b) :
   Calls Tryz.prog 72 #[.pointer (some ⟨g, 0, none⟩), .int .i64 pos, .agg #[.int .u8 6, .int .u32 (a : Int), .int .u32 (b : Int), .int .u8 (key : Int), .int .u8 (vk : Int), .int .i64 vn, .string vs]] w (RunP g bm ns ⟨6, a, b, key, ⟨vk, vn, vs⟩⟩ pos w) := by
 have HONE : Hid (oneG (ns.map Node.x) ⟨6, a, b, key, ⟨vk, vn, vs⟩⟩ = ⟨0, layV (setH u.x a noVal false) (layV (setH n.x b noVal false) (ns.map Node.x)), []⟩) := Lib.hid (by unfold oneG; simp only [findN_map, hf, Option.map_some, Nat.reduceEqDiff, if_false, if_true, hx, or_false, false_or, or_true, true_or, hfb])
 have HP := Lib.hid hp
 have HL := Lib.hid hL
 have HO := Lib.hid ho
 have g0 := cell_of_row hp.cell 0
 have zg := lt_of_block hp.cell
 have zg1 : g < w.heap.size + 1 := by omega
 have zg2 : g < w.heap.size + 1 + 1 := by omega
 have zg3 : g < w.heap.size + 1 + 1 + 1 := by omega
 simp at g0
 have m1 : Mod (fun _ => False) w (w.alloc (.cells #[.int .u8 6, .int .u32 (a : Int), .int .u32 (b : Int), .int .u8 (key : Int), .int .u8 (vk : Int), .int .i64 vn, .string vs] 79)).drew := ((Mod.refl _ _).alloc _).drew
 have HM1 := Lib.hid m1
 have la := hp.nm.look m1 ho.a
 have lb := hp.nm.look m1 ho.b
 obtain ⟨hnm, hni⟩ := findN_mem hf
 have hna := hp.nm.each n hnm
 have HNM := Lib.hid hnm
 have HNI := Lib.hid hni
 have HNA := Lib.hid hna
 have HOW := Lib.hid (hp.nm.own n hnm)
 have HOF := Lib.hid (fun e : g ∈ n.blocks => hp.goff (.inr ⟨n, hnm, e⟩))
 have p0 := cell_of_row hna.box 0
 have p1 := cell_of_row hna.box 1
 have zp := lt_of_block hna.box
 have zp1 : n.p < w.heap.size + 1 := by omega
 have zp2 : n.p < w.heap.size + 1 + 1 := by omega
 have zp3 : n.p < w.heap.size + 1 + 1 + 1 := by omega
 simp at p0 p1
 rw [hf] at la
 simp only [ptrN] at la
 rw [hfb] at lb
 simp only [ptrN] at lb
 have m9a : Mod (fun _ => False) w (w.alloc (.cells #[.int .u8 6, .int .u32 (a : Int), .int .u32 (b : Int), .int .u8 (key : Int), .int .u8 (vk : Int), .int .i64 vn, .string vs] 79)).drew.drew := m1.drew
 have m9b : Mod (fun _ => False) w (((w.alloc (.cells #[.int .u8 6, .int .u32 (a : Int), .int .u32 (b : Int), .int .u8 (key : Int), .int .u8 (vk : Int), .int .i64 vn, .string vs] 79)).alloc (.cells #[.int .u8 0, .int .i64 0, .string ⟨#[]⟩] 77)).drew.drew) := (((Mod.refl _ w).alloc _).alloc _).drew.drew
 have he1 := hna.edge m9a ho.b
 have he2 := hna.edge m9b ho.b
 rw [hx] at he1 he2
 simp only [valO, Option.isSome_some] at he1 he2
 obtain ⟨hum, hui⟩ := findN_mem hfb
 have hua := hp.nm.each u hum
 have y0 := cell_of_row hua.box 0
 have y1 := cell_of_row hua.box 1
 have zu := lt_of_block hua.box
 have zu1 : u.p < w.heap.size + 1 := by omega
 have zu2 : u.p < w.heap.size + 1 + 1 := by omega
 have zu3 : u.p < w.heap.size + 1 + 1 + 1 := by omega
 simp at y0 y1
 have m9e : Mod (fun _ => False) w (((w.alloc (.cells #[.int .u8 6, .int .u32 (a : Int), .int .u32 (b : Int), .int .u8 (key : Int), .int .u8 (vk : Int), .int .i64 vn, .string vs] 79)).alloc (.cells #[.int .u8 (ek : Int), .int .i64 en, .string es] 77)).drew.drew) := (((Mod.refl _ w).alloc _).alloc _).drew.drew
 have HM9 := Lib.hid m9e
 have hbx : (((w.alloc (.cells #[.int .u8 6, .int .u32 (a : Int), .int .u32 (b : Int), .int .u8 (key : Int), .int .u8 (vk : Int), .int .i64 vn, .string vs] 79)).alloc (.cells #[.int .u8 (ek : Int), .int .i64 en, .string es] 77)).drew.drew).drew.heap[w.heap.size]? = some (.cells #[.int .u8 6, .int .u32 (a : Int), .int .u32 (b : Int), .int .u8 (key : Int), .int .u8 (vk : Int), .int .i64 vn, .string vs] 79 (0, 0)) := by
   have m : Mod (fun _ => False) (w.alloc (.cells #[.int .u8 6, .int .u32 (a : Int), .int .u32 (b : Int), .int .u8 (key : Int), .int .u8 (vk : Int), .int .i64 vn, .string vs] 79)) (((w.alloc (.cells #[.int .u8 6, .int .u32 (a : Int), .int .u32 (b : Int), .int .u8 (key : Int), .int .u8 (vk : Int), .int .i64 vn, .string vs] 79)).alloc (.cells #[.int .u8 (ek : Int), .int .i64 en, .string es] 77)).drew.drew).drew := ((Mod.refl _ _).alloc _).drew.drew.drew
   exact m.heap (heap_alloc_new' w _) (fun f => f)
 have hsep : ∀ x ∈ n.blocks, x ∉ u.blocks := fun x h1 h2 => hab (by have := hp.nm.sep n hnm u hum x h1 h2; rw [← hni, this, hui])
 have hvg := hL.each n.x (List.mem_map_of_mem hnm)
 have hug := hL.each u.x (List.mem_map_of_mem hum)
 have s1 : u.me ≠ n.me := fun e => hsep n.me (by simp [Node.blocks]) (by simp [Node.blocks, e])
 have s2 : u.p ≠ n.me := fun e => hsep n.me (by simp [Node.blocks]) (by simp [Node.blocks, e])
 have s3 : u.mp ≠ n.me := fun e => hsep n.me (by simp [Node.blocks]) (by simp [Node.blocks, e])
 have s4 := hp.nm.own u hum
 have hml : n.me < w.heap.size := hna.edges.lt
 obtain ⟨w5, e5, U5, M5⟩ := (hna.edges.keep m9e.drew).drop Tryz.underlying32 Tryz.underlying141 (u32key ho.b) 0
 obtain ⟨w6, e6, U6, M6⟩ := ((hua.edges.keep m9e.drew).mod M5 s1).drew.drop Tryz.underlying32 Tryz.underlying141 (u32key ho.a) 0
 rw [delL_pents b noVal] at U5
 rw [delL_pents a noVal] at U6
 have hb5 := M5.heap hbx (by omega)
 have c0 := cell_of_row hb5 0
 have c1 := cell_of_row hb5 1
 have c2 := cell_of_row hb5 2
 have zc := lt_of_block hb5
 have hy5 := M5.heap (m9e.drew.heap hua.box (fun f => f)) s2
 have x0 := cell_of_row hy5 0
 have x1 := cell_of_row hy5 1
 have zx := lt_of_block hy5
 simp at c0 c1 c2 x0 x1
 have T1 : Turned g bm ns (layV (setH n.x b noVal false) (ns.map Node.x)) (fun k => k ≠ n.x.id) (((w.alloc (.cells #[.int .u8 6, .int .u32 (a : Int), .int .u32 (b : Int), .int .u8 (key : Int), .int .u8 (vk : Int), .int .i64 vn, .string vs] 79)).alloc (.cells #[.int .u8 (ek : Int), .int .i64 en, .string es] 77)).drew.drew).drew w5 (replN ⟨setH n.x b noVal false, n.p, n.mp, n.me⟩ ns) := Turned.repl (hp.keep m9e.drew) (n := ⟨setH n.x b noVal false, n.p, n.mp, n.me⟩) hnm rfl hvg.there rfl M5 (fun b e => .inr e) ⟨M5.heap (m9e.drew.heap hna.box (fun f => f)) HOW.out.2.1, (hna.props.keep m9e.drew).mod M5 HOW.out.2.2, U5, fits_setH hna.fit ho.b noVal_fits⟩
 have T1d := T1.keep (Mod.refl _ _) (Mod.refl _ w5).drew
 have hu1 : u ∈ replN ⟨setH n.x b noVal false, n.p, n.mp, n.me⟩ ns := List.mem_map.2 ⟨u, hum, by rw [if_neg (by show ¬ u.x.id = n.x.id; rw [hui, hni]; exact fun e => hab e.symm)]⟩
 have T2 := Turned.repl T1d.pg (n := ⟨setH u.x a noVal false, u.p, u.mp, u.me⟩) hu1 rfl hug.there rfl M6 (fun b e => .inr e) ⟨M6.heap (M5.drew.heap (m9e.drew.heap hua.box (fun f => f)) s2) s4.2.1, (((hua.props.keep m9e.drew).mod M5 s3).drew).mod M6 s4.2.2, U6, fits_setH hua.fit ho.a noVal_fits⟩
 rw [T1.is] at T2
 have HT : Hid (∃ ns', Turned g bm ns (layV (setH u.x a noVal false) (layV (setH n.x b noVal false) (ns.map Node.x))) (fun k => k ≠ a ∧ k ≠ b) w w6 ns') := Lib.hid ⟨_, (T1d.trans T2 (fun k hk => by rw [hni]; exact hk.1) (fun k hk => by rw [hui]; exact hk.2)).keep m9e.drew (Mod.refl _ _)⟩
 clear hp hL ho hf hx m1 hna hnm hni m9a m9b hfb hua hum hui hsep hvg hug s1 s2 s3 s4 hml M5 U5 U6 M6 hb5 hy5 hbx T1 T1d hu1 T2 hab m9e
 go_enter Tryz.func72, Tryz.ntmps72
 go_wp2_with fail
 go_region
 go_wp2_with fail
 go_region
 all_goals
   go_wp2_with fail
   go_region
   all_goals
     go_wp2_with fail
     go_region
     all_goals
       go_wp2_with fail
       go_ret2
       obtain ⟨ns', ht⟩ := HT.out
       exact RunP.ok HONE.out ⟨_, _, rfl, ht, RdS.none _ _⟩
open Go.RowKit Go.Maps
theorem pairN {ns : List Node} (hL : Good (ns.map Node.x)) {n : Node} (hn : n ∈ ns) {b : Nat} {v : Val} (h : entX n.x.halves b = some v) : ∃ u, findN ns b = some u := by
 obtain ⟨t, ht, e1, _⟩ := hL.pair n.x (List.mem_map_of_mem hn) _ (entX_mem h)
 cases hf : findN ns b with
 | some u => exact ⟨u, rfl⟩
 | none =>
   have : findV (ns.map Node.x) b = none := by rw [findN_map, hf]; rfl
   exact absurd e1 (findV_none.1 this t ht)
theorem run_any (o : Opr) (hok : opOK o = true) (ho : o.Fits) (g bm : Nat) (ns : List Node) (pos : Int) (w : World) (hp : PG w g bm ns) (hL : Good (ns.map Node.x)) :
   Calls Tryz.prog 72 #[.pointer (some ⟨g, 0, none⟩), .int .i64 pos, o.v] w (RunP g bm ns o pos w) := by
 obtain ⟨⟨k1, k9⟩, ha, htwo, hkey, hval⟩ := opOK_parts hok
 obtain ⟨kind, a, b, key, ⟨vk, vn, vs⟩⟩ := o
 simp only at k1 k9 ha htwo hkey
 cases hf : findN ns a with
 | none =>
   by_cases h1 : kind = 1
   · subst h1
     exact run_1b g bm ns a b key vk vn vs pos w hp hL ho hf
   · exact run_none g bm ns kind a b key vk vn vs pos w hp hL ho h1 hf
 | some n =>
   have hn := (findN_mem hf).1
   have hk : kind = 1 ∨ kind = 2 ∨ kind = 3 ∨ kind = 4 ∨ kind = 5 ∨ kind = 6 ∨ kind = 7 ∨ kind = 8 ∨ kind = 9 := by omega
   rcases hk with rfl | rfl | rfl | rfl | rfl | rfl | rfl | rfl | rfl
   · exact run_1a g bm ns a b key vk vn vs pos w hp hL ho n hf
   · have hx := b0_2 hL hok hn
     by_cases hd : 0 < n.x.halves.length
     · exact run_2a g bm ns a b key vk vn vs pos w hp hL ho n hf hx hd
     · exact run_2b g bm ns a b key vk vn vs pos w hp hL ho n hf hx (by omega)
   · have hx := b0_3 hL hok hn
     by_cases hz : vk = 0
     · exact run_3b g bm ns a b key vk vn vs pos w hp hL ho n hf hx hkey hz
     · exact run_3a g bm ns a b key vk vn vs pos w hp hL ho n hf hx hkey hz
   · exact run_4 g bm ns a b key vk vn vs pos w hp hL ho n hf (b0_4 hL hok hn)
   · cases hx : entX n.x.halves b with
     | some v =>
       obtain ⟨u, hfb⟩ := pairN hL hn hx
       obtain ⟨ek, en, es⟩ := v
       exact run_5b g bm ns a b key vk vn vs pos w hp hL ho n u ek en es hf hfb hx
     | none =>
       cases hfb : findN ns b with
       | none => exact run_5a g bm ns a b key vk vn vs pos w hp hL ho n hf hfb hx
       | some u =>
         by_cases hd : 16 ≤ n.x.halves.length
         · exact run_5c g bm ns a b key vk vn vs pos w hp hL ho n u hf hfb hx hd
         · by_cases hd2 : 16 ≤ u.x.halves.length
           · exact run_5e g bm ns a b key vk vn vs pos w hp hL ho n u hf hfb hx hd hd2
           · exact run_5d g bm ns a b key vk vn vs pos w hp hL ho n u hf hfb hx hd hd2 (fun e => (htwo rfl).2 e.symm)
   · cases hx : entX n.x.halves b with
     | none => exact run_6a g bm ns a b key vk vn vs pos w hp hL ho n hf hx
     | some v =>
       obtain ⟨u, hfb⟩ := pairN hL hn hx
       obtain ⟨ek, en, es⟩ := v
       exact run_6b g bm ns a b key vk vn vs pos w hp hL ho n u ek en es hf hfb hx (fun e => (htwo rfl).2 e.symm)
   · cases hx : entX n.x.halves b with
     | none => exact run_7a g bm ns a b key vk vn vs pos w hp hL ho n hf hx
     | some v =>
       obtain ⟨ek, en, es⟩ := v
       exact run_7b g bm ns a b key vk vn vs pos w hp hL ho n ek en es hf hx
   · exact run_8 g bm ns a b key vk vn vs pos w hp hL ho n hf (b0_8 hL hok hn)
   · exact run_9 g bm ns a b key vk vn vs pos w hp hL ho n hf (b0_9 hL hok hn)
open Go.RowKit
set_option maxRecDepth 100000 in
set_option maxHeartbeats 2000000 in
theorem code_any (c : Nat) (code pos : Int) (v : Nat) (w : World) (hg : ErrT w) (hc : w.heap[c]? = some (chainO code pos v)) :
   Calls Tryz.prog 74 #[chainV c] w fun e w' => e = .returned (.int .i64 code) ∧ Mod (fun _ => False) w w' := by
 have hm : Mod (fun _ => False) w (w.alloc (.cells #[.int .i64 0] 35)) := (Mod.refl _ _).alloc _
 have HA := Lib.hid (asE_hit c code pos v w.heap.size (.int .i64 0) (w.alloc (.cells #[.int .i64 0] 35)) (hg.keep hm (fun f => f)) (hm.heap hc (fun f => f)) (heap_alloc_new' _ _))
 have HM := Lib.hid hm
 clear hg hc hm
 unfold chainV at *
 go_enter Tryz.func74, Tryz.ntmps74
 go_wp2_with (go_at_call 88; refine HA.out.mono ?_; (rintro e w1 ⟨rfl, hm1, hb1⟩); have HM1 : Hid (Mod (fun _ => False) w w1) := Lib.hid (HM.out.trans' hm1 (fun i hi e => by omega)); have c0 := cell_of_row hb1 0; have z0 := lt_of_block hb1; simp at c0; clear hm1 hb1)
 go_ret
 exact ⟨rfl, HM1.out⟩
theorem first_any (t : TypeId) (v : Value) (w : World) (h : t = 172 ∨ t = 35) : Calls Tryz.prog 104 #[.iface t v] w fun e w' => e = .returned .nilIface ∧ w = w' := by
 have t8 := noUsE
 have t9 := noUsC
 rcases h with rfl | rfl
 all_goals
   go_enter Tryz.func104, Tryz.ntmps104
   go_wp2
   go_ret
   exact ⟨rfl, rfl⟩
theorem infoCh : (Tryz.prog.info? 172).map (fun i => (i.zero, i.size, i.bytes)) = some (some (.pointer none), 1, 8) := by kernel_rfl
theorem infoLk : (Tryz.prog.info? 157).map (fun i => (i.zero, i.size, i.bytes)) = some (some (.agg #[.int .i64 0, .int .u32 0]), 2, 16) := by kernel_rfl
set_option maxRecDepth 100000 in
set_option maxHeartbeats 4000000 in
theorem chains_any (c : Nat) (code pos : Int) (v : Nat) (w : World) (hg : ErrT w) (hc : w.heap[c]? = some (chainO code pos v)) :
   Calls Tryz.prog 89 #[chainV c] w fun e w' => ∃ vo, e = .returned vo ∧ Mod (fun _ => False) w w' ∧ RdS w' 1 vo 1 [.pointer (some ⟨c, 0, none⟩)] := by
 have HG := Lib.hid hg
 have HC := Lib.hid hc
 have HF1 := Lib.hid (fun v w => first_any 172 v w (.inl rfl))
 have HF2 := Lib.hid (fun v w => first_any 35 v w (.inr rfl))
 have HA1 : Hid (∀ w1, Mod (fun _ => False) w w1 → ∀ tb, w1.heap[tb]? = some (.cells #[.pointer none] 172 (0, 0)) → Calls Tryz.prog 88 #[.iface 172 (.pointer (some ⟨c, 0, none⟩)), .iface 198 (.pointer (some ⟨tb, 0, none⟩))] w1 fun e w' => e = .returned (.bool true) ∧ Mod (fun k => k = tb) w1 w' ∧ w'.heap[tb]? = some (.cells #[.pointer (some ⟨c, 0, none⟩)] 172 (0, 0))) := Lib.hid (fun w1 m tb ht => asC_hit c tb _ w1 (hg.keep m (fun f => f)) ht)
 have HA2 : Hid (∀ w1, Mod (fun _ => False) w w1 → ∀ tb, w1.heap[tb]? = some (.cells #[.pointer none] 172 (0, 0)) → Calls Tryz.prog 88 #[.iface 35 (.int .i64 code), .iface 198 (.pointer (some ⟨tb, 0, none⟩))] w1 fun e w' => e = .returned (.bool false) ∧ Mod (fun _ => False) w1 w') := Lib.hid (fun w1 m tb ht => asC_miss code tb _ w1 (hg.keep m (fun f => f)) ht)
 obtain ⟨i0, hi, hz0, hz1, hz2⟩ := info_parts infoCh
 have HI : Hid (Tryz.prog.info? 172 = some i0 ∧ i0.zero = some (.pointer none) ∧ i0.size = 1 ∧ i0.bytes = 8) := ⟨hi, hz0, hz1, hz2⟩
 clear hi hz0 hz1 hz2 hg hc
 unfold chainV
 go_enter Tryz.func89, Tryz.ntmps89
 go_wp2
 refine wp_loop_rounds 2 ?_
 rw [rounds_succ]
 have HM0 : Hid (Mod (fun _ => False) w (w.alloc (.cells #[.pointer none] 172))) := Lib.hid ((Mod.refl _ _).alloc _)
 have HAA := Lib.hid (HA1.out _ HM0.out w.heap.size (heap_alloc_new' _ _))
 go_wp2_with (first
   | (go_at_call 104; refine (HF1.out _ _).mono ?_; (rintro e w1 ⟨rfl, rfl⟩))
   | (go_at_call 88; refine HAA.out.mono ?_; (rintro e w1 ⟨rfl, hm1, hb1⟩); have HM1 : Hid (Mod (fun _ => False) w w1) := Lib.hid (HM0.out.trans' hm1 (fun i hi e => by omega)); have HB1 := Lib.hid hb1; have c0 := cell_of_row hb1 0; have z0 := lt_of_block hb1; simp at c0; have HSR := Lib.hid (src_cells (w := w1) rfl (size := 1) 172 #[.pointer (some ⟨c, 0, none⟩)] rfl (by simp [Value.oneCell'])); have HSG : Hid (Seg (w1.alloc (.cells #[.pointer (some ⟨c, 0, none⟩)] 172)) 172 1 (.slice none 0 0) 0 []) := Lib.hid (Seg.nil _ _ _); clear hm1 hb1)
   | (at_builtin; refine wpList_append_seg rfl (.tmp 17) (.tmp 19) 170 rfl i0 _ 1 8 Tryz.underlying170 HI.out.1 HI.out.2.1 HI.out.2.2.1 HI.out.2.2.2 rfl (by decide) rfl HSG.out _ 1 _ rfl HSR.out (by unfold maxLen; omega) (by omega) ?_; intro v3 w3 hs3 hg3 ho3; have HM3 : Hid (Mod (fun _ => False) w w3) := Lib.hid ((HM1.out.alloc _).grown hg3 (fun b hb _ => by cases hb)); have HS3 := Lib.hid hs3; have hb3 := (mod_grown hg3).heap (heap_alloc_old HB1.out) (fun e => by cases e); have d0 := cell_of_row hb3 0; have z3 := lt_of_block hb3; simp at d0; have e2 := cell_of_row (HM3.out.heap HC.out (fun f => f)) 2; have ze := lt_of_block (HM3.out.heap HC.out (fun f => f)); simp at e2; (obtain ⟨a3, c3, hv3, -⟩ := hs3.shape); subst hv3; clear hs3 hg3 ho3 hb3))
 rw [rounds_succ]
 have HM4 : Hid (Mod (fun _ => False) w (w3.alloc (.cells #[.pointer none] 172))) := Lib.hid (HM3.out.alloc _)
 have HAB := Lib.hid (HA2.out _ HM4.out w3.heap.size (heap_alloc_new' _ _))
 go_wp2_with (first
   | (go_at_call 104; refine (HF2.out _ _).mono ?_; (rintro e w4 ⟨rfl, rfl⟩))
   | (go_at_call 88; refine HAB.out.mono ?_; (rintro e w4 ⟨rfl, hm4⟩); have HM5 := Lib.hid (HM4.out.trans hm4); have HS5 := Lib.hid ((HS3.out.alloc (.cells #[.pointer none] 172)).mod hm4 (fun _ _ f => f)); clear hm4))
 go_ret
 exact ⟨_, rfl, HM5.out, HS5.out.rdS⟩
set_option maxRecDepth 100000 in
set_option maxHeartbeats 4000000 in
theorem links_any (c : Nat) (code pos : Int) (v : Nat) (w : World) (hg : ErrT w) (hc : w.heap[c]? = some (chainO code pos v)) :
   Calls Tryz.prog 75 #[chainV c] w fun e w' => ∃ vo, e = .returned vo ∧ Mod (fun _ => False) w w' ∧ RdS w' 2 vo 1 [.int .i64 pos, .int .u32 (v : Int)] := by
 have HC := Lib.hid hc
 have HCH := Lib.hid (chains_any c code pos v w hg hc)
 obtain ⟨i0, hi, hz0, hz1, hz2⟩ := info_parts infoLk
 have HI : Hid (Tryz.prog.info? 157 = some i0 ∧ i0.zero = some (.agg #[.int .i64 0, .int .u32 0]) ∧ i0.size = 2 ∧ i0.bytes = 16) := ⟨hi, hz0, hz1, hz2⟩
 clear hi hz0 hz1 hz2 hg hc
 unfold chainV at *
 go_enter Tryz.func75, Tryz.ntmps75
 go_wp2_with (go_at_call 89; refine HCH.out.mono ?_; (rintro e w1 ⟨vo, rfl, hm1, hr1⟩); have HM1 := Lib.hid hm1; (obtain ⟨a1, c1, rfl, h1, h2, -⟩ := hr1.shape); (obtain ⟨b1, o1, e1, hb1, p0⟩ := RdS.one hr1 (i := 0) (x := .pointer (some ⟨c, 0, none⟩)) rfl rfl); subst e1; simp only [Nat.add_zero] at p0; have q0 := cell_of_row (hm1.heap HC.out (fun f => f)) 0; have q1 := cell_of_row (hm1.heap HC.out (fun f => f)) 1; have zq := lt_of_block (hm1.heap HC.out (fun f => f)); simp at q0 q1; have HSR := Lib.hid (src_cells (w := w1) rfl (size := 2) 157 #[.int .i64 pos, .int .u32 (v : Int)] rfl (by simp [Value.oneCell'])); have HSG : Hid (Seg (w1.alloc (.cells #[.int .i64 pos, .int .u32 (v : Int)] 157)) 157 2 (.slice none 0 0) 0 []) := Lib.hid (Seg.nil _ _ _); clear hm1 hr1)
 refine wp_loop_rounds 2 ?_
 rw [rounds_succ]
 go_wp2_with (at_builtin; refine wpList_append_seg rfl (.tmp 13) (.tmp 18) 158 rfl i0 _ 2 16 Tryz.underlying158 HI.out.1 HI.out.2.1 HI.out.2.2.1 HI.out.2.2.2 rfl (by decide) rfl HSG.out _ 1 _ rfl HSR.out (by unfold maxLen; omega) (by omega) ?_; intro v3 w3 hs3 hg3 ho3; have HM3 : Hid (Mod (fun _ => False) w w3) := Lib.hid ((HM1.out.alloc _).grown hg3 (fun b hb _ => by cases hb)); have HS3 := Lib.hid hs3; (obtain ⟨a3, c3, hv3, -⟩ := hs3.shape); subst hv3; clear hs3 hg3 ho3)
 rw [rounds_succ]
 go_wp2
 go_ret
 exact ⟨_, rfl, HM3.out, HS3.out.rdS⟩
end Go.Proofs.YtpigipgoopeeoaaGreatDoor
