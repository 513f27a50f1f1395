/- YF: what is needed of it (by shake.py). -/
import Derived.Test.YtbgjbikpenefoaaGreatDoorM24
import Derived.Test.YtbgjbikpenefoaaGreatDoorYC

/- YF, as far as the seat goes. -/
/- graph.run: kind 5: an edge that comes. (Printed by gen_run.py.) -/
namespace Go.Proofs.YtbgjbikpenefoaaGreatDoor
set_option linter.unusedVariables false
set_option linter.unusedSimpArgs false
open Go.RowKit Go.Maps
set_option maxRecDepth 100000 in
set_option maxHeartbeats 4000000 in
theorem run_5a (g bm : Nat) (ns : List Node) (a b key vk : Nat) (vn : Int) (vs : ByteArray) (pos : Int) (w : World) (hp : PG w g bm ns) (hL : Good (ns.map Node.x)) (ho : Opr.Fits ⟨5, a, b, key, ⟨vk, vn, vs⟩⟩) (n : Node) (hf : findN ns a = some n) (hfb : findN ns b = none) (hx : entX n.x.halves b = none) :
    Calls Tryz.prog 53 #[.pointer (some ⟨g, 0, none⟩), .int .i64 pos, .agg #[.int .u8 5, .int .u32 (a : Int), .int .u32 (b : Int), .int .u8 (key : Int), .int .u8 (vk : Int), .int .i64 vn, .string vs]] w (RunP g bm ns ⟨5, a, b, key, ⟨vk, vn, vs⟩⟩ pos w) := by
  have HONE : Hid (oneG (ns.map Node.x) ⟨5, a, b, key, ⟨vk, vn, vs⟩⟩ = ⟨6, ns.map Node.x, []⟩) := Lib.hid (by unfold oneG; simp only [findN_map, hf, hfb, Option.map_some, Option.map_none, Nat.reduceEqDiff, if_false, if_true, hx, Option.isSome_none, Option.isSome_some, Bool.false_eq_true])
  have HP := Lib.hid hp
  have HL := Lib.hid hL
  have HO := Lib.hid ho
  have g0 := cell_of_row hp.cell 0
  have zg := lt_of_block hp.cell
  have zg1 : g < w.heap.size + 1 := by omega
  have zg2 : g < w.heap.size + 1 + 1 := by omega
  have zg3 : g < w.heap.size + 1 + 1 + 1 := by omega
  simp at g0
  have m1 : Mod (fun _ => False) w (w.alloc (.cells #[.int .u8 5, .int .u32 (a : Int), .int .u32 (b : Int), .int .u8 (key : Int), .int .u8 (vk : Int), .int .i64 vn, .string vs] 71)).drew := ((Mod.refl _ _).alloc _).drew
  have HM1 := Lib.hid m1
  have la := hp.nm.look m1 ho.a
  have lb := hp.nm.look m1 ho.b
  obtain ⟨hnm, hni⟩ := findN_mem hf
  have hna := hp.nm.each n hnm
  have HNM := Lib.hid hnm
  have HNI := Lib.hid hni
  have HNA := Lib.hid hna
  have HOW := Lib.hid (hp.nm.own n hnm)
  have HOF := Lib.hid (fun e : g ∈ n.blocks => hp.goff (.inr ⟨n, hnm, e⟩))
  have p0 := cell_of_row hna.box 0
  have p1 := cell_of_row hna.box 1
  have zp := lt_of_block hna.box
  have zp1 : n.p < w.heap.size + 1 := by omega
  have zp2 : n.p < w.heap.size + 1 + 1 := by omega
  have zp3 : n.p < w.heap.size + 1 + 1 + 1 := by omega
  simp at p0 p1
  rw [hf] at la
  simp only [ptrN] at la
  rw [hfb] at lb
  simp only [ptrN] at lb
  have m9a : Mod (fun _ => False) w (w.alloc (.cells #[.int .u8 5, .int .u32 (a : Int), .int .u32 (b : Int), .int .u8 (key : Int), .int .u8 (vk : Int), .int .i64 vn, .string vs] 71)).drew.drew := m1.drew
  have m9b : Mod (fun _ => False) w (((w.alloc (.cells #[.int .u8 5, .int .u32 (a : Int), .int .u32 (b : Int), .int .u8 (key : Int), .int .u8 (vk : Int), .int .i64 vn, .string vs] 71)).alloc (.cells #[.int .u8 0, .int .i64 0, .string ⟨#[]⟩] 44)).drew.drew) := (((Mod.refl _ w).alloc _).alloc _).drew.drew
  have he1 := hna.edge m9a ho.b
  have he2 := hna.edge m9b ho.b
  rw [hx] at he1 he2
  simp only [valO, Option.isSome_none] at he1 he2
  have HM9 := Lib.hid m9b
  clear hp hL ho hf hx m1 hna hnm hni m9a m9b hfb
  go_enter Tryz.func53, Tryz.ntmps53
  go_wp2_with fail
  go_region
  go_wp2_with fail
  go_region
  all_goals
    go_wp2_with (go_at_call 74; refine (refusal_any 6 pos _ _ (by rfl)).mono ?_; (rintro e w9 ⟨rfl, rfl⟩))
    go_ret2
    exact RunP.no HONE.out (by omega) (RunNO.made HM9.out (by simp))
set_option maxRecDepth 100000 in
set_option maxHeartbeats 4000000 in
theorem run_5b (g bm : Nat) (ns : List Node) (a b key vk : Nat) (vn : Int) (vs : ByteArray) (pos : Int) (w : World) (hp : PG w g bm ns) (hL : Good (ns.map Node.x)) (ho : Opr.Fits ⟨5, a, b, key, ⟨vk, vn, vs⟩⟩) (n u : Node) (ek : Nat) (en : Int) (es : ByteArray) (hf : findN ns a = some n) (hfb : findN ns b = some u) (hx : entX n.x.halves b = some ⟨ek, en, es⟩) :
    Calls Tryz.prog 53 #[.pointer (some ⟨g, 0, none⟩), .int .i64 pos, .agg #[.int .u8 5, .int .u32 (a : Int), .int .u32 (b : Int), .int .u8 (key : Int), .int .u8 (vk : Int), .int .i64 vn, .string vs]] w (RunP g bm ns ⟨5, a, b, key, ⟨vk, vn, vs⟩⟩ pos w) := by
  have HONE : Hid (oneG (ns.map Node.x) ⟨5, a, b, key, ⟨vk, vn, vs⟩⟩ = ⟨7, ns.map Node.x, []⟩) := Lib.hid (by unfold oneG; simp only [findN_map, hf, hfb, Option.map_some, Option.map_none, Nat.reduceEqDiff, if_false, if_true, hx, Option.isSome_none, Option.isSome_some, Bool.false_eq_true])
  have HP := Lib.hid hp
  have HL := Lib.hid hL
  have HO := Lib.hid ho
  have g0 := cell_of_row hp.cell 0
  have zg := lt_of_block hp.cell
  have zg1 : g < w.heap.size + 1 := by omega
  have zg2 : g < w.heap.size + 1 + 1 := by omega
  have zg3 : g < w.heap.size + 1 + 1 + 1 := by omega
  simp at g0
  have m1 : Mod (fun _ => False) w (w.alloc (.cells #[.int .u8 5, .int .u32 (a : Int), .int .u32 (b : Int), .int .u8 (key : Int), .int .u8 (vk : Int), .int .i64 vn, .string vs] 71)).drew := ((Mod.refl _ _).alloc _).drew
  have HM1 := Lib.hid m1
  have la := hp.nm.look m1 ho.a
  have lb := hp.nm.look m1 ho.b
  obtain ⟨hnm, hni⟩ := findN_mem hf
  have hna := hp.nm.each n hnm
  have HNM := Lib.hid hnm
  have HNI := Lib.hid hni
  have HNA := Lib.hid hna
  have HOW := Lib.hid (hp.nm.own n hnm)
  have HOF := Lib.hid (fun e : g ∈ n.blocks => hp.goff (.inr ⟨n, hnm, e⟩))
  have p0 := cell_of_row hna.box 0
  have p1 := cell_of_row hna.box 1
  have zp := lt_of_block hna.box
  have zp1 : n.p < w.heap.size + 1 := by omega
  have zp2 : n.p < w.heap.size + 1 + 1 := by omega
  have zp3 : n.p < w.heap.size + 1 + 1 + 1 := by omega
  simp at p0 p1
  rw [hf] at la
  simp only [ptrN] at la
  rw [hfb] at lb
  simp only [ptrN] at lb
  have m9a : Mod (fun _ => False) w (w.alloc (.cells #[.int .u8 5, .int .u32 (a : Int), .int .u32 (b : Int), .int .u8 (key : Int), .int .u8 (vk : Int), .int .i64 vn, .string vs] 71)).drew.drew := m1.drew
  have m9b : Mod (fun _ => False) w (((w.alloc (.cells #[.int .u8 5, .int .u32 (a : Int), .int .u32 (b : Int), .int .u8 (key : Int), .int .u8 (vk : Int), .int .i64 vn, .string vs] 71)).alloc (.cells #[.int .u8 0, .int .i64 0, .string ⟨#[]⟩] 44)).drew.drew) := (((Mod.refl _ w).alloc _).alloc _).drew.drew
  have he1 := hna.edge m9a ho.b
  have he2 := hna.edge m9b ho.b
  rw [hx] at he1 he2
  simp only [valO, Option.isSome_some] at he1 he2
  have m9e : Mod (fun _ => False) w (((w.alloc (.cells #[.int .u8 5, .int .u32 (a : Int), .int .u32 (b : Int), .int .u8 (key : Int), .int .u8 (vk : Int), .int .i64 vn, .string vs] 71)).alloc (.cells #[.int .u8 (ek : Int), .int .i64 en, .string es] 44)).drew.drew) := (((Mod.refl _ w).alloc _).alloc _).drew.drew
  have HM9 := Lib.hid m9e
  clear hp hL ho hf hx m1 hna hnm hni m9a m9b hfb m9e
  go_enter Tryz.func53, Tryz.ntmps53
  go_wp2_with fail
  go_region
  go_wp2_with fail
  go_region
  all_goals
    go_wp2_with (go_at_call 74; refine (refusal_any 7 pos _ _ (by rfl)).mono ?_; (rintro e w9 ⟨rfl, rfl⟩))
    go_ret2
    exact RunP.no HONE.out (by omega) (RunNO.made HM9.out (by simp))
set_option maxRecDepth 100000 in
set_option maxHeartbeats 4000000 in
theorem run_5c (g bm : Nat) (ns : List Node) (a b key vk : Nat) (vn : Int) (vs : ByteArray) (pos : Int) (w : World) (hp : PG w g bm ns) (hL : Good (ns.map Node.x)) (ho : Opr.Fits ⟨5, a, b, key, ⟨vk, vn, vs⟩⟩) (n u : Node) (hf : findN ns a = some n) (hfb : findN ns b = some u) (hx : entX n.x.halves b = none) (hd : 16 ≤ n.x.halves.length) :
    Calls Tryz.prog 53 #[.pointer (some ⟨g, 0, none⟩), .int .i64 pos, .agg #[.int .u8 5, .int .u32 (a : Int), .int .u32 (b : Int), .int .u8 (key : Int), .int .u8 (vk : Int), .int .i64 vn, .string vs]] w (RunP g bm ns ⟨5, a, b, key, ⟨vk, vn, vs⟩⟩ pos w) := by
  have HONE : Hid (oneG (ns.map Node.x) ⟨5, a, b, key, ⟨vk, vn, vs⟩⟩ = ⟨10, ns.map Node.x, []⟩) := Lib.hid (by
    unfold oneG
    simp only [findN_map, hf, hfb, Option.map_some, Option.map_none, Nat.reduceEqDiff, if_false, if_true, hx, Option.isSome_none, Option.isSome_some, Bool.false_eq_true]
    rw [if_pos (by exact .inl hd)])
  have HP := Lib.hid hp
  have HL := Lib.hid hL
  have HO := Lib.hid ho
  have g0 := cell_of_row hp.cell 0
  have zg := lt_of_block hp.cell
  have zg1 : g < w.heap.size + 1 := by omega
  have zg2 : g < w.heap.size + 1 + 1 := by omega
  have zg3 : g < w.heap.size + 1 + 1 + 1 := by omega
  simp at g0
  have m1 : Mod (fun _ => False) w (w.alloc (.cells #[.int .u8 5, .int .u32 (a : Int), .int .u32 (b : Int), .int .u8 (key : Int), .int .u8 (vk : Int), .int .i64 vn, .string vs] 71)).drew := ((Mod.refl _ _).alloc _).drew
  have HM1 := Lib.hid m1
  have la := hp.nm.look m1 ho.a
  have lb := hp.nm.look m1 ho.b
  obtain ⟨hnm, hni⟩ := findN_mem hf
  have hna := hp.nm.each n hnm
  have HNM := Lib.hid hnm
  have HNI := Lib.hid hni
  have HNA := Lib.hid hna
  have HOW := Lib.hid (hp.nm.own n hnm)
  have HOF := Lib.hid (fun e : g ∈ n.blocks => hp.goff (.inr ⟨n, hnm, e⟩))
  have p0 := cell_of_row hna.box 0
  have p1 := cell_of_row hna.box 1
  have zp := lt_of_block hna.box
  have zp1 : n.p < w.heap.size + 1 := by omega
  have zp2 : n.p < w.heap.size + 1 + 1 := by omega
  have zp3 : n.p < w.heap.size + 1 + 1 + 1 := by omega
  simp at p0 p1
  rw [hf] at la
  simp only [ptrN] at la
  rw [hfb] at lb
  simp only [ptrN] at lb
  have m9a : Mod (fun _ => False) w (w.alloc (.cells #[.int .u8 5, .int .u32 (a : Int), .int .u32 (b : Int), .int .u8 (key : Int), .int .u8 (vk : Int), .int .i64 vn, .string vs] 71)).drew.drew := m1.drew
  have m9b : Mod (fun _ => False) w (((w.alloc (.cells #[.int .u8 5, .int .u32 (a : Int), .int .u32 (b : Int), .int .u8 (key : Int), .int .u8 (vk : Int), .int .i64 vn, .string vs] 71)).alloc (.cells #[.int .u8 0, .int .i64 0, .string ⟨#[]⟩] 44)).drew.drew) := (((Mod.refl _ w).alloc _).alloc _).drew.drew
  have he1 := hna.edge m9a ho.b
  have he2 := hna.edge m9b ho.b
  rw [hx] at he1 he2
  simp only [valO, Option.isSome_none] at he1 he2
  obtain ⟨hum, hui⟩ := findN_mem hfb
  have hua := hp.nm.each u hum
  have y0 := cell_of_row hua.box 0
  have y1 := cell_of_row hua.box 1
  have zu := lt_of_block hua.box
  have zu1 : u.p < w.heap.size + 1 := by omega
  have zu2 : u.p < w.heap.size + 1 + 1 := by omega
  have zu3 : u.p < w.heap.size + 1 + 1 + 1 := by omega
  simp at y0 y1
  have hl := hna.deg m9b 3
  have hlu := hua.deg m9b 3
  obtain ⟨d, hdd⟩ : ∃ d, d = n.x.halves.length := ⟨_, rfl⟩
  rw [← hdd] at hl
  obtain ⟨f, hff⟩ : ∃ f, f = u.x.halves.length := ⟨_, rfl⟩
  rw [← hff] at hlu
  rw [← hdd] at hd
  have hd' : (16 : Int) ≤ (d : Int) := by omega
  have HM9 := Lib.hid m9b
  clear hp hL ho hf hx m1 hna hnm hni m9a m9b hfb hua hum hui hdd hff hd 
  go_enter Tryz.func53, Tryz.ntmps53
  go_wp2_with fail
  go_region
  go_wp2_with fail
  go_region
  all_goals
    go_wp2_with (go_at_call 74; refine (refusal_any 10 pos _ _ (by rfl)).mono ?_; (rintro e w9 ⟨rfl, rfl⟩))
    go_ret2
    exact RunP.no HONE.out (by omega) (RunNO.made HM9.out (by simp))
set_option maxRecDepth 100000 in
set_option maxHeartbeats 4000000 in
theorem run_5e (g bm : Nat) (ns : List Node) (a b key vk : Nat) (vn : Int) (vs : ByteArray) (pos : Int) (w : World) (hp : PG w g bm ns) (hL : Good (ns.map Node.x)) (ho : Opr.Fits ⟨5, a, b, key, ⟨vk, vn, vs⟩⟩) (n u : Node) (hf : findN ns a = some n) (hfb : findN ns b = some u) (hx : entX n.x.halves b = none) (hd : ¬ 16 ≤ n.x.halves.length) (hd2 : 16 ≤ u.x.halves.length) :
    Calls Tryz.prog 53 #[.pointer (some ⟨g, 0, none⟩), .int .i64 pos, .agg #[.int .u8 5, .int .u32 (a : Int), .int .u32 (b : Int), .int .u8 (key : Int), .int .u8 (vk : Int), .int .i64 vn, .string vs]] w (RunP g bm ns ⟨5, a, b, key, ⟨vk, vn, vs⟩⟩ pos w) := by
  have HONE : Hid (oneG (ns.map Node.x) ⟨5, a, b, key, ⟨vk, vn, vs⟩⟩ = ⟨10, ns.map Node.x, []⟩) := Lib.hid (by
    unfold oneG
    simp only [findN_map, hf, hfb, Option.map_some, Option.map_none, Nat.reduceEqDiff, if_false, if_true, hx, Option.isSome_none, Option.isSome_some, Bool.false_eq_true]
    rw [if_pos (by exact .inr hd2)])
  have HP := Lib.hid hp
  have HL := Lib.hid hL
  have HO := Lib.hid ho
  have g0 := cell_of_row hp.cell 0
  have zg := lt_of_block hp.cell
  have zg1 : g < w.heap.size + 1 := by omega
  have zg2 : g < w.heap.size + 1 + 1 := by omega
  have zg3 : g < w.heap.size + 1 + 1 + 1 := by omega
  simp at g0
  have m1 : Mod (fun _ => False) w (w.alloc (.cells #[.int .u8 5, .int .u32 (a : Int), .int .u32 (b : Int), .int .u8 (key : Int), .int .u8 (vk : Int), .int .i64 vn, .string vs] 71)).drew := ((Mod.refl _ _).alloc _).drew
  have HM1 := Lib.hid m1
  have la := hp.nm.look m1 ho.a
  have lb := hp.nm.look m1 ho.b
  obtain ⟨hnm, hni⟩ := findN_mem hf
  have hna := hp.nm.each n hnm
  have HNM := Lib.hid hnm
  have HNI := Lib.hid hni
  have HNA := Lib.hid hna
  have HOW := Lib.hid (hp.nm.own n hnm)
  have HOF := Lib.hid (fun e : g ∈ n.blocks => hp.goff (.inr ⟨n, hnm, e⟩))
  have p0 := cell_of_row hna.box 0
  have p1 := cell_of_row hna.box 1
  have zp := lt_of_block hna.box
  have zp1 : n.p < w.heap.size + 1 := by omega
  have zp2 : n.p < w.heap.size + 1 + 1 := by omega
  have zp3 : n.p < w.heap.size + 1 + 1 + 1 := by omega
  simp at p0 p1
  rw [hf] at la
  simp only [ptrN] at la
  rw [hfb] at lb
  simp only [ptrN] at lb
  have m9a : Mod (fun _ => False) w (w.alloc (.cells #[.int .u8 5, .int .u32 (a : Int), .int .u32 (b : Int), .int .u8 (key : Int), .int .u8 (vk : Int), .int .i64 vn, .string vs] 71)).drew.drew := m1.drew
  have m9b : Mod (fun _ => False) w (((w.alloc (.cells #[.int .u8 5, .int .u32 (a : Int), .int .u32 (b : Int), .int .u8 (key : Int), .int .u8 (vk : Int), .int .i64 vn, .string vs] 71)).alloc (.cells #[.int .u8 0, .int .i64 0, .string ⟨#[]⟩] 44)).drew.drew) := (((Mod.refl _ w).alloc _).alloc _).drew.drew
  have he1 := hna.edge m9a ho.b
  have he2 := hna.edge m9b ho.b
  rw [hx] at he1 he2
  simp only [valO, Option.isSome_none] at he1 he2
  obtain ⟨hum, hui⟩ := findN_mem hfb
  have hua := hp.nm.each u hum
  have y0 := cell_of_row hua.box 0
  have y1 := cell_of_row hua.box 1
  have zu := lt_of_block hua.box
  have zu1 : u.p < w.heap.size + 1 := by omega
  have zu2 : u.p < w.heap.size + 1 + 1 := by omega
  have zu3 : u.p < w.heap.size + 1 + 1 + 1 := by omega
  simp at y0 y1
  have hl := hna.deg m9b 3
  have hlu := hua.deg m9b 3
  obtain ⟨d, hdd⟩ : ∃ d, d = n.x.halves.length := ⟨_, rfl⟩
  rw [← hdd] at hl
  obtain ⟨f, hff⟩ : ∃ f, f = u.x.halves.length := ⟨_, rfl⟩
  rw [← hff] at hlu
  rw [← hdd] at hd
  rw [← hff] at hd2
  have hd' : ¬ (16 : Int) ≤ (d : Int) := by omega
  have hd3 : (16 : Int) ≤ (f : Int) := by omega
  have HM9 := Lib.hid m9b
  clear hp hL ho hf hx m1 hna hnm hni m9a m9b hfb hua hum hui hdd hff hd hd2
  go_enter Tryz.func53, Tryz.ntmps53
  go_wp2_with fail
  go_region
  go_wp2_with fail
  go_region
  all_goals
    go_wp2_with (go_at_call 74; refine (refusal_any 10 pos _ _ (by rfl)).mono ?_; (rintro e w9 ⟨rfl, rfl⟩))
    go_ret2
    exact RunP.no HONE.out (by omega) (RunNO.made HM9.out (by simp))
end Go.Proofs.YtbgjbikpenefoaaGreatDoor
