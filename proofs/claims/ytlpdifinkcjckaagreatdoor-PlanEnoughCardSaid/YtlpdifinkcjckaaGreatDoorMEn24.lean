import Derived.Test.YtlpdifinkcjckaaGreatDoorMEn23
set_option linter.unusedVariables false
set_option linter.unusedSimpArgs false
namespace Go.Proofs.YtlpdifinkcjckaaGreatDoor
open Go.RowKit Go.Maps
theorem b0_2 {a b key vk : Nat} {vn : Int} {vs : ByteArray} {ns : List Node} (hL : Fair (ns.map Node.x)) (hok : opOK ⟨2, a, b, key, ⟨vk, vn, vs⟩⟩ = true) {n : Node} (hn : n ∈ ns) : entX n.x.halves b = none := by
 have hb : b = 0 := by
   unfold opOK at hok
   simp only [Opr.two, Opr.hasKey, Opr.hasVal, Bool.and_eq_true] at hok
   simpa using hok.1.1.2
 subst hb
 rw [entX_isNone]
 intro e he h0
 have := ((hL.each n.x (List.mem_map_of_mem hn)).halves e he).1
 omega
set_option maxRecDepth 100000 in
set_option maxHeartbeats 4000000 in
theorem run_2a (g bm : Nat) (ns : List Node) (a b key vk : Nat) (vn : Int) (vs : ByteArray) (pos : Int) (w : World) (hp : PG w g bm ns) (hL : Fair (ns.map Node.x)) (ho : Opr.Fits ⟨2, a, b, key, ⟨vk, vn, vs⟩⟩) (n : Node) (hf : findN ns a = some n) (hx : entX n.x.halves b = none) (hd : 0 < n.x.halves.length) :
   Calls Tryz.prog 56 #[.pointer (some ⟨g, 0, none⟩), .int .i64 pos, .agg #[.int .u8 2, .int .u32 (a : Int), .int .u32 (b : Int), .int .u8 (key : Int), .int .u8 (vk : Int), .int .i64 vn, .string vs]] w (RunP g bm ns ⟨2, a, b, key, ⟨vk, vn, vs⟩⟩ pos w) := by
 have HONE : Hid (oneG (ns.map Node.x) ⟨2, a, b, key, ⟨vk, vn, vs⟩⟩ = ⟨8, ns.map Node.x, []⟩) := Lib.hid (by unfold oneG; simp only [findN_map, hf, Option.map_some, Nat.reduceEqDiff, if_false, if_true, hd])
 have HP := Lib.hid hp
 have HL := Lib.hid hL
 have HO := Lib.hid ho
 have g0 := cell_of_row hp.cell 0
 have zg := lt_of_block hp.cell
 have zg1 : g < w.heap.size + 1 := by omega
 have zg2 : g < w.heap.size + 1 + 1 := by omega
 have zg3 : g < w.heap.size + 1 + 1 + 1 := by omega
 simp at g0
 have m1 : Mod (fun _ => False) w (w.alloc (.cells #[.int .u8 2, .int .u32 (a : Int), .int .u32 (b : Int), .int .u8 (key : Int), .int .u8 (vk : Int), .int .i64 vn, .string vs] 82)).drew := ((Mod.refl _ _).alloc _).drew
 have HM1 := Lib.hid m1
 have la := hp.nm.look m1 ho.a
 have lb := hp.nm.look m1 ho.b
 obtain ⟨hnm, hni⟩ := findN_mem hf
 have hna := hp.nm.each n hnm
 have HNM := Lib.hid hnm
 have HNI := Lib.hid hni
 have HNA := Lib.hid hna
 have HOW := Lib.hid (hp.nm.own n hnm)
 have HOF := Lib.hid (fun e : g ∈ n.blocks => hp.goff (.inr ⟨n, hnm, e⟩))
 have p0 := cell_of_row hna.box 0
 have p1 := cell_of_row hna.box 1
 have zp := lt_of_block hna.box
 have zp1 : n.p < w.heap.size + 1 := by omega
 have zp2 : n.p < w.heap.size + 1 + 1 := by omega
 have zp3 : n.p < w.heap.size + 1 + 1 + 1 := by omega
 simp at p0 p1
 rw [hf] at la
 simp only [ptrN] at la
 generalize ptrN (findN ns b) = pb at lb
 have m9a : Mod (fun _ => False) w (w.alloc (.cells #[.int .u8 2, .int .u32 (a : Int), .int .u32 (b : Int), .int .u8 (key : Int), .int .u8 (vk : Int), .int .i64 vn, .string vs] 82)).drew.drew := m1.drew
 have m9b : Mod (fun _ => False) w (((w.alloc (.cells #[.int .u8 2, .int .u32 (a : Int), .int .u32 (b : Int), .int .u8 (key : Int), .int .u8 (vk : Int), .int .i64 vn, .string vs] 82)).alloc (.cells #[.int .u8 0, .int .i64 0, .string ⟨#[]⟩] 68)).drew.drew) := (((Mod.refl _ w).alloc _).alloc _).drew.drew
 have he1 := hna.edge m9a ho.b
 have he2 := hna.edge m9b ho.b
 rw [hx] at he1 he2
 simp only [valO, Option.isSome_none] at he1 he2
 have hl := hna.deg m9b 3
 obtain ⟨d, hdd⟩ : ∃ d, d = n.x.halves.length := ⟨_, rfl⟩
 rw [← hdd] at hl hd
 have hd' : (0 : Int) < (d : Int) := by omega
 have HM9 := Lib.hid m9b
 clear hp hL ho hf hx m1 hna hnm hni m9a m9b hdd hd
 go_enter Tryz.func56, Tryz.ntmps56
 go_wp2_with fail
 go_region
 go_wp2_with fail
 go_region
 all_goals
   go_wp2_with (go_at_call 83; refine (refusal_any 8 pos _ _ (by rfl)).mono ?_; (rintro e w9 ⟨rfl, rfl⟩))
   go_ret2
   exact RunP.no HONE.out (by omega) (RunNO.made HM9.out (by simp))
set_option maxRecDepth 100000 in
set_option maxHeartbeats 4000000 in
theorem run_2b (g bm : Nat) (ns : List Node) (a b key vk : Nat) (vn : Int) (vs : ByteArray) (pos : Int) (w : World) (hp : PG w g bm ns) (hL : Fair (ns.map Node.x)) (ho : Opr.Fits ⟨2, a, b, key, ⟨vk, vn, vs⟩⟩) (n : Node) (hf : findN ns a = some n) (hx : entX n.x.halves b = none) (hd : n.x.halves.length = 0) :
   Calls Tryz.prog 56 #[.pointer (some ⟨g, 0, none⟩), .int .i64 pos, .agg #[.int .u8 2, .int .u32 (a : Int), .int .u32 (b : Int), .int .u8 (key : Int), .int .u8 (vk : Int), .int .i64 vn, .string vs]] w (RunP g bm ns ⟨2, a, b, key, ⟨vk, vn, vs⟩⟩ pos w) := by
 have HONE : Hid (oneG (ns.map Node.x) ⟨2, a, b, key, ⟨vk, vn, vs⟩⟩ = ⟨0, layV ⟨a, false, [], []⟩ (ns.map Node.x), []⟩) := Lib.hid (by unfold oneG; simp only [findN_map, hf, Option.map_some, Nat.reduceEqDiff, if_false, if_true, hd, Nat.lt_irrefl])
 have HP := Lib.hid hp
 have HL := Lib.hid hL
 have HO := Lib.hid ho
 have g0 := cell_of_row hp.cell 0
 have zg := lt_of_block hp.cell
 have zg1 : g < w.heap.size + 1 := by omega
 have zg2 : g < w.heap.size + 1 + 1 := by omega
 have zg3 : g < w.heap.size + 1 + 1 + 1 := by omega
 simp at g0
 have m1 : Mod (fun _ => False) w (w.alloc (.cells #[.int .u8 2, .int .u32 (a : Int), .int .u32 (b : Int), .int .u8 (key : Int), .int .u8 (vk : Int), .int .i64 vn, .string vs] 82)).drew := ((Mod.refl _ _).alloc _).drew
 have HM1 := Lib.hid m1
 have la := hp.nm.look m1 ho.a
 have lb := hp.nm.look m1 ho.b
 obtain ⟨hnm, hni⟩ := findN_mem hf
 have hna := hp.nm.each n hnm
 have HNM := Lib.hid hnm
 have HNI := Lib.hid hni
 have HNA := Lib.hid hna
 have HOW := Lib.hid (hp.nm.own n hnm)
 have HOF := Lib.hid (fun e : g ∈ n.blocks => hp.goff (.inr ⟨n, hnm, e⟩))
 have p0 := cell_of_row hna.box 0
 have p1 := cell_of_row hna.box 1
 have zp := lt_of_block hna.box
 have zp1 : n.p < w.heap.size + 1 := by omega
 have zp2 : n.p < w.heap.size + 1 + 1 := by omega
 have zp3 : n.p < w.heap.size + 1 + 1 + 1 := by omega
 simp at p0 p1
 rw [hf] at la
 simp only [ptrN] at la
 generalize ptrN (findN ns b) = pb at lb
 have m9a : Mod (fun _ => False) w (w.alloc (.cells #[.int .u8 2, .int .u32 (a : Int), .int .u32 (b : Int), .int .u8 (key : Int), .int .u8 (vk : Int), .int .i64 vn, .string vs] 82)).drew.drew := m1.drew
 have m9b : Mod (fun _ => False) w (((w.alloc (.cells #[.int .u8 2, .int .u32 (a : Int), .int .u32 (b : Int), .int .u8 (key : Int), .int .u8 (vk : Int), .int .i64 vn, .string vs] 82)).alloc (.cells #[.int .u8 0, .int .i64 0, .string ⟨#[]⟩] 68)).drew.drew) := (((Mod.refl _ w).alloc _).alloc _).drew.drew
 have he1 := hna.edge m9a ho.b
 have he2 := hna.edge m9b ho.b
 rw [hx] at he1 he2
 simp only [valO, Option.isSome_none] at he1 he2
 have hl := hna.deg m9b 3
 rw [hd] at hl
 obtain ⟨w5, s5, hU, hM⟩ := (hp.nm.map.keep m9b.drew).drop Tryz.underlying27 Tryz.underlying84 (u32key ho.a) 0
 have HT : Hid (Turned g bm ns (layV ⟨a, false, [], []⟩ (ns.map Node.x)) (fun k => k ≠ a) w w5 (dropN a ns)) := Lib.hid ((Turned.drop (hp.keep m9b.drew) a hM hU).keep m9b.drew (Mod.refl _ _))
 clear hp hL ho hf hx m1 hna hnm hni m9a m9b hU hM hd
 go_enter Tryz.func56, Tryz.ntmps56
 go_wp2_with fail
 go_region
 go_wp2_with fail
 go_region
 all_goals
   go_wp2_with fail
   go_region
   all_goals
     go_wp2_with fail
     go_ret2
     exact RunP.ok HONE.out ⟨_, _, rfl, ⟨HT.out.pg, HT.out.is, HT.out.mod, HT.out.new, HT.out.newM, fun n hn => HT.out.same n hn.1⟩, RdS.none _ _⟩
theorem b0_8 {a b key vk : Nat} {vn : Int} {vs : ByteArray} {ns : List Node} (hL : Fair (ns.map Node.x)) (hok : opOK ⟨8, a, b, key, ⟨vk, vn, vs⟩⟩ = true) {n : Node} (hn : n ∈ ns) : entX n.x.halves b = none := by
 have hb : b = 0 := by
   unfold opOK at hok
   simp only [Opr.two, Opr.hasKey, Opr.hasVal, Bool.and_eq_true] at hok
   simpa using hok.1.1.2
 subst hb
 rw [entX_isNone]
 intro e he h0
 have := ((hL.each n.x (List.mem_map_of_mem hn)).halves e he).1
 omega
set_option maxRecDepth 100000 in
set_option maxHeartbeats 4000000 in
theorem run_8 (g bm : Nat) (ns : List Node) (a b key vk : Nat) (vn : Int) (vs : ByteArray) (pos : Int) (w : World) (hp : PG w g bm ns) (hL : Fair (ns.map Node.x)) (ho : Opr.Fits ⟨8, a, b, key, ⟨vk, vn, vs⟩⟩) (n : Node) (hf : findN ns a = some n) (hx : entX n.x.halves b = none) :
   Calls Tryz.prog 56 #[.pointer (some ⟨g, 0, none⟩), .int .i64 pos, .agg #[.int .u8 8, .int .u32 (a : Int), .int .u32 (b : Int), .int .u8 (key : Int), .int .u8 (vk : Int), .int .i64 vn, .string vs]] w (RunP g bm ns ⟨8, a, b, key, ⟨vk, vn, vs⟩⟩ pos w) := by
 have HONE : Hid (oneG (ns.map Node.x) ⟨8, a, b, key, ⟨vk, vn, vs⟩⟩ = ⟨0, ns.map Node.x, [⟨1, (n.x.halves.length : Int), ⟨#[]⟩⟩]⟩) := Lib.hid (by unfold oneG; simp only [findN_map, hf, Option.map_some, Nat.reduceEqDiff, if_false, if_true, false_or, or_self])
 have HP := Lib.hid hp
 have HL := Lib.hid hL
 have HO := Lib.hid ho
 have g0 := cell_of_row hp.cell 0
 have zg := lt_of_block hp.cell
 have zg1 : g < w.heap.size + 1 := by omega
 have zg2 : g < w.heap.size + 1 + 1 := by omega
 have zg3 : g < w.heap.size + 1 + 1 + 1 := by omega
 simp at g0
 have m1 : Mod (fun _ => False) w (w.alloc (.cells #[.int .u8 8, .int .u32 (a : Int), .int .u32 (b : Int), .int .u8 (key : Int), .int .u8 (vk : Int), .int .i64 vn, .string vs] 82)).drew := ((Mod.refl _ _).alloc _).drew
 have HM1 := Lib.hid m1
 have la := hp.nm.look m1 ho.a
 have lb := hp.nm.look m1 ho.b
 obtain ⟨hnm, hni⟩ := findN_mem hf
 have hna := hp.nm.each n hnm
 have HNM := Lib.hid hnm
 have HNI := Lib.hid hni
 have HNA := Lib.hid hna
 have HOW := Lib.hid (hp.nm.own n hnm)
 have HOF := Lib.hid (fun e : g ∈ n.blocks => hp.goff (.inr ⟨n, hnm, e⟩))
 have p0 := cell_of_row hna.box 0
 have p1 := cell_of_row hna.box 1
 have zp := lt_of_block hna.box
 have zp1 : n.p < w.heap.size + 1 := by omega
 have zp2 : n.p < w.heap.size + 1 + 1 := by omega
 have zp3 : n.p < w.heap.size + 1 + 1 + 1 := by omega
 simp at p0 p1
 rw [hf] at la
 simp only [ptrN] at la
 generalize ptrN (findN ns b) = pb at lb
 have m9a : Mod (fun _ => False) w (w.alloc (.cells #[.int .u8 8, .int .u32 (a : Int), .int .u32 (b : Int), .int .u8 (key : Int), .int .u8 (vk : Int), .int .i64 vn, .string vs] 82)).drew.drew := m1.drew
 have m9b : Mod (fun _ => False) w (((w.alloc (.cells #[.int .u8 8, .int .u32 (a : Int), .int .u32 (b : Int), .int .u8 (key : Int), .int .u8 (vk : Int), .int .i64 vn, .string vs] 82)).alloc (.cells #[.int .u8 0, .int .i64 0, .string ⟨#[]⟩] 68)).drew.drew) := (((Mod.refl _ w).alloc _).alloc _).drew.drew
 have he1 := hna.edge m9a ho.b
 have he2 := hna.edge m9b ho.b
 rw [hx] at he1 he2
 simp only [valO, Option.isSome_none] at he1 he2
 have hl := hna.deg m9b 3
 obtain ⟨d, hdd⟩ : ∃ d, d = n.x.halves.length := ⟨_, rfl⟩
 rw [← hdd] at hl
 have HD := Lib.hid hdd
 have hd9 : d < 9223372036854775807 := by
   have := (hL.each n.x (List.mem_map_of_mem hnm)).few
   omega
 have HM9 := Lib.hid m9b
 clear hp hL ho hf hx m1 hna hnm hni m9a m9b hdd
 go_enter Tryz.func56, Tryz.ntmps56
 go_wp2_with fail
 go_region
 go_wp2_with fail
 go_region
 all_goals
   go_wp2_with fail
   go_ret2
   refine RunP.ok HONE.out ⟨_, _, rfl, Turned.idle HP.out (HM9.out.alloc _) _, ?_⟩
   have h := rd_lit (((w.alloc (.cells #[.int .u8 8, .int .u32 (a : Int), .int .u32 (b : Int), .int .u8 (key : Int), .int .u8 (vk : Int), .int .i64 vn, .string vs] 82)).alloc (.cells #[.int .u8 0, .int .i64 0, .string ⟨#[]⟩] 68)).drew.drew) 68 #[.int .u8 1, .int .i64 (d : Int), .string ⟨#[]⟩] 1 3 (w.heap.size + 1 + 1) (by simp) rfl (by unfold maxLen; omega) (by simp [Value.oneCell'])
   rw [← HD.out]
   exact h
open Go.RowKit Go.Maps
theorem b0_3 {a b key vk : Nat} {vn : Int} {vs : ByteArray} {ns : List Node} (hL : Fair (ns.map Node.x)) (hok : opOK ⟨3, a, b, key, ⟨vk, vn, vs⟩⟩ = true) {n : Node} (hn : n ∈ ns) : entX n.x.halves b = none := by
 have hb : b = 0 := by
   unfold opOK at hok
   simp only [Opr.two, Opr.hasKey, Opr.hasVal, Bool.and_eq_true] at hok
   simpa using hok.1.1.2
 subst hb
 rw [entX_isNone]
 intro e he h0
 have := ((hL.each n.x (List.mem_map_of_mem hn)).halves e he).1
 omega
set_option maxRecDepth 100000 in
set_option maxHeartbeats 4000000 in
theorem run_3a (g bm : Nat) (ns : List Node) (a b key vk : Nat) (vn : Int) (vs : ByteArray) (pos : Int) (w : World) (hp : PG w g bm ns) (hL : Fair (ns.map Node.x)) (ho : Opr.Fits ⟨3, a, b, key, ⟨vk, vn, vs⟩⟩) (n : Node) (hf : findN ns a = some n) (hx : entX n.x.halves b = none) (hkey : key ≤ 3) (hz : vk ≠ 0) :
   Calls Tryz.prog 56 #[.pointer (some ⟨g, 0, none⟩), .int .i64 pos, .agg #[.int .u8 3, .int .u32 (a : Int), .int .u32 (b : Int), .int .u8 (key : Int), .int .u8 (vk : Int), .int .i64 vn, .string vs]] w (RunP g bm ns ⟨3, a, b, key, ⟨vk, vn, vs⟩⟩ pos w) := by
 have HONE : Hid (oneG (ns.map Node.x) ⟨3, a, b, key, ⟨vk, vn, vs⟩⟩ = ⟨0, layV (setP n.x key ⟨vk, vn, vs⟩) (ns.map Node.x), []⟩) := Lib.hid (by unfold oneG; simp only [findN_map, hf, Option.map_some, Nat.reduceEqDiff, if_false, if_true])
 have HP := Lib.hid hp
 have HL := Lib.hid hL
 have HO := Lib.hid ho
 have g0 := cell_of_row hp.cell 0
 have zg := lt_of_block hp.cell
 have zg1 : g < w.heap.size + 1 := by omega
 have zg2 : g < w.heap.size + 1 + 1 := by omega
 have zg3 : g < w.heap.size + 1 + 1 + 1 := by omega
 simp at g0
 have m1 : Mod (fun _ => False) w (w.alloc (.cells #[.int .u8 3, .int .u32 (a : Int), .int .u32 (b : Int), .int .u8 (key : Int), .int .u8 (vk : Int), .int .i64 vn, .string vs] 82)).drew := ((Mod.refl _ _).alloc _).drew
 have HM1 := Lib.hid m1
 have la := hp.nm.look m1 ho.a
 have lb := hp.nm.look m1 ho.b
 obtain ⟨hnm, hni⟩ := findN_mem hf
 have hna := hp.nm.each n hnm
 have HNM := Lib.hid hnm
 have HNI := Lib.hid hni
 have HNA := Lib.hid hna
 have HOW := Lib.hid (hp.nm.own n hnm)
 have HOF := Lib.hid (fun e : g ∈ n.blocks => hp.goff (.inr ⟨n, hnm, e⟩))
 have p0 := cell_of_row hna.box 0
 have p1 := cell_of_row hna.box 1
 have zp := lt_of_block hna.box
 have zp1 : n.p < w.heap.size + 1 := by omega
 have zp2 : n.p < w.heap.size + 1 + 1 := by omega
 have zp3 : n.p < w.heap.size + 1 + 1 + 1 := by omega
 simp at p0 p1
 rw [hf] at la
 simp only [ptrN] at la
 generalize ptrN (findN ns b) = pb at lb
 have m9a : Mod (fun _ => False) w (w.alloc (.cells #[.int .u8 3, .int .u32 (a : Int), .int .u32 (b : Int), .int .u8 (key : Int), .int .u8 (vk : Int), .int .i64 vn, .string vs] 82)).drew.drew := m1.drew
 have m9b : Mod (fun _ => False) w (((w.alloc (.cells #[.int .u8 3, .int .u32 (a : Int), .int .u32 (b : Int), .int .u8 (key : Int), .int .u8 (vk : Int), .int .i64 vn, .string vs] 82)).alloc (.cells #[.int .u8 0, .int .i64 0, .string ⟨#[]⟩] 68)).drew.drew) := (((Mod.refl _ w).alloc _).alloc _).drew.drew
 have he1 := hna.edge m9a ho.b
 have he2 := hna.edge m9b ho.b
 rw [hx] at he1 he2
 simp only [valO, Option.isSome_none] at he1 he2
 have hbx : (((w.alloc (.cells #[.int .u8 3, .int .u32 (a : Int), .int .u32 (b : Int), .int .u8 (key : Int), .int .u8 (vk : Int), .int .i64 vn, .string vs] 82)).alloc (.cells #[.int .u8 0, .int .i64 0, .string ⟨#[]⟩] 68)).drew.drew).drew.heap[w.heap.size]? = some (.cells #[.int .u8 3, .int .u32 (a : Int), .int .u32 (b : Int), .int .u8 (key : Int), .int .u8 (vk : Int), .int .i64 vn, .string vs] 82 (0, 0)) := by
   have m : Mod (fun _ => False) (w.alloc (.cells #[.int .u8 3, .int .u32 (a : Int), .int .u32 (b : Int), .int .u8 (key : Int), .int .u8 (vk : Int), .int .i64 vn, .string vs] 82)) (((w.alloc (.cells #[.int .u8 3, .int .u32 (a : Int), .int .u32 (b : Int), .int .u8 (key : Int), .int .u8 (vk : Int), .int .i64 vn, .string vs] 82)).alloc (.cells #[.int .u8 0, .int .i64 0, .string ⟨#[]⟩] 68)).drew.drew).drew := ((Mod.refl _ _).alloc _).drew.drew.drew
   exact m.heap (heap_alloc_new' w _) (fun f => f)
 have hvg := hL.each n.x (List.mem_map_of_mem hnm)
 have hlen : (pents n.x.props).length < maxLen := by
   have := hvg.props_short
   rw [pents_length]
   unfold maxLen; omega
 obtain ⟨w5, s5, hU, hM⟩ := (hna.props.keep m9b.drew).store Tryz.underlying5 Tryz.underlying101 hlen (u8key ho.key) (.agg #[.int .u8 (vk : Int), .int .i64 vn, .string vs])
 have hmp : n.mp < w.heap.size := hna.props.lt
 have hb5 := hM.heap hbx (by omega)
 have hn5 := hM.heap (m9b.drew.heap hna.box (fun f => f)) HOW.out.1
 have c0 := cell_of_row hb5 0
 have c3 := cell_of_row hb5 3
 have c4 := cell_of_row hb5 4
 have zc := lt_of_block hb5
 have q0 := cell_of_row hn5 0
 have zq := lt_of_block hn5
 simp at c0 c3 c4 q0
 rw [show (.agg #[.int .u8 (vk : Int), .int .i64 vn, .string vs] : Value) = Val.v ⟨vk, vn, vs⟩ from rfl, putL_pents key ⟨vk, vn, vs⟩ hvg.prise] at hU
 have hd0 : decide ((⟨vk, vn, vs⟩ : Val).k = 0) = false := by simpa using hz
 have HT : Hid (Turned g bm ns (layV (setP n.x key ⟨vk, vn, vs⟩) (ns.map Node.x)) (fun k => k ≠ n.x.id) w w5 (replN ⟨setP n.x key ⟨vk, vn, vs⟩, n.p, n.mp, n.me⟩ ns)) := Lib.hid ((Turned.repl (hp.keep m9b.drew) (n := ⟨setP n.x key ⟨vk, vn, vs⟩, n.p, n.mp, n.me⟩) hnm rfl hvg.there rfl hM (fun b e => .inl e) ⟨hn5, by show UMap _ _ _ _ _ (pents (layG Ent.key ⟨key, ⟨vk, vn, vs⟩⟩ (decide ((⟨vk, vn, vs⟩ : Val).k = 0)) n.x.props)); rw [hd0]; exact hU, (hna.edges.keep m9b.drew).mod hM (fun e => HOW.out.2.2 e.symm), fits_setP hna.fit ho.key ho.val⟩).keep m9b.drew (Mod.refl _ _))
 have hz' : ((vk : Int) == 0) = false := by simp; omega
 clear hp hL ho hf hx m1 hna hnm hni m9a m9b hU hM hvg hlen hbx hb5 hn5 hd0 hz hkey
 go_enter Tryz.func56, Tryz.ntmps56
 go_wp2_with fail
 go_region
 go_wp2_with fail
 go_region
 all_goals
   go_wp2_with fail
   go_region
   all_goals
     go_wp2_with fail
     go_ret2
     exact RunP.ok HONE.out ⟨_, _, rfl, ⟨HT.out.pg, HT.out.is, HT.out.mod, HT.out.new, HT.out.newM, fun m hm => HT.out.same m (by rw [HNI.out]; exact hm.1)⟩, RdS.none _ _⟩
set_option maxRecDepth 100000 in
set_option maxHeartbeats 4000000 in
theorem run_3b (g bm : Nat) (ns : List Node) (a b key vk : Nat) (vn : Int) (vs : ByteArray) (pos : Int) (w : World) (hp : PG w g bm ns) (hL : Fair (ns.map Node.x)) (ho : Opr.Fits ⟨3, a, b, key, ⟨vk, vn, vs⟩⟩) (n : Node) (hf : findN ns a = some n) (hx : entX n.x.halves b = none) (hkey : key ≤ 3) (hz : vk = 0) :
   Calls Tryz.prog 56 #[.pointer (some ⟨g, 0, none⟩), .int .i64 pos, .agg #[.int .u8 3, .int .u32 (a : Int), .int .u32 (b : Int), .int .u8 (key : Int), .int .u8 (vk : Int), .int .i64 vn, .string vs]] w (RunP g bm ns ⟨3, a, b, key, ⟨vk, vn, vs⟩⟩ pos w) := by
 have HONE : Hid (oneG (ns.map Node.x) ⟨3, a, b, key, ⟨vk, vn, vs⟩⟩ = ⟨0, layV (setP n.x key ⟨vk, vn, vs⟩) (ns.map Node.x), []⟩) := Lib.hid (by unfold oneG; simp only [findN_map, hf, Option.map_some, Nat.reduceEqDiff, if_false, if_true])
 have HP := Lib.hid hp
 have HL := Lib.hid hL
 have HO := Lib.hid ho
 have g0 := cell_of_row hp.cell 0
 have zg := lt_of_block hp.cell
 have zg1 : g < w.heap.size + 1 := by omega
 have zg2 : g < w.heap.size + 1 + 1 := by omega
 have zg3 : g < w.heap.size + 1 + 1 + 1 := by omega
 simp at g0
 have m1 : Mod (fun _ => False) w (w.alloc (.cells #[.int .u8 3, .int .u32 (a : Int), .int .u32 (b : Int), .int .u8 (key : Int), .int .u8 (vk : Int), .int .i64 vn, .string vs] 82)).drew := ((Mod.refl _ _).alloc _).drew
 have HM1 := Lib.hid m1
 have la := hp.nm.look m1 ho.a
 have lb := hp.nm.look m1 ho.b
 obtain ⟨hnm, hni⟩ := findN_mem hf
 have hna := hp.nm.each n hnm
 have HNM := Lib.hid hnm
 have HNI := Lib.hid hni
 have HNA := Lib.hid hna
 have HOW := Lib.hid (hp.nm.own n hnm)
 have HOF := Lib.hid (fun e : g ∈ n.blocks => hp.goff (.inr ⟨n, hnm, e⟩))
 have p0 := cell_of_row hna.box 0
 have p1 := cell_of_row hna.box 1
 have zp := lt_of_block hna.box
 have zp1 : n.p < w.heap.size + 1 := by omega
 have zp2 : n.p < w.heap.size + 1 + 1 := by omega
 have zp3 : n.p < w.heap.size + 1 + 1 + 1 := by omega
 simp at p0 p1
 rw [hf] at la
 simp only [ptrN] at la
 generalize ptrN (findN ns b) = pb at lb
 have m9a : Mod (fun _ => False) w (w.alloc (.cells #[.int .u8 3, .int .u32 (a : Int), .int .u32 (b : Int), .int .u8 (key : Int), .int .u8 (vk : Int), .int .i64 vn, .string vs] 82)).drew.drew := m1.drew
 have m9b : Mod (fun _ => False) w (((w.alloc (.cells #[.int .u8 3, .int .u32 (a : Int), .int .u32 (b : Int), .int .u8 (key : Int), .int .u8 (vk : Int), .int .i64 vn, .string vs] 82)).alloc (.cells #[.int .u8 0, .int .i64 0, .string ⟨#[]⟩] 68)).drew.drew) := (((Mod.refl _ w).alloc _).alloc _).drew.drew
 have he1 := hna.edge m9a ho.b
 have he2 := hna.edge m9b ho.b
 rw [hx] at he1 he2
 simp only [valO, Option.isSome_none] at he1 he2
 have hbx : (((w.alloc (.cells #[.int .u8 3, .int .u32 (a : Int), .int .u32 (b : Int), .int .u8 (key : Int), .int .u8 (vk : Int), .int .i64 vn, .string vs] 82)).alloc (.cells #[.int .u8 0, .int .i64 0, .string ⟨#[]⟩] 68)).drew.drew).drew.heap[w.heap.size]? = some (.cells #[.int .u8 3, .int .u32 (a : Int), .int .u32 (b : Int), .int .u8 (key : Int), .int .u8 (vk : Int), .int .i64 vn, .string vs] 82 (0, 0)) := by
   have m : Mod (fun _ => False) (w.alloc (.cells #[.int .u8 3, .int .u32 (a : Int), .int .u32 (b : Int), .int .u8 (key : Int), .int .u8 (vk : Int), .int .i64 vn, .string vs] 82)) (((w.alloc (.cells #[.int .u8 3, .int .u32 (a : Int), .int .u32 (b : Int), .int .u8 (key : Int), .int .u8 (vk : Int), .int .i64 vn, .string vs] 82)).alloc (.cells #[.int .u8 0, .int .i64 0, .string ⟨#[]⟩] 68)).drew.drew).drew := ((Mod.refl _ _).alloc _).drew.drew.drew
   exact m.heap (heap_alloc_new' w _) (fun f => f)
 have hvg := hL.each n.x (List.mem_map_of_mem hnm)
 have hlen : (pents n.x.props).length < maxLen := by
   have := hvg.props_short
   rw [pents_length]
   unfold maxLen; omega
 obtain ⟨w5, s5, hU, hM⟩ := (hna.props.keep m9b.drew).store Tryz.underlying5 Tryz.underlying101 hlen (u8key ho.key) (.agg #[.int .u8 (vk : Int), .int .i64 vn, .string vs])
 have hmp : n.mp < w.heap.size := hna.props.lt
 have hb5 := hM.heap hbx (by omega)
 have hn5 := hM.heap (m9b.drew.heap hna.box (fun f => f)) HOW.out.1
 have c0 := cell_of_row hb5 0
 have c3 := cell_of_row hb5 3
 have c4 := cell_of_row hb5 4
 have zc := lt_of_block hb5
 have q0 := cell_of_row hn5 0
 have zq := lt_of_block hn5
 simp at c0 c3 c4 q0
 rw [show (.agg #[.int .u8 (vk : Int), .int .i64 vn, .string vs] : Value) = Val.v ⟨vk, vn, vs⟩ from rfl, putL_pents key ⟨vk, vn, vs⟩ hvg.prise] at hU
 obtain ⟨w6, s6, hU6, hM6⟩ := hU.drew.drop Tryz.underlying5 Tryz.underlying101 (u8key ho.key) 0
 rw [delL_pents key ⟨vk, vn, vs⟩, layG_layG_done _ _ rfl hvg.prise] at hU6
 have hd0 : decide ((⟨vk, vn, vs⟩ : Val).k = 0) = true := by simpa using hz
 have hM56 : Mod (fun i => i = n.mp) (((w.alloc (.cells #[.int .u8 3, .int .u32 (a : Int), .int .u32 (b : Int), .int .u8 (key : Int), .int .u8 (vk : Int), .int .i64 vn, .string vs] 82)).alloc (.cells #[.int .u8 0, .int .i64 0, .string ⟨#[]⟩] 68)).drew.drew).drew w6 := hM.drew.trans hM6
 have hn6 := hM56.heap (m9b.drew.heap hna.box (fun f => f)) HOW.out.1
 have HT : Hid (Turned g bm ns (layV (setP n.x key ⟨vk, vn, vs⟩) (ns.map Node.x)) (fun k => k ≠ n.x.id) w w6 (replN ⟨setP n.x key ⟨vk, vn, vs⟩, n.p, n.mp, n.me⟩ ns)) := Lib.hid ((Turned.repl (hp.keep m9b.drew) (n := ⟨setP n.x key ⟨vk, vn, vs⟩, n.p, n.mp, n.me⟩) hnm rfl hvg.there rfl hM56 (fun b e => .inl e) ⟨hn6, by show UMap _ _ _ _ _ (pents (layG Ent.key ⟨key, ⟨vk, vn, vs⟩⟩ (decide ((⟨vk, vn, vs⟩ : Val).k = 0)) n.x.props)); rw [hd0]; exact hU6, (hna.edges.keep m9b.drew).mod hM56 (fun e => HOW.out.2.2 e.symm), fits_setP hna.fit ho.key ho.val⟩).keep m9b.drew (Mod.refl _ _))
 have hz' : ((vk : Int) == 0) = true := by simp; omega
 have hz2 : (vk : Int) = 0 := by omega
 clear hp hL ho hf hx m1 hna hnm hni m9a m9b hU hM hvg hlen hbx hb5 hn5 hU6 hM6 hM56 hn6 hkey hd0 hz hz2
 go_enter Tryz.func56, Tryz.ntmps56
 go_wp2_with fail
 go_region
 go_wp2_with fail
 go_region
 all_goals
   go_wp2_with fail
   go_region
   all_goals
     go_wp2_with fail
     go_region
     all_goals
       go_wp2_with fail
       go_ret2
       exact RunP.ok HONE.out ⟨_, _, rfl, ⟨HT.out.pg, HT.out.is, HT.out.mod, HT.out.new, HT.out.newM, fun m hm => HT.out.same m (by rw [HNI.out]; exact hm.1)⟩, RdS.none _ _⟩
open Go.RowKit Go.Maps
theorem b0_4 {a b key vk : Nat} {vn : Int} {vs : ByteArray} {ns : List Node} (hL : Fair (ns.map Node.x)) (hok : opOK ⟨4, a, b, key, ⟨vk, vn, vs⟩⟩ = true) {n : Node} (hn : n ∈ ns) : entX n.x.halves b = none := by
 have hb : b = 0 := by
   unfold opOK at hok
   simp only [Opr.two, Opr.hasKey, Opr.hasVal, Bool.and_eq_true] at hok
   simpa using hok.1.1.2
 subst hb
 rw [entX_isNone]
 intro e he h0
 have := ((hL.each n.x (List.mem_map_of_mem hn)).halves e he).1
 omega
set_option maxRecDepth 100000 in
set_option maxHeartbeats 4000000 in
theorem run_4 (g bm : Nat) (ns : List Node) (a b key vk : Nat) (vn : Int) (vs : ByteArray) (pos : Int) (w : World) (hp : PG w g bm ns) (hL : Fair (ns.map Node.x)) (ho : Opr.Fits ⟨4, a, b, key, ⟨vk, vn, vs⟩⟩) (n : Node) (hf : findN ns a = some n) (hx : entX n.x.halves b = none) :
   Calls Tryz.prog 56 #[.pointer (some ⟨g, 0, none⟩), .int .i64 pos, .agg #[.int .u8 4, .int .u32 (a : Int), .int .u32 (b : Int), .int .u8 (key : Int), .int .u8 (vk : Int), .int .i64 vn, .string vs]] w (RunP g bm ns ⟨4, a, b, key, ⟨vk, vn, vs⟩⟩ pos w) := by
 have HONE : Hid (oneG (ns.map Node.x) ⟨4, a, b, key, ⟨vk, vn, vs⟩⟩ = ⟨0, ns.map Node.x, [propV n.x key]⟩) := Lib.hid (by unfold oneG; simp only [findN_map, hf, Option.map_some, Nat.reduceEqDiff, if_false, if_true])
 have HP := Lib.hid hp
 have HL := Lib.hid hL
 have HO := Lib.hid ho
 have g0 := cell_of_row hp.cell 0
 have zg := lt_of_block hp.cell
 have zg1 : g < w.heap.size + 1 := by omega
 have zg2 : g < w.heap.size + 1 + 1 := by omega
 have zg3 : g < w.heap.size + 1 + 1 + 1 := by omega
 simp at g0
 have m1 : Mod (fun _ => False) w (w.alloc (.cells #[.int .u8 4, .int .u32 (a : Int), .int .u32 (b : Int), .int .u8 (key : Int), .int .u8 (vk : Int), .int .i64 vn, .string vs] 82)).drew := ((Mod.refl _ _).alloc _).drew
 have HM1 := Lib.hid m1
 have la := hp.nm.look m1 ho.a
 have lb := hp.nm.look m1 ho.b
 obtain ⟨hnm, hni⟩ := findN_mem hf
 have hna := hp.nm.each n hnm
 have HNM := Lib.hid hnm
 have HNI := Lib.hid hni
 have HNA := Lib.hid hna
 have HOW := Lib.hid (hp.nm.own n hnm)
 have HOF := Lib.hid (fun e : g ∈ n.blocks => hp.goff (.inr ⟨n, hnm, e⟩))
 have p0 := cell_of_row hna.box 0
 have p1 := cell_of_row hna.box 1
 have zp := lt_of_block hna.box
 have zp1 : n.p < w.heap.size + 1 := by omega
 have zp2 : n.p < w.heap.size + 1 + 1 := by omega
 have zp3 : n.p < w.heap.size + 1 + 1 + 1 := by omega
 simp at p0 p1
 rw [hf] at la
 simp only [ptrN] at la
 generalize ptrN (findN ns b) = pb at lb
 have m9a : Mod (fun _ => False) w (w.alloc (.cells #[.int .u8 4, .int .u32 (a : Int), .int .u32 (b : Int), .int .u8 (key : Int), .int .u8 (vk : Int), .int .i64 vn, .string vs] 82)).drew.drew := m1.drew
 have m9b : Mod (fun _ => False) w (((w.alloc (.cells #[.int .u8 4, .int .u32 (a : Int), .int .u32 (b : Int), .int .u8 (key : Int), .int .u8 (vk : Int), .int .i64 vn, .string vs] 82)).alloc (.cells #[.int .u8 0, .int .i64 0, .string ⟨#[]⟩] 68)).drew.drew) := (((Mod.refl _ w).alloc _).alloc _).drew.drew
 have he1 := hna.edge m9a ho.b
 have he2 := hna.edge m9b ho.b
 rw [hx] at he1 he2
 simp only [valO, Option.isSome_none] at he1 he2
 have hpr := hna.propv m9b.drew ho.key
 generalize propV n.x key = pv at hpr HONE
 obtain ⟨pk, pn, ps⟩ := pv
 simp only at hpr
 have HM9 := Lib.hid m9b
 clear hp hL ho hf hx m1 hna hnm hni m9a m9b
 go_enter Tryz.func56, Tryz.ntmps56
 go_wp2_with fail
 go_region
 go_wp2_with fail
 go_region
 all_goals
   go_wp2_with fail
   go_region
   all_goals
     go_wp2_with fail
     go_ret2
     refine RunP.ok HONE.out ⟨_, _, rfl, Turned.idle HP.out (by repeat (first | exact Mod.refl _ _ | apply Mod.drew | apply Mod.alloc)) _, ?_⟩
     have h := rd_lit (((w.alloc (.cells #[.int .u8 4, .int .u32 (a : Int), .int .u32 (b : Int), .int .u8 (key : Int), .int .u8 (vk : Int), .int .i64 vn, .string vs] 82)).alloc (.cells #[.int .u8 0, .int .i64 0, .string ⟨#[]⟩] 68)).drew.drew).drew 68 #[.int .u8 (pk : Int), .int .i64 pn, .string ps] 1 3 (w.heap.size + 1 + 1) (by simp) rfl (by unfold maxLen; omega) (by simp [Value.oneCell'])
     exact h
end Go.Proofs.YtlpdifinkcjckaaGreatDoor
