import Derived.Test.YtpigipgoopeeoaaGreatDoorMOn15
set_option linter.unusedVariables false
set_option linter.unusedSimpArgs false
namespace Go.Proofs.YtpigipgoopeeoaaGreatDoor
open Go.RowKit Go.Maps
set_option maxRecDepth 100000 in
set_option maxHeartbeats 4000000 in
theorem run_none (g bm : Nat) (ns : List Node) (kind a b key vk : Nat) (vn : Int) (vs : ByteArray) (pos : Int) (w : World) (hp : PG w g bm ns) (hL : Good (ns.map Node.x)) (ho : Opr.Fits ⟨kind, a, b, key, ⟨vk, vn, vs⟩⟩) (hk : kind ≠ 1) (hf : findN ns a = none) :
   Calls Tryz.prog 72 #[.pointer (some ⟨g, 0, none⟩), .int .i64 pos, .agg #[.int .u8 (kind : Int), .int .u32 (a : Int), .int .u32 (b : Int), .int .u8 (key : Int), .int .u8 (vk : Int), .int .i64 vn, .string vs]] w (RunP g bm ns ⟨kind, a, b, key, ⟨vk, vn, vs⟩⟩ pos w) := by
 have HONE : Hid (oneG (ns.map Node.x) ⟨kind, a, b, key, ⟨vk, vn, vs⟩⟩ = ⟨6, ns.map Node.x, []⟩) := Lib.hid (by unfold oneG; rw [if_neg hk, findN_map, hf]; rfl)
 have HP := Lib.hid hp
 have HL := Lib.hid hL
 have HO := Lib.hid ho
 have g0 := cell_of_row hp.cell 0
 have zg := lt_of_block hp.cell
 have zg1 : g < w.heap.size + 1 := by omega
 have zg2 : g < w.heap.size + 1 + 1 := by omega
 have zg3 : g < w.heap.size + 1 + 1 + 1 := by omega
 simp at g0
 have m1 : Mod (fun _ => False) w (w.alloc (.cells #[.int .u8 (kind : Int), .int .u32 (a : Int), .int .u32 (b : Int), .int .u8 (key : Int), .int .u8 (vk : Int), .int .i64 vn, .string vs] 79)).drew := ((Mod.refl _ _).alloc _).drew
 have HM1 := Lib.hid m1
 have la := hp.nm.look m1 ho.a
 have lb := hp.nm.look m1 ho.b
 have k1 : ((kind : Int) == 1) = false := by simp; omega
 rw [hf] at la
 simp only [ptrN] at la
 generalize ptrN (findN ns b) = pb at lb
 clear hp hL ho hk hf m1
 go_enter Tryz.func72, Tryz.ntmps72
 go_wp2_with fail
 go_region
 go_wp2_with (go_at_call 87; refine (refusal_any 6 pos _ _ (by rfl)).mono ?_; (rintro e w9 ⟨rfl, rfl⟩))
 go_ret2
 exact RunP.no HONE.out (by omega) (RunNO.made HM1.out (by simp))
set_option maxRecDepth 100000 in
set_option maxHeartbeats 4000000 in
theorem run_1a (g bm : Nat) (ns : List Node) (a b key vk : Nat) (vn : Int) (vs : ByteArray) (pos : Int) (w : World) (hp : PG w g bm ns) (hL : Good (ns.map Node.x)) (ho : Opr.Fits ⟨1, a, b, key, ⟨vk, vn, vs⟩⟩) (n : Node) (hf : findN ns a = some n) :
   Calls Tryz.prog 72 #[.pointer (some ⟨g, 0, none⟩), .int .i64 pos, .agg #[.int .u8 1, .int .u32 (a : Int), .int .u32 (b : Int), .int .u8 (key : Int), .int .u8 (vk : Int), .int .i64 vn, .string vs]] w (RunP g bm ns ⟨1, a, b, key, ⟨vk, vn, vs⟩⟩ pos w) := by
 have HONE : Hid (oneG (ns.map Node.x) ⟨1, a, b, key, ⟨vk, vn, vs⟩⟩ = ⟨7, ns.map Node.x, []⟩) := Lib.hid (by unfold oneG; rw [if_pos rfl, findN_map, hf]; rfl)
 have HP := Lib.hid hp
 have HL := Lib.hid hL
 have HO := Lib.hid ho
 have g0 := cell_of_row hp.cell 0
 have zg := lt_of_block hp.cell
 have zg1 : g < w.heap.size + 1 := by omega
 have zg2 : g < w.heap.size + 1 + 1 := by omega
 have zg3 : g < w.heap.size + 1 + 1 + 1 := by omega
 simp at g0
 have m1 : Mod (fun _ => False) w (w.alloc (.cells #[.int .u8 1, .int .u32 (a : Int), .int .u32 (b : Int), .int .u8 (key : Int), .int .u8 (vk : Int), .int .i64 vn, .string vs] 79)).drew := ((Mod.refl _ _).alloc _).drew
 have HM1 := Lib.hid m1
 have la := hp.nm.look m1 ho.a
 have lb := hp.nm.look m1 ho.b
 rw [hf] at la
 simp only [ptrN] at la
 generalize ptrN (findN ns b) = pb at lb
 clear hp hL ho hf m1
 go_enter Tryz.func72, Tryz.ntmps72
 go_wp2_with fail
 go_region
 go_wp2_with (go_at_call 87; refine (refusal_any 7 pos _ _ (by rfl)).mono ?_; (rintro e w9 ⟨rfl, rfl⟩))
 go_ret2
 exact RunP.no HONE.out (by omega) (RunNO.made HM1.out (by simp))
set_option maxRecDepth 100000 in
set_option maxHeartbeats 4000000 in
theorem run_1b (g bm : Nat) (ns : List Node) (a b key vk : Nat) (vn : Int) (vs : ByteArray) (pos : Int) (w : World) (hp : PG w g bm ns) (hL : Good (ns.map Node.x)) (ho : Opr.Fits ⟨1, a, b, key, ⟨vk, vn, vs⟩⟩) (hf : findN ns a = none) :
   Calls Tryz.prog 72 #[.pointer (some ⟨g, 0, none⟩), .int .i64 pos, .agg #[.int .u8 1, .int .u32 (a : Int), .int .u32 (b : Int), .int .u8 (key : Int), .int .u8 (vk : Int), .int .i64 vn, .string vs]] w (RunP g bm ns ⟨1, a, b, key, ⟨vk, vn, vs⟩⟩ pos w) := by
 have HONE : Hid (oneG (ns.map Node.x) ⟨1, a, b, key, ⟨vk, vn, vs⟩⟩ = ⟨0, layV ⟨a, true, [], []⟩ (ns.map Node.x), []⟩) := Lib.hid (by unfold oneG; rw [if_pos rfl, findN_map, hf]; rfl)
 have HP := Lib.hid hp
 have HL := Lib.hid hL
 have HO := Lib.hid ho
 have g0 := cell_of_row hp.cell 0
 have zg := lt_of_block hp.cell
 have zg1 : g < w.heap.size + 1 := by omega
 have zg2 : g < w.heap.size + 1 + 1 := by omega
 have zg3 : g < w.heap.size + 1 + 1 + 1 := by omega
 simp at g0
 have m1 : Mod (fun _ => False) w (w.alloc (.cells #[.int .u8 1, .int .u32 (a : Int), .int .u32 (b : Int), .int .u8 (key : Int), .int .u8 (vk : Int), .int .i64 vn, .string vs] 79)).drew := ((Mod.refl _ _).alloc _).drew
 have HM1 := Lib.hid m1
 have la := hp.nm.look m1 ho.a
 have lb := hp.nm.look m1 ho.b
 rw [hf] at la
 simp only [ptrN] at la
 generalize ptrN (findN ns b) = pb at lb
 have hlen : (ns.map Node.f).length < maxLen := by
   have := hL.short
   rw [List.length_map] at this ⊢
   unfold maxLen; omega
 have hbm := hp.lt bm (.inr (.inl rfl))
 have m40 : Mod (fun _ => False) w (((((w.alloc (.cells #[.int .u8 1, .int .u32 (a : Int), .int .u32 (b : Int), .int .u8 (key : Int), .int .u8 (vk : Int), .int .i64 vn, .string vs] 79)).alloc (.map #[] 0)).alloc (.map #[] 0)).alloc (.cells #[.map (some (w.heap.size + 1)), .map (some (w.heap.size + 1 + 1))] 143)).drew.drew) := (((((Mod.refl _ w).alloc _).alloc _).alloc _).alloc _).drew.drew
 have hb10 : (((((w.alloc (.cells #[.int .u8 1, .int .u32 (a : Int), .int .u32 (b : Int), .int .u8 (key : Int), .int .u8 (vk : Int), .int .i64 vn, .string vs] 79)).alloc (.map #[] 0)).alloc (.map #[] 0)).alloc (.cells #[.map (some (w.heap.size + 1)), .map (some (w.heap.size + 1 + 1))] 143)).drew.drew).heap[(w.heap.size + 1)]? = some (.map #[] 0) := heap_alloc_old (heap_alloc_old (by have h := heap_alloc_new' (w.alloc (.cells #[.int .u8 1, .int .u32 (a : Int), .int .u32 (b : Int), .int .u8 (key : Int), .int .u8 (vk : Int), .int .i64 vn, .string vs] 79)) (.map #[] 0); simpa using h))
 have hb20 : (((((w.alloc (.cells #[.int .u8 1, .int .u32 (a : Int), .int .u32 (b : Int), .int .u8 (key : Int), .int .u8 (vk : Int), .int .i64 vn, .string vs] 79)).alloc (.map #[] 0)).alloc (.map #[] 0)).alloc (.cells #[.map (some (w.heap.size + 1)), .map (some (w.heap.size + 1 + 1))] 143)).drew.drew).heap[(w.heap.size + 1 + 1)]? = some (.map #[] 0) := heap_alloc_old (by have h := heap_alloc_new' ((w.alloc (.cells #[.int .u8 1, .int .u32 (a : Int), .int .u32 (b : Int), .int .u8 (key : Int), .int .u8 (vk : Int), .int .i64 vn, .string vs] 79)).alloc (.map #[] 0)) (.map #[] 0); simpa using h)
 have hb30 : (((((w.alloc (.cells #[.int .u8 1, .int .u32 (a : Int), .int .u32 (b : Int), .int .u8 (key : Int), .int .u8 (vk : Int), .int .i64 vn, .string vs] 79)).alloc (.map #[] 0)).alloc (.map #[] 0)).alloc (.cells #[.map (some (w.heap.size + 1)), .map (some (w.heap.size + 1 + 1))] 143)).drew.drew).heap[(w.heap.size + 1 + 1 + 1)]? = some (.cells #[.map (some (w.heap.size + 1)), .map (some (w.heap.size + 1 + 1))] 143 (0, 0)) := by have h := heap_alloc_new' (((w.alloc (.cells #[.int .u8 1, .int .u32 (a : Int), .int .u32 (b : Int), .int .u8 (key : Int), .int .u8 (vk : Int), .int .i64 vn, .string vs] 79)).alloc (.map #[] 0)).alloc (.map #[] 0)) (.cells #[.map (some (w.heap.size + 1)), .map (some (w.heap.size + 1 + 1))] 143); rw [show (((w.alloc (.cells #[.int .u8 1, .int .u32 (a : Int), .int .u32 (b : Int), .int .u8 (key : Int), .int .u8 (vk : Int), .int .i64 vn, .string vs] 79)).alloc (.map #[] 0)).alloc (.map #[] 0)).heap.size = (w.heap.size + 1 + 1 + 1) by simp] at h; exact h
 have hn0 := NAt.made (id := a) ho.a hb30 hb10 hb20
 obtain ⟨w50, hrun0, hU0, hM0⟩ := (hp.nm.map.keep m40).store Tryz.underlying32 Tryz.underlying125 hlen (u32key ho.a) (.pointer (some ⟨(w.heap.size + 1 + 1 + 1), 0, none⟩))
 have HT0 : Hid (Turned g bm ns (layV ⟨a, true, [], []⟩ (ns.map Node.x)) (fun k => k ≠ a) w w50 (layG keyN ⟨⟨a, true, [], []⟩, (w.heap.size + 1 + 1 + 1), (w.heap.size + 1), (w.heap.size + 1 + 1)⟩ false ns)) := Lib.hid (by
   refine Turned.add hp (n := ⟨⟨a, true, [], []⟩, (w.heap.size + 1 + 1 + 1), (w.heap.size + 1), (w.heap.size + 1 + 1)⟩) rfl m40 hM0 hU0 (hn0.mod hM0 (fun x hx e => ?_)) (fun x hx => ?_) ⟨by dsimp only; omega, by dsimp only; omega, by dsimp only; omega⟩
   · simp [Node.blocks] at hx; omega
   · simp [Node.blocks] at hx; omega)
 have g40 := m40.cell g0
 have m41 : Mod (fun _ => False) w (((((w.alloc (.cells #[.int .u8 1, .int .u32 (a : Int), .int .u32 (b : Int), .int .u8 (key : Int), .int .u8 (vk : Int), .int .i64 vn, .string vs] 79)).alloc (.map #[] 0)).alloc (.map #[] 0)).alloc (.cells #[.map (some (w.heap.size + 1 + 1)), .map (some (w.heap.size + 1))] 143)).drew.drew) := (((((Mod.refl _ w).alloc _).alloc _).alloc _).alloc _).drew.drew
 have hb11 : (((((w.alloc (.cells #[.int .u8 1, .int .u32 (a : Int), .int .u32 (b : Int), .int .u8 (key : Int), .int .u8 (vk : Int), .int .i64 vn, .string vs] 79)).alloc (.map #[] 0)).alloc (.map #[] 0)).alloc (.cells #[.map (some (w.heap.size + 1 + 1)), .map (some (w.heap.size + 1))] 143)).drew.drew).heap[(w.heap.size + 1)]? = some (.map #[] 0) := heap_alloc_old (heap_alloc_old (by have h := heap_alloc_new' (w.alloc (.cells #[.int .u8 1, .int .u32 (a : Int), .int .u32 (b : Int), .int .u8 (key : Int), .int .u8 (vk : Int), .int .i64 vn, .string vs] 79)) (.map #[] 0); simpa using h))
 have hb21 : (((((w.alloc (.cells #[.int .u8 1, .int .u32 (a : Int), .int .u32 (b : Int), .int .u8 (key : Int), .int .u8 (vk : Int), .int .i64 vn, .string vs] 79)).alloc (.map #[] 0)).alloc (.map #[] 0)).alloc (.cells #[.map (some (w.heap.size + 1 + 1)), .map (some (w.heap.size + 1))] 143)).drew.drew).heap[(w.heap.size + 1 + 1)]? = some (.map #[] 0) := heap_alloc_old (by have h := heap_alloc_new' ((w.alloc (.cells #[.int .u8 1, .int .u32 (a : Int), .int .u32 (b : Int), .int .u8 (key : Int), .int .u8 (vk : Int), .int .i64 vn, .string vs] 79)).alloc (.map #[] 0)) (.map #[] 0); simpa using h)
 have hb31 : (((((w.alloc (.cells #[.int .u8 1, .int .u32 (a : Int), .int .u32 (b : Int), .int .u8 (key : Int), .int .u8 (vk : Int), .int .i64 vn, .string vs] 79)).alloc (.map #[] 0)).alloc (.map #[] 0)).alloc (.cells #[.map (some (w.heap.size + 1 + 1)), .map (some (w.heap.size + 1))] 143)).drew.drew).heap[(w.heap.size + 1 + 1 + 1)]? = some (.cells #[.map (some (w.heap.size + 1 + 1)), .map (some (w.heap.size + 1))] 143 (0, 0)) := by have h := heap_alloc_new' (((w.alloc (.cells #[.int .u8 1, .int .u32 (a : Int), .int .u32 (b : Int), .int .u8 (key : Int), .int .u8 (vk : Int), .int .i64 vn, .string vs] 79)).alloc (.map #[] 0)).alloc (.map #[] 0)) (.cells #[.map (some (w.heap.size + 1 + 1)), .map (some (w.heap.size + 1))] 143); rw [show (((w.alloc (.cells #[.int .u8 1, .int .u32 (a : Int), .int .u32 (b : Int), .int .u8 (key : Int), .int .u8 (vk : Int), .int .i64 vn, .string vs] 79)).alloc (.map #[] 0)).alloc (.map #[] 0)).heap.size = (w.heap.size + 1 + 1 + 1) by simp] at h; exact h
 have hn1 := NAt.made (id := a) ho.a hb31 hb21 hb11
 obtain ⟨w51, hrun1, hU1, hM1⟩ := (hp.nm.map.keep m41).store Tryz.underlying32 Tryz.underlying125 hlen (u32key ho.a) (.pointer (some ⟨(w.heap.size + 1 + 1 + 1), 0, none⟩))
 have HT1 : Hid (Turned g bm ns (layV ⟨a, true, [], []⟩ (ns.map Node.x)) (fun k => k ≠ a) w w51 (layG keyN ⟨⟨a, true, [], []⟩, (w.heap.size + 1 + 1 + 1), (w.heap.size + 1 + 1), (w.heap.size + 1)⟩ false ns)) := Lib.hid (by
   refine Turned.add hp (n := ⟨⟨a, true, [], []⟩, (w.heap.size + 1 + 1 + 1), (w.heap.size + 1 + 1), (w.heap.size + 1)⟩) rfl m41 hM1 hU1 (hn1.mod hM1 (fun x hx e => ?_)) (fun x hx => ?_) ⟨by dsimp only; omega, by dsimp only; omega, by dsimp only; omega⟩
   · simp [Node.blocks] at hx; omega
   · simp [Node.blocks] at hx; omega)
 have g41 := m41.cell g0
 clear hp hL ho hf m1 hU0 hM0 hn0 m40 hU1 hM1 hn1 m41 hb10 hb20 hb30 hb11 hb21 hb31 hlen
 have hmm := @run_makeMap Tryz.prog
 go_enter Tryz.func72, Tryz.ntmps72
 go_wp2_with fail
 go_region
 go_wp2_with fail
 go_region
 all_goals
   go_wp2_with fail
   go_ret2
   first
     | exact RunP.ok HONE.out ⟨_, _, rfl, ⟨HT0.out.pg, HT0.out.is, HT0.out.mod, HT0.out.new, HT0.out.newM, fun n hn => HT0.out.same n hn.1⟩, RdS.none _ _⟩
     | exact RunP.ok HONE.out ⟨_, _, rfl, ⟨HT1.out.pg, HT1.out.is, HT1.out.mod, HT1.out.new, HT1.out.newM, fun n hn => HT1.out.same n hn.1⟩, RdS.none _ _⟩
open Go.RowKit Go.Maps
theorem b0_2 {a b key vk : Nat} {vn : Int} {vs : ByteArray} {ns : List Node} (hL : Good (ns.map Node.x)) (hok : opOK ⟨2, a, b, key, ⟨vk, vn, vs⟩⟩ = true) {n : Node} (hn : n ∈ ns) : entX n.x.halves b = none := by
 have hb : b = 0 := by
   unfold opOK at hok
   simp only [Opr.two, Opr.hasKey, Opr.hasVal, Bool.and_eq_true] at hok
   simpa using hok.1.1.2
 subst hb
 rw [entX_isNone]
 intro e he h0
 have := ((hL.each n.x (List.mem_map_of_mem hn)).halves e he).1
 omega
set_option maxRecDepth 100000 in
set_option maxHeartbeats 4000000 in
theorem run_2a (g bm : Nat) (ns : List Node) (a b key vk : Nat) (vn : Int) (vs : ByteArray) (pos : Int) (w : World) (hp : PG w g bm ns) (hL : Good (ns.map Node.x)) (ho : Opr.Fits ⟨2, a, b, key, ⟨vk, vn, vs⟩⟩) (n : Node) (hf : findN ns a = some n) (hx : entX n.x.halves b = none) (hd : 0 < n.x.halves.length) :
   Calls Tryz.prog 72 #[.pointer (some ⟨g, 0, none⟩), .int .i64 pos, .agg #[.int .u8 2, .int .u32 (a : Int), .int .u32 (b : Int), .int .u8 (key : Int), .int .u8 (vk : Int), .int .i64 vn, .string vs]] w (RunP g bm ns ⟨2, a, b, key, ⟨vk, vn, vs⟩⟩ pos w) := by
 have HONE : Hid (oneG (ns.map Node.x) ⟨2, a, b, key, ⟨vk, vn, vs⟩⟩ = ⟨8, ns.map Node.x, []⟩) := Lib.hid (by unfold oneG; simp only [findN_map, hf, Option.map_some, Nat.reduceEqDiff, if_false, if_true, hd])
 have HP := Lib.hid hp
 have HL := Lib.hid hL
 have HO := Lib.hid ho
 have g0 := cell_of_row hp.cell 0
 have zg := lt_of_block hp.cell
 have zg1 : g < w.heap.size + 1 := by omega
 have zg2 : g < w.heap.size + 1 + 1 := by omega
 have zg3 : g < w.heap.size + 1 + 1 + 1 := by omega
 simp at g0
 have m1 : Mod (fun _ => False) w (w.alloc (.cells #[.int .u8 2, .int .u32 (a : Int), .int .u32 (b : Int), .int .u8 (key : Int), .int .u8 (vk : Int), .int .i64 vn, .string vs] 79)).drew := ((Mod.refl _ _).alloc _).drew
 have HM1 := Lib.hid m1
 have la := hp.nm.look m1 ho.a
 have lb := hp.nm.look m1 ho.b
 obtain ⟨hnm, hni⟩ := findN_mem hf
 have hna := hp.nm.each n hnm
 have HNM := Lib.hid hnm
 have HNI := Lib.hid hni
 have HNA := Lib.hid hna
 have HOW := Lib.hid (hp.nm.own n hnm)
 have HOF := Lib.hid (fun e : g ∈ n.blocks => hp.goff (.inr ⟨n, hnm, e⟩))
 have p0 := cell_of_row hna.box 0
 have p1 := cell_of_row hna.box 1
 have zp := lt_of_block hna.box
 have zp1 : n.p < w.heap.size + 1 := by omega
 have zp2 : n.p < w.heap.size + 1 + 1 := by omega
 have zp3 : n.p < w.heap.size + 1 + 1 + 1 := by omega
 simp at p0 p1
 rw [hf] at la
 simp only [ptrN] at la
 generalize ptrN (findN ns b) = pb at lb
 have m9a : Mod (fun _ => False) w (w.alloc (.cells #[.int .u8 2, .int .u32 (a : Int), .int .u32 (b : Int), .int .u8 (key : Int), .int .u8 (vk : Int), .int .i64 vn, .string vs] 79)).drew.drew := m1.drew
 have m9b : Mod (fun _ => False) w (((w.alloc (.cells #[.int .u8 2, .int .u32 (a : Int), .int .u32 (b : Int), .int .u8 (key : Int), .int .u8 (vk : Int), .int .i64 vn, .string vs] 79)).alloc (.cells #[.int .u8 0, .int .i64 0, .string ⟨#[]⟩] 77)).drew.drew) := (((Mod.refl _ w).alloc _).alloc _).drew.drew
 have he1 := hna.edge m9a ho.b
 have he2 := hna.edge m9b ho.b
 rw [hx] at he1 he2
 simp only [valO, Option.isSome_none] at he1 he2
 have hl := hna.deg m9b 3
 obtain ⟨d, hdd⟩ : ∃ d, d = n.x.halves.length := ⟨_, rfl⟩
 rw [← hdd] at hl hd
 have hd' : (0 : Int) < (d : Int) := by omega
 have HM9 := Lib.hid m9b
 clear hp hL ho hf hx m1 hna hnm hni m9a m9b hdd hd
 go_enter Tryz.func72, Tryz.ntmps72
 go_wp2_with fail
 go_region
 go_wp2_with fail
 go_region
 all_goals
   go_wp2_with (go_at_call 87; refine (refusal_any 8 pos _ _ (by rfl)).mono ?_; (rintro e w9 ⟨rfl, rfl⟩))
   go_ret2
   exact RunP.no HONE.out (by omega) (RunNO.made HM9.out (by simp))
set_option maxRecDepth 100000 in
set_option maxHeartbeats 4000000 in
theorem run_2b (g bm : Nat) (ns : List Node) (a b key vk : Nat) (vn : Int) (vs : ByteArray) (pos : Int) (w : World) (hp : PG w g bm ns) (hL : Good (ns.map Node.x)) (ho : Opr.Fits ⟨2, a, b, key, ⟨vk, vn, vs⟩⟩) (n : Node) (hf : findN ns a = some n) (hx : entX n.x.halves b = none) (hd : n.x.halves.length = 0) :
   Calls Tryz.prog 72 #[.pointer (some ⟨g, 0, none⟩), .int .i64 pos, .agg #[.int .u8 2, .int .u32 (a : Int), .int .u32 (b : Int), .int .u8 (key : Int), .int .u8 (vk : Int), .int .i64 vn, .string vs]] w (RunP g bm ns ⟨2, a, b, key, ⟨vk, vn, vs⟩⟩ pos w) := by
 have HONE : Hid (oneG (ns.map Node.x) ⟨2, a, b, key, ⟨vk, vn, vs⟩⟩ = ⟨0, layV ⟨a, false, [], []⟩ (ns.map Node.x), []⟩) := Lib.hid (by unfold oneG; simp only [findN_map, hf, Option.map_some, Nat.reduceEqDiff, if_false, if_true, hd, Nat.lt_irrefl])
 have HP := Lib.hid hp
 have HL := Lib.hid hL
 have HO := Lib.hid ho
 have g0 := cell_of_row hp.cell 0
 have zg := lt_of_block hp.cell
 have zg1 : g < w.heap.size + 1 := by omega
 have zg2 : g < w.heap.size + 1 + 1 := by omega
 have zg3 : g < w.heap.size + 1 + 1 + 1 := by omega
 simp at g0
 have m1 : Mod (fun _ => False) w (w.alloc (.cells #[.int .u8 2, .int .u32 (a : Int), .int .u32 (b : Int), .int .u8 (key : Int), .int .u8 (vk : Int), .int .i64 vn, .string vs] 79)).drew := ((Mod.refl _ _).alloc _).drew
 have HM1 := Lib.hid m1
 have la := hp.nm.look m1 ho.a
 have lb := hp.nm.look m1 ho.b
 obtain ⟨hnm, hni⟩ := findN_mem hf
 have hna := hp.nm.each n hnm
 have HNM := Lib.hid hnm
 have HNI := Lib.hid hni
 have HNA := Lib.hid hna
 have HOW := Lib.hid (hp.nm.own n hnm)
 have HOF := Lib.hid (fun e : g ∈ n.blocks => hp.goff (.inr ⟨n, hnm, e⟩))
 have p0 := cell_of_row hna.box 0
 have p1 := cell_of_row hna.box 1
 have zp := lt_of_block hna.box
 have zp1 : n.p < w.heap.size + 1 := by omega
 have zp2 : n.p < w.heap.size + 1 + 1 := by omega
 have zp3 : n.p < w.heap.size + 1 + 1 + 1 := by omega
 simp at p0 p1
 rw [hf] at la
 simp only [ptrN] at la
 generalize ptrN (findN ns b) = pb at lb
 have m9a : Mod (fun _ => False) w (w.alloc (.cells #[.int .u8 2, .int .u32 (a : Int), .int .u32 (b : Int), .int .u8 (key : Int), .int .u8 (vk : Int), .int .i64 vn, .string vs] 79)).drew.drew := m1.drew
 have m9b : Mod (fun _ => False) w (((w.alloc (.cells #[.int .u8 2, .int .u32 (a : Int), .int .u32 (b : Int), .int .u8 (key : Int), .int .u8 (vk : Int), .int .i64 vn, .string vs] 79)).alloc (.cells #[.int .u8 0, .int .i64 0, .string ⟨#[]⟩] 77)).drew.drew) := (((Mod.refl _ w).alloc _).alloc _).drew.drew
 have he1 := hna.edge m9a ho.b
 have he2 := hna.edge m9b ho.b
 rw [hx] at he1 he2
 simp only [valO, Option.isSome_none] at he1 he2
 have hl := hna.deg m9b 3
 rw [hd] at hl
 obtain ⟨w5, s5, hU, hM⟩ := (hp.nm.map.keep m9b.drew).drop Tryz.underlying32 Tryz.underlying125 (u32key ho.a) 0
 have HT : Hid (Turned g bm ns (layV ⟨a, false, [], []⟩ (ns.map Node.x)) (fun k => k ≠ a) w w5 (dropN a ns)) := Lib.hid ((Turned.drop (hp.keep m9b.drew) a hM hU).keep m9b.drew (Mod.refl _ _))
 clear hp hL ho hf hx m1 hna hnm hni m9a m9b hU hM hd
 go_enter Tryz.func72, Tryz.ntmps72
 go_wp2_with fail
 go_region
 go_wp2_with fail
 go_region
 all_goals
   go_wp2_with fail
   go_region
   all_goals
     go_wp2_with fail
     go_ret2
     exact RunP.ok HONE.out ⟨_, _, rfl, ⟨HT.out.pg, HT.out.is, HT.out.mod, HT.out.new, HT.out.newM, fun n hn => HT.out.same n hn.1⟩, RdS.none _ _⟩
theorem b0_8 {a b key vk : Nat} {vn : Int} {vs : ByteArray} {ns : List Node} (hL : Good (ns.map Node.x)) (hok : opOK ⟨8, a, b, key, ⟨vk, vn, vs⟩⟩ = true) {n : Node} (hn : n ∈ ns) : entX n.x.halves b = none := by
 have hb : b = 0 := by
   unfold opOK at hok
   simp only [Opr.two, Opr.hasKey, Opr.hasVal, Bool.and_eq_true] at hok
   simpa using hok.1.1.2
 subst hb
 rw [entX_isNone]
 intro e he h0
 have := ((hL.each n.x (List.mem_map_of_mem hn)).halves e he).1
 omega
set_option maxRecDepth 100000 in
set_option maxHeartbeats 4000000 in
theorem run_8 (g bm : Nat) (ns : List Node) (a b key vk : Nat) (vn : Int) (vs : ByteArray) (pos : Int) (w : World) (hp : PG w g bm ns) (hL : Good (ns.map Node.x)) (ho : Opr.Fits ⟨8, a, b, key, ⟨vk, vn, vs⟩⟩) (n : Node) (hf : findN ns a = some n) (hx : entX n.x.halves b = none) :
   Calls Tryz.prog 72 #[.pointer (some ⟨g, 0, none⟩), .int .i64 pos, .agg #[.int .u8 8, .int .u32 (a : Int), .int .u32 (b : Int), .int .u8 (key : Int), .int .u8 (vk : Int), .int .i64 vn, .string vs]] w (RunP g bm ns ⟨8, a, b, key, ⟨vk, vn, vs⟩⟩ pos w) := by
 have HONE : Hid (oneG (ns.map Node.x) ⟨8, a, b, key, ⟨vk, vn, vs⟩⟩ = ⟨0, ns.map Node.x, [⟨1, (n.x.halves.length : Int), ⟨#[]⟩⟩]⟩) := Lib.hid (by unfold oneG; simp only [findN_map, hf, Option.map_some, Nat.reduceEqDiff, if_false, if_true, false_or, or_self])
 have HP := Lib.hid hp
 have HL := Lib.hid hL
 have HO := Lib.hid ho
 have g0 := cell_of_row hp.cell 0
 have zg := lt_of_block hp.cell
 have zg1 : g < w.heap.size + 1 := by omega
 have zg2 : g < w.heap.size + 1 + 1 := by omega
 have zg3 : g < w.heap.size + 1 + 1 + 1 := by omega
 simp at g0
 have m1 : Mod (fun _ => False) w (w.alloc (.cells #[.int .u8 8, .int .u32 (a : Int), .int .u32 (b : Int), .int .u8 (key : Int), .int .u8 (vk : Int), .int .i64 vn, .string vs] 79)).drew := ((Mod.refl _ _).alloc _).drew
 have HM1 := Lib.hid m1
 have la := hp.nm.look m1 ho.a
 have lb := hp.nm.look m1 ho.b
 obtain ⟨hnm, hni⟩ := findN_mem hf
 have hna := hp.nm.each n hnm
 have HNM := Lib.hid hnm
 have HNI := Lib.hid hni
 have HNA := Lib.hid hna
 have HOW := Lib.hid (hp.nm.own n hnm)
 have HOF := Lib.hid (fun e : g ∈ n.blocks => hp.goff (.inr ⟨n, hnm, e⟩))
 have p0 := cell_of_row hna.box 0
 have p1 := cell_of_row hna.box 1
 have zp := lt_of_block hna.box
 have zp1 : n.p < w.heap.size + 1 := by omega
 have zp2 : n.p < w.heap.size + 1 + 1 := by omega
 have zp3 : n.p < w.heap.size + 1 + 1 + 1 := by omega
 simp at p0 p1
 rw [hf] at la
 simp only [ptrN] at la
 generalize ptrN (findN ns b) = pb at lb
 have m9a : Mod (fun _ => False) w (w.alloc (.cells #[.int .u8 8, .int .u32 (a : Int), .int .u32 (b : Int), .int .u8 (key : Int), .int .u8 (vk : Int), .int .i64 vn, .string vs] 79)).drew.drew := m1.drew
 have m9b : Mod (fun _ => False) w (((w.alloc (.cells #[.int .u8 8, .int .u32 (a : Int), .int .u32 (b : Int), .int .u8 (key : Int), .int .u8 (vk : Int), .int .i64 vn, .string vs] 79)).alloc (.cells #[.int .u8 0, .int .i64 0, .string ⟨#[]⟩] 77)).drew.drew) := (((Mod.refl _ w).alloc _).alloc _).drew.drew
 have he1 := hna.edge m9a ho.b
 have he2 := hna.edge m9b ho.b
 rw [hx] at he1 he2
 simp only [valO, Option.isSome_none] at he1 he2
 have hl := hna.deg m9b 3
 obtain ⟨d, hdd⟩ : ∃ d, d = n.x.halves.length := ⟨_, rfl⟩
 rw [← hdd] at hl
 have HD := Lib.hid hdd
 have hd9 : d < 9223372036854775807 := by
   have := (hL.each n.x (List.mem_map_of_mem hnm)).few
   omega
 have HM9 := Lib.hid m9b
 clear hp hL ho hf hx m1 hna hnm hni m9a m9b hdd
 go_enter Tryz.func72, Tryz.ntmps72
 go_wp2_with fail
 go_region
 go_wp2_with fail
 go_region
 all_goals
   go_wp2_with fail
   go_ret2
   refine RunP.ok HONE.out ⟨_, _, rfl, Turned.idle HP.out (HM9.out.alloc _) _, ?_⟩
   have h := rd_lit (((w.alloc (.cells #[.int .u8 8, .int .u32 (a : Int), .int .u32 (b : Int), .int .u8 (key : Int), .int .u8 (vk : Int), .int .i64 vn, .string vs] 79)).alloc (.cells #[.int .u8 0, .int .i64 0, .string ⟨#[]⟩] 77)).drew.drew) 77 #[.int .u8 1, .int .i64 (d : Int), .string ⟨#[]⟩] 1 3 (w.heap.size + 1 + 1) (by simp) rfl (by unfold maxLen; omega) (by simp [Value.oneCell'])
   rw [← HD.out]
   exact h
open Go.RowKit Go.Maps
theorem b0_3 {a b key vk : Nat} {vn : Int} {vs : ByteArray} {ns : List Node} (hL : Good (ns.map Node.x)) (hok : opOK ⟨3, a, b, key, ⟨vk, vn, vs⟩⟩ = true) {n : Node} (hn : n ∈ ns) : entX n.x.halves b = none := by
 have hb : b = 0 := by
   unfold opOK at hok
   simp only [Opr.two, Opr.hasKey, Opr.hasVal, Bool.and_eq_true] at hok
   simpa using hok.1.1.2
 subst hb
 rw [entX_isNone]
 intro e he h0
 have := ((hL.each n.x (List.mem_map_of_mem hn)).halves e he).1
 omega
set_option maxRecDepth 100000 in
set_option maxHeartbeats 4000000 in
theorem run_3a (g bm : Nat) (ns : List Node) (a b key vk : Nat) (vn : Int) (vs : ByteArray) (pos : Int) (w : World) (hp : PG w g bm ns) (hL : Good (ns.map Node.x)) (ho : Opr.Fits ⟨3, a, b, key, ⟨vk, vn, vs⟩⟩) (n : Node) (hf : findN ns a = some n) (hx : entX n.x.halves b = none) (hkey : key ≤ 3) (hz : vk ≠ 0) :
   Calls Tryz.prog 72 #[.pointer (some ⟨g, 0, none⟩), .int .i64 pos, .agg #[.int .u8 3, .int .u32 (a : Int), .int .u32 (b : Int), .int .u8 (key : Int), .int .u8 (vk : Int), .int .i64 vn, .string vs]] w (RunP g bm ns ⟨3, a, b, key, ⟨vk, vn, vs⟩⟩ pos w) := by
 have HONE : Hid (oneG (ns.map Node.x) ⟨3, a, b, key, ⟨vk, vn, vs⟩⟩ = ⟨0, layV (setP n.x key ⟨vk, vn, vs⟩) (ns.map Node.x), []⟩) := Lib.hid (by unfold oneG; simp only [findN_map, hf, Option.map_some, Nat.reduceEqDiff, if_false, if_true])
 have HP := Lib.hid hp
 have HL := Lib.hid hL
 have HO := Lib.hid ho
 have g0 := cell_of_row hp.cell 0
 have zg := lt_of_block hp.cell
 have zg1 : g < w.heap.size + 1 := by omega
 have zg2 : g < w.heap.size + 1 + 1 := by omega
 have zg3 : g < w.heap.size + 1 + 1 + 1 := by omega
 simp at g0
 have m1 : Mod (fun _ => False) w (w.alloc (.cells #[.int .u8 3, .int .u32 (a : Int), .int .u32 (b : Int), .int .u8 (key : Int), .int .u8 (vk : Int), .int .i64 vn, .string vs] 79)).drew := ((Mod.refl _ _).alloc _).drew
 have HM1 := Lib.hid m1
 have la := hp.nm.look m1 ho.a
 have lb := hp.nm.look m1 ho.b
 obtain ⟨hnm, hni⟩ := findN_mem hf
 have hna := hp.nm.each n hnm
 have HNM := Lib.hid hnm
 have HNI := Lib.hid hni
 have HNA := Lib.hid hna
 have HOW := Lib.hid (hp.nm.own n hnm)
 have HOF := Lib.hid (fun e : g ∈ n.blocks => hp.goff (.inr ⟨n, hnm, e⟩))
 have p0 := cell_of_row hna.box 0
 have p1 := cell_of_row hna.box 1
 have zp := lt_of_block hna.box
 have zp1 : n.p < w.heap.size + 1 := by omega
 have zp2 : n.p < w.heap.size + 1 + 1 := by omega
 have zp3 : n.p < w.heap.size + 1 + 1 + 1 := by omega
 simp at p0 p1
 rw [hf] at la
 simp only [ptrN] at la
 generalize ptrN (findN ns b) = pb at lb
 have m9a : Mod (fun _ => False) w (w.alloc (.cells #[.int .u8 3, .int .u32 (a : Int), .int .u32 (b : Int), .int .u8 (key : Int), .int .u8 (vk : Int), .int .i64 vn, .string vs] 79)).drew.drew := m1.drew
 have m9b : Mod (fun _ => False) w (((w.alloc (.cells #[.int .u8 3, .int .u32 (a : Int), .int .u32 (b : Int), .int .u8 (key : Int), .int .u8 (vk : Int), .int .i64 vn, .string vs] 79)).alloc (.cells #[.int .u8 0, .int .i64 0, .string ⟨#[]⟩] 77)).drew.drew) := (((Mod.refl _ w).alloc _).alloc _).drew.drew
 have he1 := hna.edge m9a ho.b
 have he2 := hna.edge m9b ho.b
 rw [hx] at he1 he2
 simp only [valO, Option.isSome_none] at he1 he2
 have hbx : (((w.alloc (.cells #[.int .u8 3, .int .u32 (a : Int), .int .u32 (b : Int), .int .u8 (key : Int), .int .u8 (vk : Int), .int .i64 vn, .string vs] 79)).alloc (.cells #[.int .u8 0, .int .i64 0, .string ⟨#[]⟩] 77)).drew.drew).drew.heap[w.heap.size]? = some (.cells #[.int .u8 3, .int .u32 (a : Int), .int .u32 (b : Int), .int .u8 (key : Int), .int .u8 (vk : Int), .int .i64 vn, .string vs] 79 (0, 0)) := by
   have m : Mod (fun _ => False) (w.alloc (.cells #[.int .u8 3, .int .u32 (a : Int), .int .u32 (b : Int), .int .u8 (key : Int), .int .u8 (vk : Int), .int .i64 vn, .string vs] 79)) (((w.alloc (.cells #[.int .u8 3, .int .u32 (a : Int), .int .u32 (b : Int), .int .u8 (key : Int), .int .u8 (vk : Int), .int .i64 vn, .string vs] 79)).alloc (.cells #[.int .u8 0, .int .i64 0, .string ⟨#[]⟩] 77)).drew.drew).drew := ((Mod.refl _ _).alloc _).drew.drew.drew
   exact m.heap (heap_alloc_new' w _) (fun f => f)
 have hvg := hL.each n.x (List.mem_map_of_mem hnm)
 have hlen : (pents n.x.props).length < maxLen := by
   have := hvg.props_short
   rw [pents_length]
   unfold maxLen; omega
 obtain ⟨w5, s5, hU, hM⟩ := (hna.props.keep m9b.drew).store Tryz.underlying5 Tryz.underlying140 hlen (u8key ho.key) (.agg #[.int .u8 (vk : Int), .int .i64 vn, .string vs])
 have hmp : n.mp < w.heap.size := hna.props.lt
 have hb5 := hM.heap hbx (by omega)
 have hn5 := hM.heap (m9b.drew.heap hna.box (fun f => f)) HOW.out.1
 have c0 := cell_of_row hb5 0
 have c3 := cell_of_row hb5 3
 have c4 := cell_of_row hb5 4
 have zc := lt_of_block hb5
 have q0 := cell_of_row hn5 0
 have zq := lt_of_block hn5
 simp at c0 c3 c4 q0
 rw [show (.agg #[.int .u8 (vk : Int), .int .i64 vn, .string vs] : Value) = Val.v ⟨vk, vn, vs⟩ from rfl, putL_pents key ⟨vk, vn, vs⟩ hvg.prise] at hU
 have hd0 : decide ((⟨vk, vn, vs⟩ : Val).k = 0) = false := by simpa using hz
 have HT : Hid (Turned g bm ns (layV (setP n.x key ⟨vk, vn, vs⟩) (ns.map Node.x)) (fun k => k ≠ n.x.id) w w5 (replN ⟨setP n.x key ⟨vk, vn, vs⟩, n.p, n.mp, n.me⟩ ns)) := Lib.hid ((Turned.repl (hp.keep m9b.drew) (n := ⟨setP n.x key ⟨vk, vn, vs⟩, n.p, n.mp, n.me⟩) hnm rfl hvg.there rfl hM (fun b e => .inl e) ⟨hn5, by show UMap _ _ _ _ _ (pents (layG Ent.key ⟨key, ⟨vk, vn, vs⟩⟩ (decide ((⟨vk, vn, vs⟩ : Val).k = 0)) n.x.props)); rw [hd0]; exact hU, (hna.edges.keep m9b.drew).mod hM (fun e => HOW.out.2.2 e.symm), fits_setP hna.fit ho.key ho.val⟩).keep m9b.drew (Mod.refl _ _))
 have hz' : ((vk : Int) == 0) = false := by simp; omega
 clear hp hL ho hf hx m1 hna hnm hni m9a m9b hU hM hvg hlen hbx hb5 hn5 hd0 hz hkey
 go_enter Tryz.func72, Tryz.ntmps72
 go_wp2_with fail
 go_region
 go_wp2_with fail
 go_region
 all_goals
   go_wp2_with fail
   go_region
   all_goals
     go_wp2_with fail
     go_ret2
     exact RunP.ok HONE.out ⟨_, _, rfl, ⟨HT.out.pg, HT.out.is, HT.out.mod, HT.out.new, HT.out.newM, fun m hm => HT.out.same m (by rw [HNI.out]; exact hm.1)⟩, RdS.none _ _⟩
set_option maxRecDepth 100000 in
set_option maxHeartbeats 4000000 in
theorem run_3b (g bm : Nat) (ns : List Node) (a b key vk : Nat) (vn : Int) (vs : ByteArray) (pos : Int) (w : World) (hp : PG w g bm ns) (hL : Good (ns.map Node.x)) (ho : Opr.Fits ⟨3, a, b, key, ⟨vk, vn, vs⟩⟩) (n : Node) (hf : findN ns a = some n) (hx : entX n.x.halves b = none) (hkey : key ≤ 3) (hz : vk = 0) :
   Calls Tryz.prog 72 #[.pointer (some ⟨g, 0, none⟩), .int .i64 pos, .agg #[.int .u8 3, .int .u32 (a : Int), .int .u32 (b : Int), .int .u8 (key : Int), .int .u8 (vk : Int), .int .i64 vn, .string vs]] w (RunP g bm ns ⟨3, a, b, key, ⟨vk, vn, vs⟩⟩ pos w) := by
 have HONE : Hid (oneG (ns.map Node.x) ⟨3, a, b, key, ⟨vk, vn, vs⟩⟩ = ⟨0, layV (setP n.x key ⟨vk, vn, vs⟩) (ns.map Node.x), []⟩) := Lib.hid (by unfold oneG; simp only [findN_map, hf, Option.map_some, Nat.reduceEqDiff, if_false, if_true])
 have HP := Lib.hid hp
 have HL := Lib.hid hL
 have HO := Lib.hid ho
 have g0 := cell_of_row hp.cell 0
 have zg := lt_of_block hp.cell
 have zg1 : g < w.heap.size + 1 := by omega
 have zg2 : g < w.heap.size + 1 + 1 := by omega
 have zg3 : g < w.heap.size + 1 + 1 + 1 := by omega
 simp at g0
 have m1 : Mod (fun _ => False) w (w.alloc (.cells #[.int .u8 3, .int .u32 (a : Int), .int .u32 (b : Int), .int .u8 (key : Int), .int .u8 (vk : Int), .int .i64 vn, .string vs] 79)).drew := ((Mod.refl _ _).alloc _).drew
 have HM1 := Lib.hid m1
 have la := hp.nm.look m1 ho.a
 have lb := hp.nm.look m1 ho.b
 obtain ⟨hnm, hni⟩ := findN_mem hf
 have hna := hp.nm.each n hnm
 have HNM := Lib.hid hnm
 have HNI := Lib.hid hni
 have HNA := Lib.hid hna
 have HOW := Lib.hid (hp.nm.own n hnm)
 have HOF := Lib.hid (fun e : g ∈ n.blocks => hp.goff (.inr ⟨n, hnm, e⟩))
 have p0 := cell_of_row hna.box 0
 have p1 := cell_of_row hna.box 1
 have zp := lt_of_block hna.box
 have zp1 : n.p < w.heap.size + 1 := by omega
 have zp2 : n.p < w.heap.size + 1 + 1 := by omega
 have zp3 : n.p < w.heap.size + 1 + 1 + 1 := by omega
 simp at p0 p1
 rw [hf] at la
 simp only [ptrN] at la
 generalize ptrN (findN ns b) = pb at lb
 have m9a : Mod (fun _ => False) w (w.alloc (.cells #[.int .u8 3, .int .u32 (a : Int), .int .u32 (b : Int), .int .u8 (key : Int), .int .u8 (vk : Int), .int .i64 vn, .string vs] 79)).drew.drew := m1.drew
 have m9b : Mod (fun _ => False) w (((w.alloc (.cells #[.int .u8 3, .int .u32 (a : Int), .int .u32 (b : Int), .int .u8 (key : Int), .int .u8 (vk : Int), .int .i64 vn, .string vs] 79)).alloc (.cells #[.int .u8 0, .int .i64 0, .string ⟨#[]⟩] 77)).drew.drew) := (((Mod.refl _ w).alloc _).alloc _).drew.drew
 have he1 := hna.edge m9a ho.b
 have he2 := hna.edge m9b ho.b
 rw [hx] at he1 he2
 simp only [valO, Option.isSome_none] at he1 he2
 have hbx : (((w.alloc (.cells #[.int .u8 3, .int .u32 (a : Int), .int .u32 (b : Int), .int .u8 (key : Int), .int .u8 (vk : Int), .int .i64 vn, .string vs] 79)).alloc (.cells #[.int .u8 0, .int .i64 0, .string ⟨#[]⟩] 77)).drew.drew).drew.heap[w.heap.size]? = some (.cells #[.int .u8 3, .int .u32 (a : Int), .int .u32 (b : Int), .int .u8 (key : Int), .int .u8 (vk : Int), .int .i64 vn, .string vs] 79 (0, 0)) := by
   have m : Mod (fun _ => False) (w.alloc (.cells #[.int .u8 3, .int .u32 (a : Int), .int .u32 (b : Int), .int .u8 (key : Int), .int .u8 (vk : Int), .int .i64 vn, .string vs] 79)) (((w.alloc (.cells #[.int .u8 3, .int .u32 (a : Int), .int .u32 (b : Int), .int .u8 (key : Int), .int .u8 (vk : Int), .int .i64 vn, .string vs] 79)).alloc (.cells #[.int .u8 0, .int .i64 0, .string ⟨#[]⟩] 77)).drew.drew).drew := ((Mod.refl _ _).alloc _).drew.drew.drew
   exact m.heap (heap_alloc_new' w _) (fun f => f)
 have hvg := hL.each n.x (List.mem_map_of_mem hnm)
 have hlen : (pents n.x.props).length < maxLen := by
   have := hvg.props_short
   rw [pents_length]
   unfold maxLen; omega
 obtain ⟨w5, s5, hU, hM⟩ := (hna.props.keep m9b.drew).store Tryz.underlying5 Tryz.underlying140 hlen (u8key ho.key) (.agg #[.int .u8 (vk : Int), .int .i64 vn, .string vs])
 have hmp : n.mp < w.heap.size := hna.props.lt
 have hb5 := hM.heap hbx (by omega)
 have hn5 := hM.heap (m9b.drew.heap hna.box (fun f => f)) HOW.out.1
 have c0 := cell_of_row hb5 0
 have c3 := cell_of_row hb5 3
 have c4 := cell_of_row hb5 4
 have zc := lt_of_block hb5
 have q0 := cell_of_row hn5 0
 have zq := lt_of_block hn5
 simp at c0 c3 c4 q0
 rw [show (.agg #[.int .u8 (vk : Int), .int .i64 vn, .string vs] : Value) = Val.v ⟨vk, vn, vs⟩ from rfl, putL_pents key ⟨vk, vn, vs⟩ hvg.prise] at hU
 obtain ⟨w6, s6, hU6, hM6⟩ := hU.drew.drop Tryz.underlying5 Tryz.underlying140 (u8key ho.key) 0
 rw [delL_pents key ⟨vk, vn, vs⟩, layG_layG_done _ _ rfl hvg.prise] at hU6
 have hd0 : decide ((⟨vk, vn, vs⟩ : Val).k = 0) = true := by simpa using hz
 have hM56 : Mod (fun i => i = n.mp) (((w.alloc (.cells #[.int .u8 3, .int .u32 (a : Int), .int .u32 (b : Int), .int .u8 (key : Int), .int .u8 (vk : Int), .int .i64 vn, .string vs] 79)).alloc (.cells #[.int .u8 0, .int .i64 0, .string ⟨#[]⟩] 77)).drew.drew).drew w6 := hM.drew.trans hM6
 have hn6 := hM56.heap (m9b.drew.heap hna.box (fun f => f)) HOW.out.1
 have HT : Hid (Turned g bm ns (layV (setP n.x key ⟨vk, vn, vs⟩) (ns.map Node.x)) (fun k => k ≠ n.x.id) w w6 (replN ⟨setP n.x key ⟨vk, vn, vs⟩, n.p, n.mp, n.me⟩ ns)) := Lib.hid ((Turned.repl (hp.keep m9b.drew) (n := ⟨setP n.x key ⟨vk, vn, vs⟩, n.p, n.mp, n.me⟩) hnm rfl hvg.there rfl hM56 (fun b e => .inl e) ⟨hn6, by show UMap _ _ _ _ _ (pents (layG Ent.key ⟨key, ⟨vk, vn, vs⟩⟩ (decide ((⟨vk, vn, vs⟩ : Val).k = 0)) n.x.props)); rw [hd0]; exact hU6, (hna.edges.keep m9b.drew).mod hM56 (fun e => HOW.out.2.2 e.symm), fits_setP hna.fit ho.key ho.val⟩).keep m9b.drew (Mod.refl _ _))
 have hz' : ((vk : Int) == 0) = true := by simp; omega
 have hz2 : (vk : Int) = 0 := by omega
 clear hp hL ho hf hx m1 hna hnm hni m9a m9b hU hM hvg hlen hbx hb5 hn5 hU6 hM6 hM56 hn6 hkey hd0 hz hz2
 go_enter Tryz.func72, Tryz.ntmps72
 go_wp2_with fail
 go_region
 go_wp2_with fail
 go_region
 all_goals
   go_wp2_with fail
   go_region
   all_goals
     go_wp2_with fail
     go_region
     all_goals
       go_wp2_with fail
       go_ret2
       exact RunP.ok HONE.out ⟨_, _, rfl, ⟨HT.out.pg, HT.out.is, HT.out.mod, HT.out.new, HT.out.newM, fun m hm => HT.out.same m (by rw [HNI.out]; exact hm.1)⟩, RdS.none _ _⟩
open Go.RowKit Go.Maps
theorem b0_4 {a b key vk : Nat} {vn : Int} {vs : ByteArray} {ns : List Node} (hL : Good (ns.map Node.x)) (hok : opOK ⟨4, a, b, key, ⟨vk, vn, vs⟩⟩ = true) {n : Node} (hn : n ∈ ns) : entX n.x.halves b = none := by
 have hb : b = 0 := by
   unfold opOK at hok
   simp only [Opr.two, Opr.hasKey, Opr.hasVal, Bool.and_eq_true] at hok
   simpa using hok.1.1.2
 subst hb
 rw [entX_isNone]
 intro e he h0
 have := ((hL.each n.x (List.mem_map_of_mem hn)).halves e he).1
 omega
set_option maxRecDepth 100000 in
set_option maxHeartbeats 4000000 in
theorem run_4 (g bm : Nat) (ns : List Node) (a b key vk : Nat) (vn : Int) (vs : ByteArray) (pos : Int) (w : World) (hp : PG w g bm ns) (hL : Good (ns.map Node.x)) (ho : Opr.Fits ⟨4, a, b, key, ⟨vk, vn, vs⟩⟩) (n : Node) (hf : findN ns a = some n) (hx : entX n.x.halves b = none) :
   Calls Tryz.prog 72 #[.pointer (some ⟨g, 0, none⟩), .int .i64 pos, .agg #[.int .u8 4, .int .u32 (a : Int), .int .u32 (b : Int), .int .u8 (key : Int), .int .u8 (vk : Int), .int .i64 vn, .string vs]] w (RunP g bm ns ⟨4, a, b, key, ⟨vk, vn, vs⟩⟩ pos w) := by
 have HONE : Hid (oneG (ns.map Node.x) ⟨4, a, b, key, ⟨vk, vn, vs⟩⟩ = ⟨0, ns.map Node.x, [propV n.x key]⟩) := Lib.hid (by unfold oneG; simp only [findN_map, hf, Option.map_some, Nat.reduceEqDiff, if_false, if_true])
 have HP := Lib.hid hp
 have HL := Lib.hid hL
 have HO := Lib.hid ho
 have g0 := cell_of_row hp.cell 0
 have zg := lt_of_block hp.cell
 have zg1 : g < w.heap.size + 1 := by omega
 have zg2 : g < w.heap.size + 1 + 1 := by omega
 have zg3 : g < w.heap.size + 1 + 1 + 1 := by omega
 simp at g0
 have m1 : Mod (fun _ => False) w (w.alloc (.cells #[.int .u8 4, .int .u32 (a : Int), .int .u32 (b : Int), .int .u8 (key : Int), .int .u8 (vk : Int), .int .i64 vn, .string vs] 79)).drew := ((Mod.refl _ _).alloc _).drew
 have HM1 := Lib.hid m1
 have la := hp.nm.look m1 ho.a
 have lb := hp.nm.look m1 ho.b
 obtain ⟨hnm, hni⟩ := findN_mem hf
 have hna := hp.nm.each n hnm
 have HNM := Lib.hid hnm
 have HNI := Lib.hid hni
 have HNA := Lib.hid hna
 have HOW := Lib.hid (hp.nm.own n hnm)
 have HOF := Lib.hid (fun e : g ∈ n.blocks => hp.goff (.inr ⟨n, hnm, e⟩))
 have p0 := cell_of_row hna.box 0
 have p1 := cell_of_row hna.box 1
 have zp := lt_of_block hna.box
 have zp1 : n.p < w.heap.size + 1 := by omega
 have zp2 : n.p < w.heap.size + 1 + 1 := by omega
 have zp3 : n.p < w.heap.size + 1 + 1 + 1 := by omega
 simp at p0 p1
 rw [hf] at la
 simp only [ptrN] at la
 generalize ptrN (findN ns b) = pb at lb
 have m9a : Mod (fun _ => False) w (w.alloc (.cells #[.int .u8 4, .int .u32 (a : Int), .int .u32 (b : Int), .int .u8 (key : Int), .int .u8 (vk : Int), .int .i64 vn, .string vs] 79)).drew.drew := m1.drew
 have m9b : Mod (fun _ => False) w (((w.alloc (.cells #[.int .u8 4, .int .u32 (a : Int), .int .u32 (b : Int), .int .u8 (key : Int), .int .u8 (vk : Int), .int .i64 vn, .string vs] 79)).alloc (.cells #[.int .u8 0, .int .i64 0, .string ⟨#[]⟩] 77)).drew.drew) := (((Mod.refl _ w).alloc _).alloc _).drew.drew
 have he1 := hna.edge m9a ho.b
 have he2 := hna.edge m9b ho.b
 rw [hx] at he1 he2
 simp only [valO, Option.isSome_none] at he1 he2
 have hpr := hna.propv m9b.drew ho.key
 generalize propV n.x key = pv at hpr HONE
 obtain ⟨pk, pn, ps⟩ := pv
 simp only at hpr
 have HM9 := Lib.hid m9b
 clear hp hL ho hf hx m1 hna hnm hni m9a m9b
 go_enter Tryz.func72, Tryz.ntmps72
 go_wp2_with fail
 go_region
 go_wp2_with fail
 go_region
 all_goals
   go_wp2_with fail
   go_region
   all_goals
     go_wp2_with fail
     go_ret2
     refine RunP.ok HONE.out ⟨_, _, rfl, Turned.idle HP.out (by repeat (first | exact Mod.refl _ _ | apply Mod.drew | apply Mod.alloc)) _, ?_⟩
     have h := rd_lit (((w.alloc (.cells #[.int .u8 4, .int .u32 (a : Int), .int .u32 (b : Int), .int .u8 (key : Int), .int .u8 (vk : Int), .int .i64 vn, .string vs] 79)).alloc (.cells #[.int .u8 0, .int .i64 0, .string ⟨#[]⟩] 77)).drew.drew).drew 77 #[.int .u8 (pk : Int), .int .i64 pn, .string ps] 1 3 (w.heap.size + 1 + 1) (by simp) rfl (by unfold maxLen; omega) (by simp [Value.oneCell'])
     exact h
end Go.Proofs.YtpigipgoopeeoaaGreatDoor
