/- YA: what is needed of it (by shake.py). -/
import Derived.Test.YtbgjbikpenefoaaGreatDoorM16

/- YA, as far as the seat goes. -/
/- graph.run: no such vertex; a vertex that comes. (Printed by gen_run.py.) -/
namespace Go.Proofs.YtbgjbikpenefoaaGreatDoor
set_option linter.unusedVariables false
set_option linter.unusedSimpArgs false
open Go.RowKit Go.Maps
set_option maxRecDepth 100000 in
set_option maxHeartbeats 4000000 in
theorem run_none (g bm : Nat) (ns : List Node) (kind a b key vk : Nat) (vn : Int) (vs : ByteArray) (pos : Int) (w : World) (hp : PG w g bm ns) (hL : Good (ns.map Node.x)) (ho : Opr.Fits ⟨kind, a, b, key, ⟨vk, vn, vs⟩⟩) (hk : kind ≠ 1) (hf : findN ns a = none) :
    Calls Tryz.prog 53 #[.pointer (some ⟨g, 0, none⟩), .int .i64 pos, .agg #[.int .u8 (kind : Int), .int .u32 (a : Int), .int .u32 (b : Int), .int .u8 (key : Int), .int .u8 (vk : Int), .int .i64 vn, .string vs]] w (RunP g bm ns ⟨kind, a, b, key, ⟨vk, vn, vs⟩⟩ pos w) := by
  have HONE : Hid (oneG (ns.map Node.x) ⟨kind, a, b, key, ⟨vk, vn, vs⟩⟩ = ⟨6, ns.map Node.x, []⟩) := Lib.hid (by unfold oneG; rw [if_neg hk, findN_map, hf]; rfl)
  have HP := Lib.hid hp
  have HL := Lib.hid hL
  have HO := Lib.hid ho
  have g0 := cell_of_row hp.cell 0
  have zg := lt_of_block hp.cell
  have zg1 : g < w.heap.size + 1 := by omega
  have zg2 : g < w.heap.size + 1 + 1 := by omega
  have zg3 : g < w.heap.size + 1 + 1 + 1 := by omega
  simp at g0
  have m1 : Mod (fun _ => False) w (w.alloc (.cells #[.int .u8 (kind : Int), .int .u32 (a : Int), .int .u32 (b : Int), .int .u8 (key : Int), .int .u8 (vk : Int), .int .i64 vn, .string vs] 71)).drew := ((Mod.refl _ _).alloc _).drew
  have HM1 := Lib.hid m1
  have la := hp.nm.look m1 ho.a
  have lb := hp.nm.look m1 ho.b
  have k1 : ((kind : Int) == 1) = false := by simp; omega
  rw [hf] at la
  simp only [ptrN] at la
  generalize ptrN (findN ns b) = pb at lb
  clear hp hL ho hk hf m1
  go_enter Tryz.func53, Tryz.ntmps53
  go_wp2_with fail
  go_region
  go_wp2_with (go_at_call 74; refine (refusal_any 6 pos _ _ (by rfl)).mono ?_; (rintro e w9 ⟨rfl, rfl⟩))
  go_ret2
  exact RunP.no HONE.out (by omega) (RunNO.made HM1.out (by simp))
set_option maxRecDepth 100000 in
set_option maxHeartbeats 4000000 in
theorem run_1a (g bm : Nat) (ns : List Node) (a b key vk : Nat) (vn : Int) (vs : ByteArray) (pos : Int) (w : World) (hp : PG w g bm ns) (hL : Good (ns.map Node.x)) (ho : Opr.Fits ⟨1, a, b, key, ⟨vk, vn, vs⟩⟩) (n : Node) (hf : findN ns a = some n) :
    Calls Tryz.prog 53 #[.pointer (some ⟨g, 0, none⟩), .int .i64 pos, .agg #[.int .u8 1, .int .u32 (a : Int), .int .u32 (b : Int), .int .u8 (key : Int), .int .u8 (vk : Int), .int .i64 vn, .string vs]] w (RunP g bm ns ⟨1, a, b, key, ⟨vk, vn, vs⟩⟩ pos w) := by
  have HONE : Hid (oneG (ns.map Node.x) ⟨1, a, b, key, ⟨vk, vn, vs⟩⟩ = ⟨7, ns.map Node.x, []⟩) := Lib.hid (by unfold oneG; rw [if_pos rfl, findN_map, hf]; rfl)
  have HP := Lib.hid hp
  have HL := Lib.hid hL
  have HO := Lib.hid ho
  have g0 := cell_of_row hp.cell 0
  have zg := lt_of_block hp.cell
  have zg1 : g < w.heap.size + 1 := by omega
  have zg2 : g < w.heap.size + 1 + 1 := by omega
  have zg3 : g < w.heap.size + 1 + 1 + 1 := by omega
  simp at g0
  have m1 : Mod (fun _ => False) w (w.alloc (.cells #[.int .u8 1, .int .u32 (a : Int), .int .u32 (b : Int), .int .u8 (key : Int), .int .u8 (vk : Int), .int .i64 vn, .string vs] 71)).drew := ((Mod.refl _ _).alloc _).drew
  have HM1 := Lib.hid m1
  have la := hp.nm.look m1 ho.a
  have lb := hp.nm.look m1 ho.b
  rw [hf] at la
  simp only [ptrN] at la
  generalize ptrN (findN ns b) = pb at lb
  clear hp hL ho hf m1
  go_enter Tryz.func53, Tryz.ntmps53
  go_wp2_with fail
  go_region
  go_wp2_with (go_at_call 74; refine (refusal_any 7 pos _ _ (by rfl)).mono ?_; (rintro e w9 ⟨rfl, rfl⟩))
  go_ret2
  exact RunP.no HONE.out (by omega) (RunNO.made HM1.out (by simp))
set_option maxRecDepth 100000 in
set_option maxHeartbeats 4000000 in
theorem run_1b (g bm : Nat) (ns : List Node) (a b key vk : Nat) (vn : Int) (vs : ByteArray) (pos : Int) (w : World) (hp : PG w g bm ns) (hL : Good (ns.map Node.x)) (ho : Opr.Fits ⟨1, a, b, key, ⟨vk, vn, vs⟩⟩) (hf : findN ns a = none) :
    Calls Tryz.prog 53 #[.pointer (some ⟨g, 0, none⟩), .int .i64 pos, .agg #[.int .u8 1, .int .u32 (a : Int), .int .u32 (b : Int), .int .u8 (key : Int), .int .u8 (vk : Int), .int .i64 vn, .string vs]] w (RunP g bm ns ⟨1, a, b, key, ⟨vk, vn, vs⟩⟩ pos w) := by
  have HONE : Hid (oneG (ns.map Node.x) ⟨1, a, b, key, ⟨vk, vn, vs⟩⟩ = ⟨0, layV ⟨a, true, [], []⟩ (ns.map Node.x), []⟩) := Lib.hid (by unfold oneG; rw [if_pos rfl, findN_map, hf]; rfl)
  have HP := Lib.hid hp
  have HL := Lib.hid hL
  have HO := Lib.hid ho
  have g0 := cell_of_row hp.cell 0
  have zg := lt_of_block hp.cell
  have zg1 : g < w.heap.size + 1 := by omega
  have zg2 : g < w.heap.size + 1 + 1 := by omega
  have zg3 : g < w.heap.size + 1 + 1 + 1 := by omega
  simp at g0
  have m1 : Mod (fun _ => False) w (w.alloc (.cells #[.int .u8 1, .int .u32 (a : Int), .int .u32 (b : Int), .int .u8 (key : Int), .int .u8 (vk : Int), .int .i64 vn, .string vs] 71)).drew := ((Mod.refl _ _).alloc _).drew
  have HM1 := Lib.hid m1
  have la := hp.nm.look m1 ho.a
  have lb := hp.nm.look m1 ho.b
  rw [hf] at la
  simp only [ptrN] at la
  generalize ptrN (findN ns b) = pb at lb
  have hlen : (ns.map Node.f).length < maxLen := by
    have := hL.short
    rw [List.length_map] at this ⊢
    unfold maxLen; omega
  have hbm := hp.lt bm (.inr (.inl rfl))
  have m40 : Mod (fun _ => False) w (((((w.alloc (.cells #[.int .u8 1, .int .u32 (a : Int), .int .u32 (b : Int), .int .u8 (key : Int), .int .u8 (vk : Int), .int .i64 vn, .string vs] 71)).alloc (.map #[] 0)).alloc (.map #[] 0)).alloc (.cells #[.map (some (w.heap.size + 1)), .map (some (w.heap.size + 1 + 1))] 93)).drew.drew) := (((((Mod.refl _ w).alloc _).alloc _).alloc _).alloc _).drew.drew
  have hb10 : (((((w.alloc (.cells #[.int .u8 1, .int .u32 (a : Int), .int .u32 (b : Int), .int .u8 (key : Int), .int .u8 (vk : Int), .int .i64 vn, .string vs] 71)).alloc (.map #[] 0)).alloc (.map #[] 0)).alloc (.cells #[.map (some (w.heap.size + 1)), .map (some (w.heap.size + 1 + 1))] 93)).drew.drew).heap[(w.heap.size + 1)]? = some (.map #[] 0) := heap_alloc_old (heap_alloc_old (by have h := heap_alloc_new' (w.alloc (.cells #[.int .u8 1, .int .u32 (a : Int), .int .u32 (b : Int), .int .u8 (key : Int), .int .u8 (vk : Int), .int .i64 vn, .string vs] 71)) (.map #[] 0); simpa using h))
  have hb20 : (((((w.alloc (.cells #[.int .u8 1, .int .u32 (a : Int), .int .u32 (b : Int), .int .u8 (key : Int), .int .u8 (vk : Int), .int .i64 vn, .string vs] 71)).alloc (.map #[] 0)).alloc (.map #[] 0)).alloc (.cells #[.map (some (w.heap.size + 1)), .map (some (w.heap.size + 1 + 1))] 93)).drew.drew).heap[(w.heap.size + 1 + 1)]? = some (.map #[] 0) := heap_alloc_old (by have h := heap_alloc_new' ((w.alloc (.cells #[.int .u8 1, .int .u32 (a : Int), .int .u32 (b : Int), .int .u8 (key : Int), .int .u8 (vk : Int), .int .i64 vn, .string vs] 71)).alloc (.map #[] 0)) (.map #[] 0); simpa using h)
  have hb30 : (((((w.alloc (.cells #[.int .u8 1, .int .u32 (a : Int), .int .u32 (b : Int), .int .u8 (key : Int), .int .u8 (vk : Int), .int .i64 vn, .string vs] 71)).alloc (.map #[] 0)).alloc (.map #[] 0)).alloc (.cells #[.map (some (w.heap.size + 1)), .map (some (w.heap.size + 1 + 1))] 93)).drew.drew).heap[(w.heap.size + 1 + 1 + 1)]? = some (.cells #[.map (some (w.heap.size + 1)), .map (some (w.heap.size + 1 + 1))] 93 (0, 0)) := by have h := heap_alloc_new' (((w.alloc (.cells #[.int .u8 1, .int .u32 (a : Int), .int .u32 (b : Int), .int .u8 (key : Int), .int .u8 (vk : Int), .int .i64 vn, .string vs] 71)).alloc (.map #[] 0)).alloc (.map #[] 0)) (.cells #[.map (some (w.heap.size + 1)), .map (some (w.heap.size + 1 + 1))] 93); rw [show (((w.alloc (.cells #[.int .u8 1, .int .u32 (a : Int), .int .u32 (b : Int), .int .u8 (key : Int), .int .u8 (vk : Int), .int .i64 vn, .string vs] 71)).alloc (.map #[] 0)).alloc (.map #[] 0)).heap.size = (w.heap.size + 1 + 1 + 1) by simp] at h; exact h
  have hn0 := NAt.made (id := a) ho.a hb30 hb10 hb20
  obtain ⟨w50, hrun0, hU0, hM0⟩ := (hp.nm.map.keep m40).store Tryz.underlying23 Tryz.underlying79 hlen (u32key ho.a) (.pointer (some ⟨(w.heap.size + 1 + 1 + 1), 0, none⟩))
  have HT0 : Hid (Turned g bm ns (layV ⟨a, true, [], []⟩ (ns.map Node.x)) (fun k => k ≠ a) w w50 (layG keyN ⟨⟨a, true, [], []⟩, (w.heap.size + 1 + 1 + 1), (w.heap.size + 1), (w.heap.size + 1 + 1)⟩ false ns)) := Lib.hid (by
    refine Turned.add hp (n := ⟨⟨a, true, [], []⟩, (w.heap.size + 1 + 1 + 1), (w.heap.size + 1), (w.heap.size + 1 + 1)⟩) rfl m40 hM0 hU0 (hn0.mod hM0 (fun x hx e => ?_)) (fun x hx => ?_) ⟨by dsimp only; omega, by dsimp only; omega, by dsimp only; omega⟩
    · simp [Node.blocks] at hx; omega
    · simp [Node.blocks] at hx; omega)
  have g40 := m40.cell g0
  have m41 : Mod (fun _ => False) w (((((w.alloc (.cells #[.int .u8 1, .int .u32 (a : Int), .int .u32 (b : Int), .int .u8 (key : Int), .int .u8 (vk : Int), .int .i64 vn, .string vs] 71)).alloc (.map #[] 0)).alloc (.map #[] 0)).alloc (.cells #[.map (some (w.heap.size + 1 + 1)), .map (some (w.heap.size + 1))] 93)).drew.drew) := (((((Mod.refl _ w).alloc _).alloc _).alloc _).alloc _).drew.drew
  have hb11 : (((((w.alloc (.cells #[.int .u8 1, .int .u32 (a : Int), .int .u32 (b : Int), .int .u8 (key : Int), .int .u8 (vk : Int), .int .i64 vn, .string vs] 71)).alloc (.map #[] 0)).alloc (.map #[] 0)).alloc (.cells #[.map (some (w.heap.size + 1 + 1)), .map (some (w.heap.size + 1))] 93)).drew.drew).heap[(w.heap.size + 1)]? = some (.map #[] 0) := heap_alloc_old (heap_alloc_old (by have h := heap_alloc_new' (w.alloc (.cells #[.int .u8 1, .int .u32 (a : Int), .int .u32 (b : Int), .int .u8 (key : Int), .int .u8 (vk : Int), .int .i64 vn, .string vs] 71)) (.map #[] 0); simpa using h))
  have hb21 : (((((w.alloc (.cells #[.int .u8 1, .int .u32 (a : Int), .int .u32 (b : Int), .int .u8 (key : Int), .int .u8 (vk : Int), .int .i64 vn, .string vs] 71)).alloc (.map #[] 0)).alloc (.map #[] 0)).alloc (.cells #[.map (some (w.heap.size + 1 + 1)), .map (some (w.heap.size + 1))] 93)).drew.drew).heap[(w.heap.size + 1 + 1)]? = some (.map #[] 0) := heap_alloc_old (by have h := heap_alloc_new' ((w.alloc (.cells #[.int .u8 1, .int .u32 (a : Int), .int .u32 (b : Int), .int .u8 (key : Int), .int .u8 (vk : Int), .int .i64 vn, .string vs] 71)).alloc (.map #[] 0)) (.map #[] 0); simpa using h)
  have hb31 : (((((w.alloc (.cells #[.int .u8 1, .int .u32 (a : Int), .int .u32 (b : Int), .int .u8 (key : Int), .int .u8 (vk : Int), .int .i64 vn, .string vs] 71)).alloc (.map #[] 0)).alloc (.map #[] 0)).alloc (.cells #[.map (some (w.heap.size + 1 + 1)), .map (some (w.heap.size + 1))] 93)).drew.drew).heap[(w.heap.size + 1 + 1 + 1)]? = some (.cells #[.map (some (w.heap.size + 1 + 1)), .map (some (w.heap.size + 1))] 93 (0, 0)) := by have h := heap_alloc_new' (((w.alloc (.cells #[.int .u8 1, .int .u32 (a : Int), .int .u32 (b : Int), .int .u8 (key : Int), .int .u8 (vk : Int), .int .i64 vn, .string vs] 71)).alloc (.map #[] 0)).alloc (.map #[] 0)) (.cells #[.map (some (w.heap.size + 1 + 1)), .map (some (w.heap.size + 1))] 93); rw [show (((w.alloc (.cells #[.int .u8 1, .int .u32 (a : Int), .int .u32 (b : Int), .int .u8 (key : Int), .int .u8 (vk : Int), .int .i64 vn, .string vs] 71)).alloc (.map #[] 0)).alloc (.map #[] 0)).heap.size = (w.heap.size + 1 + 1 + 1) by simp] at h; exact h
  have hn1 := NAt.made (id := a) ho.a hb31 hb21 hb11
  obtain ⟨w51, hrun1, hU1, hM1⟩ := (hp.nm.map.keep m41).store Tryz.underlying23 Tryz.underlying79 hlen (u32key ho.a) (.pointer (some ⟨(w.heap.size + 1 + 1 + 1), 0, none⟩))
  have HT1 : Hid (Turned g bm ns (layV ⟨a, true, [], []⟩ (ns.map Node.x)) (fun k => k ≠ a) w w51 (layG keyN ⟨⟨a, true, [], []⟩, (w.heap.size + 1 + 1 + 1), (w.heap.size + 1 + 1), (w.heap.size + 1)⟩ false ns)) := Lib.hid (by
    refine Turned.add hp (n := ⟨⟨a, true, [], []⟩, (w.heap.size + 1 + 1 + 1), (w.heap.size + 1 + 1), (w.heap.size + 1)⟩) rfl m41 hM1 hU1 (hn1.mod hM1 (fun x hx e => ?_)) (fun x hx => ?_) ⟨by dsimp only; omega, by dsimp only; omega, by dsimp only; omega⟩
    · simp [Node.blocks] at hx; omega
    · simp [Node.blocks] at hx; omega)
  have g41 := m41.cell g0
  clear hp hL ho hf m1 hU0 hM0 hn0 m40 hU1 hM1 hn1 m41 hb10 hb20 hb30 hb11 hb21 hb31 hlen
  have hmm := @run_makeMap Tryz.prog
  go_enter Tryz.func53, Tryz.ntmps53
  go_wp2_with fail
  go_region
  go_wp2_with fail
  go_region
  all_goals
    go_wp2_with fail
    go_ret2
    first
      | exact RunP.ok HONE.out ⟨_, _, rfl, ⟨HT0.out.pg, HT0.out.is, HT0.out.mod, HT0.out.new, HT0.out.newM, fun n hn => HT0.out.same n hn.1⟩, RdS.none _ _⟩
      | exact RunP.ok HONE.out ⟨_, _, rfl, ⟨HT1.out.pg, HT1.out.is, HT1.out.mod, HT1.out.new, HT1.out.newM, fun n hn => HT1.out.same n hn.1⟩, RdS.none _ _⟩
end Go.Proofs.YtbgjbikpenefoaaGreatDoor
