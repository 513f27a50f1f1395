import Derived.Test.YtpigipgoopeeoaaGreatDoorMOn23
set_option linter.unusedVariables false
set_option linter.unusedSimpArgs false
namespace Go.Proofs.YtpigipgoopeeoaaGreatDoor
open Go.RowKit Go.Maps
set_option maxRecDepth 100000 in
set_option maxHeartbeats 4000000 in
theorem run_5d (g bm : Nat) (ns : List Node) (a b key vk : Nat) (vn : Int) (vs : ByteArray) (pos : Int) (w : World) (hp : PG w g bm ns) (hL : Good (ns.map Node.x)) (ho : Opr.Fits ⟨5, a, b, key, ⟨vk, vn, vs⟩⟩) (n u : Node) (hf : findN ns a = some n) (hfb : findN ns b = some u) (hx : entX n.x.halves b = none) (hd : ¬ 16 ≤ n.x.halves.length) (hd2 : ¬ 16 ≤ u.x.halves.length) (hab : a ≠ b) :
   Calls Tryz.prog 72 #[.pointer (some ⟨g, 0, none⟩), .int .i64 pos, .agg #[.int .u8 5, .int .u32 (a : Int), .int .u32 (b : Int), .int .u8 (key : Int), .int .u8 (vk : Int), .int .i64 vn, .string vs]] w (RunP g bm ns ⟨5, a, b, key, ⟨vk, vn, vs⟩⟩ pos w) := by
 have HONE : Hid (oneG (ns.map Node.x) ⟨5, a, b, key, ⟨vk, vn, vs⟩⟩ = ⟨0, layV (setH u.x a ⟨vk, vn, vs⟩ true) (layV (setH n.x b ⟨vk, vn, vs⟩ true) (ns.map Node.x)), []⟩) := Lib.hid (by
   unfold oneG
   simp only [findN_map, hf, hfb, Option.map_some, Option.map_none, Nat.reduceEqDiff, if_false, if_true, hx, Option.isSome_none, Option.isSome_some, Bool.false_eq_true]
   rw [if_neg (by omega)])
 have HP := Lib.hid hp
 have HL := Lib.hid hL
 have HO := Lib.hid ho
 have g0 := cell_of_row hp.cell 0
 have zg := lt_of_block hp.cell
 have zg1 : g < w.heap.size + 1 := by omega
 have zg2 : g < w.heap.size + 1 + 1 := by omega
 have zg3 : g < w.heap.size + 1 + 1 + 1 := by omega
 simp at g0
 have m1 : Mod (fun _ => False) w (w.alloc (.cells #[.int .u8 5, .int .u32 (a : Int), .int .u32 (b : Int), .int .u8 (key : Int), .int .u8 (vk : Int), .int .i64 vn, .string vs] 79)).drew := ((Mod.refl _ _).alloc _).drew
 have HM1 := Lib.hid m1
 have la := hp.nm.look m1 ho.a
 have lb := hp.nm.look m1 ho.b
 obtain ⟨hnm, hni⟩ := findN_mem hf
 have hna := hp.nm.each n hnm
 have HNM := Lib.hid hnm
 have HNI := Lib.hid hni
 have HNA := Lib.hid hna
 have HOW := Lib.hid (hp.nm.own n hnm)
 have HOF := Lib.hid (fun e : g ∈ n.blocks => hp.goff (.inr ⟨n, hnm, e⟩))
 have p0 := cell_of_row hna.box 0
 have p1 := cell_of_row hna.box 1
 have zp := lt_of_block hna.box
 have zp1 : n.p < w.heap.size + 1 := by omega
 have zp2 : n.p < w.heap.size + 1 + 1 := by omega
 have zp3 : n.p < w.heap.size + 1 + 1 + 1 := by omega
 simp at p0 p1
 rw [hf] at la
 simp only [ptrN] at la
 rw [hfb] at lb
 simp only [ptrN] at lb
 have m9a : Mod (fun _ => False) w (w.alloc (.cells #[.int .u8 5, .int .u32 (a : Int), .int .u32 (b : Int), .int .u8 (key : Int), .int .u8 (vk : Int), .int .i64 vn, .string vs] 79)).drew.drew := m1.drew
 have m9b : Mod (fun _ => False) w (((w.alloc (.cells #[.int .u8 5, .int .u32 (a : Int), .int .u32 (b : Int), .int .u8 (key : Int), .int .u8 (vk : Int), .int .i64 vn, .string vs] 79)).alloc (.cells #[.int .u8 0, .int .i64 0, .string ⟨#[]⟩] 77)).drew.drew) := (((Mod.refl _ w).alloc _).alloc _).drew.drew
 have he1 := hna.edge m9a ho.b
 have he2 := hna.edge m9b ho.b
 rw [hx] at he1 he2
 simp only [valO, Option.isSome_none] at he1 he2
 obtain ⟨hum, hui⟩ := findN_mem hfb
 have hua := hp.nm.each u hum
 have y0 := cell_of_row hua.box 0
 have y1 := cell_of_row hua.box 1
 have zu := lt_of_block hua.box
 have zu1 : u.p < w.heap.size + 1 := by omega
 have zu2 : u.p < w.heap.size + 1 + 1 := by omega
 have zu3 : u.p < w.heap.size + 1 + 1 + 1 := by omega
 simp at y0 y1
 have hbx : (((w.alloc (.cells #[.int .u8 5, .int .u32 (a : Int), .int .u32 (b : Int), .int .u8 (key : Int), .int .u8 (vk : Int), .int .i64 vn, .string vs] 79)).alloc (.cells #[.int .u8 0, .int .i64 0, .string ⟨#[]⟩] 77)).drew.drew).drew.heap[w.heap.size]? = some (.cells #[.int .u8 5, .int .u32 (a : Int), .int .u32 (b : Int), .int .u8 (key : Int), .int .u8 (vk : Int), .int .i64 vn, .string vs] 79 (0, 0)) := by
   have m : Mod (fun _ => False) (w.alloc (.cells #[.int .u8 5, .int .u32 (a : Int), .int .u32 (b : Int), .int .u8 (key : Int), .int .u8 (vk : Int), .int .i64 vn, .string vs] 79)) (((w.alloc (.cells #[.int .u8 5, .int .u32 (a : Int), .int .u32 (b : Int), .int .u8 (key : Int), .int .u8 (vk : Int), .int .i64 vn, .string vs] 79)).alloc (.cells #[.int .u8 0, .int .i64 0, .string ⟨#[]⟩] 77)).drew.drew).drew := ((Mod.refl _ _).alloc _).drew.drew.drew
   exact m.heap (heap_alloc_new' w _) (fun f => f)
 have hl := hna.deg m9b 3
 have hlu := hua.deg m9b 3
 have hsep : ∀ x ∈ n.blocks, x ∉ u.blocks := fun x h1 h2 => hab (by have := hp.nm.sep n hnm u hum x h1 h2; rw [← hni, this, hui])
 have hvg := hL.each n.x (List.mem_map_of_mem hnm)
 have hug := hL.each u.x (List.mem_map_of_mem hum)
 have hln : (pents n.x.halves).length < maxLen := by rw [pents_length]; unfold maxLen; omega
 have hlu2 : (pents u.x.halves).length < maxLen := by rw [pents_length]; unfold maxLen; omega
 have s1 : u.me ≠ n.me := fun e => hsep n.me (by simp [Node.blocks]) (by simp [Node.blocks, e])
 have s2 : u.p ≠ n.me := fun e => hsep n.me (by simp [Node.blocks]) (by simp [Node.blocks, e])
 have s3 : u.mp ≠ n.me := fun e => hsep n.me (by simp [Node.blocks]) (by simp [Node.blocks, e])
 have s4 := hp.nm.own u hum
 have hml : n.me < w.heap.size := hna.edges.lt
 have hul : u.me < w.heap.size := hua.edges.lt
 obtain ⟨q1, st1, wa, e1, M1, K1⟩ := (hna.edges.keep m9b.drew).entry Tryz.underlying32 Tryz.underlying141 (zero_val _) hln (u32key ho.b) (.agg #[.int .u8 (vk : Int), .int .i64 vn, .string vs])
 obtain ⟨wb, e2, U2, M2⟩ := K1 wa (Mod.refl _ _)
 have M12 := M1.trans M2
 obtain ⟨q2, st2, wc, e3, M3, K3⟩ := ((hua.edges.keep m9b.drew).mod M12 s1).entry Tryz.underlying32 Tryz.underlying141 (zero_val _) hlu2 (u32key ho.a) (.agg #[.int .u8 (vk : Int), .int .i64 vn, .string vs])
 obtain ⟨wd, e4, U4, M4⟩ := K3 wc (Mod.refl _ _)
 have M34 := M3.trans M4
 have gBa := M1.heap hbx (by omega)
 have gBb := M2.heap gBa (by omega)
 have gBc := M3.heap gBb (by omega)
 have gBd := M4.heap gBc (by omega)
 have gUa := M1.heap (m9b.drew.heap hua.box (fun f => f)) s2
 have gUb := M2.heap gUa s2
 have gUc := M3.heap gUb s4.2.1
 have gUd := M4.heap gUc s4.2.1
 have gNa := M1.heap (m9b.drew.heap hna.box (fun f => f)) HOW.out.2.1
 have gNb := M2.heap gNa HOW.out.2.1
 have gNc := M3.heap gNb (fun e => hsep n.p (by simp [Node.blocks]) (by simp [Node.blocks, e]))
 have gNd := M4.heap gNc (fun e => hsep n.p (by simp [Node.blocks]) (by simp [Node.blocks, e]))
 have cBa1 := cell_of_row gBa 1
 have cBa2 := cell_of_row gBa 2
 have cBa4 := cell_of_row gBa 4
 have cBa5 := cell_of_row gBa 5
 have cBa6 := cell_of_row gBa 6
 have lBa := lt_of_block gBa
 have cUa1 := cell_of_row gUa 1
 have lUa := lt_of_block gUa
 have cNa1 := cell_of_row gNa 1
 have lNa := lt_of_block gNa
 have cBb1 := cell_of_row gBb 1
 have cBb2 := cell_of_row gBb 2
 have cBb4 := cell_of_row gBb 4
 have cBb5 := cell_of_row gBb 5
 have cBb6 := cell_of_row gBb 6
 have lBb := lt_of_block gBb
 have cUb1 := cell_of_row gUb 1
 have lUb := lt_of_block gUb
 have cNb1 := cell_of_row gNb 1
 have lNb := lt_of_block gNb
 have cBc1 := cell_of_row gBc 1
 have cBc2 := cell_of_row gBc 2
 have cBc4 := cell_of_row gBc 4
 have cBc5 := cell_of_row gBc 5
 have cBc6 := cell_of_row gBc 6
 have lBc := lt_of_block gBc
 have cUc1 := cell_of_row gUc 1
 have lUc := lt_of_block gUc
 have cNc1 := cell_of_row gNc 1
 have lNc := lt_of_block gNc
 have cBd1 := cell_of_row gBd 1
 have cBd2 := cell_of_row gBd 2
 have cBd4 := cell_of_row gBd 4
 have cBd5 := cell_of_row gBd 5
 have cBd6 := cell_of_row gBd 6
 have lBd := lt_of_block gBd
 have cUd1 := cell_of_row gUd 1
 have lUd := lt_of_block gUd
 have cNd1 := cell_of_row gNd 1
 have lNd := lt_of_block gNd
 simp at cBa1 cBa2 cBa4 cBa5 cBa6 cBb1 cBb2 cBb4 cBb5 cBb6 cBc1 cBc2 cBc4 cBc5 cBc6 cBd1 cBd2 cBd4 cBd5 cBd6 cUa1 cNa1 cUb1 cNb1 cUc1 cNc1 cUd1 cNd1
 rw [show ((.agg #[.int .u8 (vk : Int), .int .i64 vn, .string vs]) : Value) = Val.v ⟨vk, vn, vs⟩ from rfl, putL_pents b ⟨vk, vn, vs⟩ hvg.hrise] at U2
 rw [show ((.agg #[.int .u8 (vk : Int), .int .i64 vn, .string vs]) : Value) = Val.v ⟨vk, vn, vs⟩ from rfl, putL_pents a ⟨vk, vn, vs⟩ hug.hrise] at U4
 have T1 : Turned g bm ns (layV (setH n.x b ⟨vk, vn, vs⟩ true) (ns.map Node.x)) (fun k => k ≠ n.x.id) (((w.alloc (.cells #[.int .u8 5, .int .u32 (a : Int), .int .u32 (b : Int), .int .u8 (key : Int), .int .u8 (vk : Int), .int .i64 vn, .string vs] 79)).alloc (.cells #[.int .u8 0, .int .i64 0, .string ⟨#[]⟩] 77)).drew.drew).drew wb (replN ⟨setH n.x b ⟨vk, vn, vs⟩ true, n.p, n.mp, n.me⟩ ns) := Turned.repl (hp.keep m9b.drew) (n := ⟨setH n.x b ⟨vk, vn, vs⟩ true, n.p, n.mp, n.me⟩) hnm rfl hvg.there rfl M12 (fun b e => .inr e) ⟨M12.heap (m9b.drew.heap hna.box (fun f => f)) HOW.out.2.1, (hna.props.keep m9b.drew).mod M12 HOW.out.2.2, U2, fits_setH hna.fit ho.b ho.val⟩
 have hu1 : u ∈ replN ⟨setH n.x b ⟨vk, vn, vs⟩ true, n.p, n.mp, n.me⟩ ns := List.mem_map.2 ⟨u, hum, by rw [if_neg (by show ¬ u.x.id = n.x.id; rw [hui, hni]; exact fun e => hab e.symm)]⟩
 have T2 := Turned.repl T1.pg (n := ⟨setH u.x a ⟨vk, vn, vs⟩ true, u.p, u.mp, u.me⟩) hu1 rfl hug.there rfl M34 (fun b e => .inr e) ⟨M34.heap (M12.heap (m9b.drew.heap hua.box (fun f => f)) s2) s4.2.1, ((hua.props.keep m9b.drew).mod M12 s3).mod M34 s4.2.2, U4, fits_setH hua.fit ho.a ho.val⟩
 rw [T1.is] at T2
 have HT : Hid (∃ ns', Turned g bm ns (layV (setH u.x a ⟨vk, vn, vs⟩ true) (layV (setH n.x b ⟨vk, vn, vs⟩ true) (ns.map Node.x))) (fun k => k ≠ a ∧ k ≠ b) w wd ns') := Lib.hid ⟨_, (T1.trans T2 (fun k hk => by rw [hni]; exact hk.1) (fun k hk => by rw [hui]; exact hk.2)).keep m9b.drew (Mod.refl _ _)⟩
 obtain ⟨d, hdd⟩ : ∃ d, d = n.x.halves.length := ⟨_, rfl⟩
 rw [← hdd] at hl
 obtain ⟨f, hff⟩ : ∃ f, f = u.x.halves.length := ⟨_, rfl⟩
 rw [← hff] at hlu
 rw [← hdd] at hd
 rw [← hff] at hd2
 have hd' : ¬ (16 : Int) ≤ (d : Int) := by omega
 have hd3 : ¬ (16 : Int) ≤ (f : Int) := by omega
 clear hp hL ho hf hx m1 hna hnm hni m9a m9b hfb hua hum hui hdd hff hd hd2 hsep hvg hug hln hlu2 s1 s2 s3 s4 hml hul M1 K1 U2 M2 M12 M3 K3 U4 M4 M34 T1 hu1 T2 hab hbx gBa gBb gBc gBd gUa gUb gUc gUd gNa gNb gNc gNd
 go_enter Tryz.func72, Tryz.ntmps72
 go_wp2_with fail
 go_region
 go_wp2_with fail
 go_region
 all_goals
   go_wp2_with fail
   go_region_held3 (fun w' => w'.cell? ⟨w.heap.size, 1, none⟩ = some (.int .u32 (a : Int)) ∧ w'.cell? ⟨w.heap.size, 2, none⟩ = some (.int .u32 (b : Int)) ∧ w'.cell? ⟨w.heap.size, 4, none⟩ = some (.int .u8 (vk : Int)) ∧ w'.cell? ⟨w.heap.size, 5, none⟩ = some (.int .i64 vn) ∧ w'.cell? ⟨w.heap.size, 6, none⟩ = some (.string vs) ∧ w'.cell? ⟨n.p, 1, none⟩ = some (.map (some n.me)) ∧ w'.cell? ⟨u.p, 1, none⟩ = some (.map (some u.me)))
     (first | go_keep | exact ⟨cBa1, cBa2, cBa4, cBa5, cBa6, cNa1, cUa1⟩ | exact ⟨cBb1, cBb2, cBb4, cBb5, cBb6, cNb1, cUb1⟩ | exact ⟨cBc1, cBc2, cBc4, cBc5, cBc6, cNc1, cUc1⟩ | exact ⟨cBd1, cBd2, cBd4, cBd5, cBd6, cNd1, cUd1⟩)
     (fail)
   all_goals
     go_wp2_with fail
     go_ret2
     obtain ⟨ns', ht⟩ := HT.out
     exact RunP.ok HONE.out ⟨_, _, rfl, ht, RdS.none _ _⟩
end Go.Proofs.YtpigipgoopeeoaaGreatDoor
