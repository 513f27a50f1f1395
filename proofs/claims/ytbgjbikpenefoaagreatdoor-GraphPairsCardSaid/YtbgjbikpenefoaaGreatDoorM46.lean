/- Lemmas for the claim, in one text: YBD, YLaid. -/
import Derived.Test.YtbgjbikpenefoaaGreatDoorYBC
import Derived.Test.YtbgjbikpenefoaaGreatDoorYAD
import Derived.Test.YtbgjbikpenefoaaGreatDoorM38
import Derived.Test.YtbgjbikpenefoaaGreatDoorYW
import Derived.Test.YtbgjbikpenefoaaGreatDoorM43
import Derived.Test.YtbgjbikpenefoaaGreatDoorM45
import Derived.Test.YtbgjbikpenefoaaGreatDoorY5
import Derived.Test.YtbgjbikpenefoaaGreatDoorRows
import Derived.LaidLaws
import Derived.LaidHandle
import Derived.Handed
import Derived.RowKit

/- YBD: what is needed of it (by shake.py). -/

/- YBD, as far as the seat goes. -/
/- gussetlaw03.GraphNil, walked. (Printed by gen_gnil.py.) -/
namespace Go.Proofs.YtbgjbikpenefoaaGreatDoor
set_option linter.unusedVariables false
set_option linter.unusedSimpArgs false
open Go.RowKit
/-- What a request gets where there is no graph. -/
def nilE (r : Rqt) : Nat := if checkR r = 0 then 6 else checkR r
theorem gdoN_any (r : Rqt) (vo : Value) (w : World) (ho : ORd w vo r.ops) :
    Calls Tryz.prog 13 #[.pointer none, rqV r vo] w fun e w' => e = .returned (.agg #[.int .i64 (nilE r : Nat), .int .i64 0, .slice none 0 0, .slice none 0 0]) ∧ Mod (fun _ => False) w w' := by
  unfold nilE
  by_cases hc : checkR r = 0
  · rw [if_pos hc]; exact gdo_nil r vo w ho hc
  · rw [if_neg hc]; exact gdo_bad _ r vo w ho hc
theorem ddoN_any (r : Rqt) (vo : Value) (w : World) (ho : ORd w vo r.ops) :
    Calls Tryz.prog 17 #[.pointer none, rqV r vo] w fun e w' => e = .returned (.agg #[.int .i64 (nilE r : Nat), .int .i64 0, .slice none 0 0, .slice none 0 0]) ∧ Mod (fun _ => False) w w' := by
  unfold nilE
  by_cases hc : checkR r = 0
  · rw [if_pos hc]; exact do_nil r vo w ho hc
  · rw [if_neg hc]; exact do_bad _ r vo w ho hc
set_option maxRecDepth 100000 in
set_option maxHeartbeats 2000000 in
theorem ldoN_any (r : Rqt) (vo : Value) (w : World) (ho : ORd w vo r.ops) (hn : r.ops.length * 48 ≤ 140737488355328) :
    Calls Tryz.prog 12 #[.pointer none, rqV r vo] w fun e w' => e = .returned (.agg #[.int .i64 (nilE r : Nat), .int .i64 0, .slice none 0 0, .slice none 0 0]) ∧ Mod (fun _ => False) w w' := by
  obtain ⟨kind, ops, v, k, d⟩ := r
  obtain ⟨a, c, rfl, -⟩ := ho.row.shape
  have HTW : Hid (∀ w', Mod (fun _ => False) w w' → Calls Tryz.prog 16 #[rqV ⟨kind, ops, v, k, d⟩ (.slice a ops.length c)] w' fun e w'' => ∃ vo', e = .returned (rqV ⟨kind, ops, v, k, d⟩ vo') ∧ Mod (fun _ => False) w' w'' ∧ ORd w'' vo' ops) := Lib.hid (fun w' m => twinreq_any _ _ w' (ho.keep m) hn)
  have HDO : Hid (∀ w' vo', ORd w' vo' ops → Calls Tryz.prog 13 #[.pointer none, rqV ⟨kind, ops, v, k, d⟩ vo'] w' fun e w'' => e = .returned (.agg #[.int .i64 (nilE ⟨kind, ops, v, k, d⟩ : Nat), .int .i64 0, .slice none 0 0, .slice none 0 0]) ∧ Mod (fun _ => False) w' w'') := Lib.hid (fun w' vo' h => gdoN_any _ vo' w' h)
  obtain ⟨n, hnn⟩ : ∃ n, n = ops.length := ⟨_, rfl⟩
  obtain ⟨ze, hze⟩ : ∃ ze, ze = nilE ⟨kind, ops, v, k, d⟩ := ⟨_, rfl⟩
  rw [← hze] at HDO ⊢
  simp only [rqV, ← hnn] at HTW HDO ⊢
  have HS := Lib.hid (DoAt.start w (.int .u8 (kind : Int)) (.slice a n c) (.int .u32 (v : Int)) (.int .i64 k) (.int .i64 d))
  clear ho hn hnn hze
  go_enter Tryz.func12, Tryz.ntmps12
  go_wp2_with (first
    | (go_at_call 13; refine (HDO.out _ _ HOR.out).mono ?_; (rintro e w3 ⟨rfl, hm3⟩); have HD3 := Lib.hid (HD1.out.next hm3 (fun _ f => f.elim)); (obtain ⟨r0, r1, r2, r3, f0, f1, f2, f3, zr⟩ := HD3.out.retf); clear hm3)
    | (go_at_call 16; refine (HTW.out _ HS.out.mod).mono ?_; (rintro e w2 ⟨vo', rfl, hm2, ho2⟩); have HD1 := Lib.hid (HS.out.next hm2 (fun _ f => f.elim)); have HOR := Lib.hid ho2; clear hm2 ho2))
  refine bodyPost_ret (v := .agg #[.int .i64 (ze : Int), .int .i64 0, .slice none 0 0, .slice none 0 0]) (by simp [results, Tryz.results12, go_sem, r0, r1, r2, r3]) rfl ?_
  exact ⟨rfl, (HD3.out.finish _ _ _ _).1⟩
set_option maxRecDepth 100000 in
set_option maxHeartbeats 4000000 in
theorem vertexN_any (id : Nat) (w : World) :
    Calls Tryz.prog 14 #[.pointer none, .int .u32 (id : Int)] w fun e w' => e = .returned (.agg #[.int .u32 (id : Int), .bool false, .slice none 0 0, .slice none 0 0]) ∧ Mod (fun _ => False) w w' := by
  obtain ⟨W2, hW2⟩ : ∃ W2, W2 = ((w.alloc (.cells #[.int .u32 0, .bool false, .slice none 0 0, .slice none 0 0] 40)).alloc (.cells #[.int .u32 (id : Int), .bool false, .slice none 0 0, .slice none 0 0] 40)) := ⟨_, rfl⟩
  have hrb : W2.heap[w.heap.size]? = some (.cells #[.int .u32 0, .bool false, .slice none 0 0, .slice none 0 0] 40 (0, 0)) := by rw [hW2]; exact heap_alloc_old (heap_alloc_new' w _)
  have r0 := cell_of_row hrb 0
  have r1 := cell_of_row hrb 1
  have r2 := cell_of_row hrb 2
  have r3 := cell_of_row hrb 3
  simp at r0 r1 r2 r3
  clear hrb
  go_enter Tryz.func14, Tryz.ntmps14
  go_wp2
  refine bodyPost_ret (v := .agg #[.int .u32 (id : Int), .bool false, .slice none 0 0, .slice none 0 0]) (by simp [results, Tryz.results14, go_sem]) rfl ?_
  have m : Mod (fun k => k = w.heap.size) ((w.alloc (.cells #[.int .u32 0, .bool false, .slice none 0 0, .slice none 0 0] 40)).alloc (.cells #[.int .u32 (id : Int), .bool false, .slice none 0 0, .slice none 0 0] 40)) _ := vxEnd_mod _ _ (.int .u32 (id : Int)) (.bool false) (.slice none 0 0) (.slice none 0 0)
  exact ⟨rfl, by first | exact ((Mod.refl _ _).alloc _).alloc _ | exact (((Mod.refl (fun _ => False) w).alloc _).alloc _).trans' m (fun i hi e => by omega)⟩
set_option maxRecDepth 100000 in
set_option maxHeartbeats 2000000 in
theorem gputN_any (x : Vtx) (vp vh : Value) (w : World) (hx : VRd w vp vh x) :
    Calls Tryz.prog 30 #[.pointer none, vtxV x vp vh] w fun e w' => e = .returned (.int .i64 (nilC x.right)) ∧ Mod (fun _ => False) w w' := by
  cases hr : x.right with
  | false => exact put_bad x vp vh none w hx hr
  | true =>
    have HR := Lib.hid (right_call x vp vh w hx true hr)
    simp only [vtxV]
    clear hx hr
    generalize (x.id : Int) = id at HR ⊢
    generalize x.there = there at HR ⊢
    go_enter Tryz.func30, Tryz.ntmps30
    go_wp2_with (go_at_call 49; refine (HR.out _ ((Mod.refl _ _).alloc _)).mono ?_; rintro e w3 ⟨rfl, hm⟩; have M3 : Hid (Mod (fun _ => False) w w3) := ((Mod.refl _ _).alloc _).trans hm; clear hm)
    go_ret
    exact ⟨rfl, M3.out⟩
set_option maxRecDepth 100000 in
set_option maxHeartbeats 8000000 in
theorem gnil_main (r : Rqt) (vo : Value) (x : Vtx) (vp vh : Value) (w : World) (ho : ORd w vo r.ops) (hn : r.ops.length * 48 ≤ 140737488355328) (hx : VRd w vp vh x) (hz : Slim x) (hg : ErrT w) :
    Calls Tryz.prog 9 #[rqV r vo, vtxV x vp vh] w fun e w' => e = .returned (.bool true) ∧ Mod (fun _ => False) w w' := by
  obtain ⟨kind, ops, v, k, d⟩ := r
  obtain ⟨id, there, ps, hs⟩ := x
  obtain ⟨ao, co, rfl, -⟩ := ho.row.shape
  obtain ⟨ap, cp, rfl, -⟩ := hx.props.shape
  obtain ⟨ah, ch, rfl, -⟩ := hx.halves.shape
  obtain ⟨no, hno⟩ : ∃ n, n = ops.length := ⟨_, rfl⟩
  obtain ⟨np, hnp⟩ : ∃ n, n = ps.length := ⟨_, rfl⟩
  obtain ⟨nh, hnh⟩ : ∃ n, n = hs.length := ⟨_, rfl⟩
  simp only [← hno, ← hnp, ← hnh] at ho hx ⊢
  obtain ⟨W2, hW2⟩ : ∃ W2, W2 = ((w.alloc (.cells #[.int .u8 (kind : Int), .slice ao no co, .int .u32 (v : Int), .int .i64 k, .int .i64 d] 29)).alloc (.cells #[.int .u32 (id : Int), .bool there, .slice ap np cp, .slice ah nh ch] 40)) := ⟨_, rfl⟩
  have m2 : Mod (fun _ => False) w W2 := by rw [hW2]; exact ((Mod.refl _ _).alloc _).alloc _
  have HM2 := Lib.hid m2
  have hb1 : W2.heap[w.heap.size]? = some (.cells #[.int .u8 (kind : Int), .slice ao no co, .int .u32 (v : Int), .int .i64 k, .int .i64 d] 29 (0, 0)) := by rw [hW2]; exact heap_alloc_old (heap_alloc_new' w _)
  have hb2 : W2.heap[w.heap.size + 1]? = some (.cells #[.int .u32 (id : Int), .bool there, .slice ap np cp, .slice ah nh ch] 40 (0, 0)) := by
    rw [hW2]
    have h := heap_alloc_new' (w.alloc (.cells #[.int .u8 (kind : Int), .slice ao no co, .int .u32 (v : Int), .int .i64 k, .int .i64 d] 29)) (.cells #[.int .u32 (id : Int), .bool there, .slice ap np cp, .slice ah nh ch] 40)
    simpa using h
  have HKEEP : Hid (∀ w', Mod (fun _ => False) W2 w' → (fun w' => w'.cell? ⟨w.heap.size, 0, none⟩ = some (.int .u8 (kind : Int)) ∧ w'.cell? ⟨w.heap.size, 1, none⟩ = some (.slice ao no co) ∧ w'.cell? ⟨w.heap.size, 2, none⟩ = some (.int .u32 (v : Int)) ∧ w'.cell? ⟨w.heap.size, 3, none⟩ = some (.int .i64 k) ∧ w'.cell? ⟨w.heap.size, 4, none⟩ = some (.int .i64 d) ∧ w'.cell? ⟨w.heap.size + 1, 0, none⟩ = some (.int .u32 (id : Int)) ∧ w'.cell? ⟨w.heap.size + 1, 1, none⟩ = some (.bool there) ∧ w'.cell? ⟨w.heap.size + 1, 2, none⟩ = some (.slice ap np cp) ∧ w'.cell? ⟨w.heap.size + 1, 3, none⟩ = some (.slice ah nh ch)) w') := Lib.hid (fun w' m => ⟨m.cell (cell_of_row hb1 0), m.cell (cell_of_row hb1 1), m.cell (cell_of_row hb1 2), m.cell (cell_of_row hb1 3), m.cell (cell_of_row hb1 4), m.cell (cell_of_row hb2 0), m.cell (cell_of_row hb2 1), m.cell (cell_of_row hb2 2), m.cell (cell_of_row hb2 3)⟩)
  have HAW : Hid (∀ w', Mod (fun _ => False) W2 w' → Calls Tryz.prog 10 #[] w' fun e w'' => e = .returned (.bool true) ∧ Mod (fun _ => False) w' w'') := Lib.hid (fun w' m => awake_any w' (hg.keep (m2.trans m) (fun f => f)))
  have HLD : Hid (∀ w', Mod (fun _ => False) W2 w' → Calls Tryz.prog 12 #[.pointer none, .agg #[.int .u8 (kind : Int), .slice ao no co, .int .u32 (v : Int), .int .i64 k, .int .i64 d]] w' fun e w'' => e = .returned (.agg #[.int .i64 (nilE ⟨kind, ops, v, k, d⟩ : Nat), .int .i64 0, .slice none 0 0, .slice none 0 0]) ∧ Mod (fun _ => False) w' w'') := Lib.hid (fun w' m => ldoN_any ⟨kind, ops, v, k, d⟩ (.slice ao no co) w' (ho.keep (m2.trans m)) hn)
  have HDD : Hid (∀ w', Mod (fun _ => False) W2 w' → Calls Tryz.prog 17 #[.pointer none, .agg #[.int .u8 (kind : Int), .slice ao no co, .int .u32 (v : Int), .int .i64 k, .int .i64 d]] w' fun e w'' => e = .returned (.agg #[.int .i64 (nilE ⟨kind, ops, v, k, d⟩ : Nat), .int .i64 0, .slice none 0 0, .slice none 0 0]) ∧ Mod (fun _ => False) w' w'') := Lib.hid (fun w' m => ddoN_any ⟨kind, ops, v, k, d⟩ (.slice ao no co) w' (ho.keep (m2.trans m)))
  obtain ⟨ze, hze⟩ : ∃ ze, ze = nilE ⟨kind, ops, v, k, d⟩ := ⟨_, rfl⟩
  rw [← hze] at HLD HDD
  have HSA : Hid (∀ w', Mod (fun _ => False) W2 w' → Calls Tryz.prog 18 #[.agg #[.int .i64 (ze : Int), .int .i64 0, .slice none 0 0, .slice none 0 0], .agg #[.int .i64 (ze : Int), .int .i64 0, .slice none 0 0, .slice none 0 0]] w' fun e w'' => e = .returned (.bool true) ∧ Mod (fun _ => False) w' w'') := Lib.hid (fun w' m => by
    have h := anssame_any (ze : Int) 0 (ze : Int) 0 [] [] [] [] (.slice none 0 0) (.slice none 0 0) (.slice none 0 0) (.slice none 0 0) w' (RdS.none _ _) (RdS.none _ _) (RdS.none _ _) (RdS.none _ _)
    simpa using h)
  have HVN : Hid (∀ w', Mod (fun _ => False) W2 w' → Calls Tryz.prog 14 #[.pointer none, .int .u32 (id : Int)] w' fun e w'' => e = .returned (.agg #[.int .u32 (id : Int), .bool false, .slice none 0 0, .slice none 0 0]) ∧ Mod (fun _ => False) w' w'') := Lib.hid (fun w' m => vertexN_any id w')
  have hid : id < 4294967296 := hx.fits.id
  have HSV : Hid (∀ w', Mod (fun _ => False) W2 w' → Calls Tryz.prog 22 #[.agg #[.int .u32 (id : Int), .bool false, .slice none 0 0, .slice none 0 0], .agg #[.int .u32 (id : Int), .bool false, .slice none 0 0, .slice none 0 0]] w' fun e w'' => e = .returned (.bool true) ∧ Mod (fun _ => False) w' w'') := Lib.hid (fun w' m => by
    have hv : VRd w' (.slice none 0 0) (.slice none 0 0) ⟨id, false, [], []⟩ := ⟨⟨hid, by simp, by simp⟩, RdS.none _ _, RdS.none _ _⟩
    exact vsame_yes ⟨id, false, [], []⟩ _ _ _ _ w' hv hv)
  have HLN : Hid (∀ w', Mod (fun _ => False) W2 w' → Calls Tryz.prog 25 #[.pointer none] w' fun e w'' => e = .returned (.slice none 0 0) ∧ Mod (fun _ => False) w' w'') := Lib.hid (fun w' m => (nil_list w').mono (by rintro e w'' ⟨rfl, rfl⟩; exact ⟨rfl, Mod.refl _ _⟩))
  have HTW : Hid (∀ w', Mod (fun _ => False) W2 w' → Calls Tryz.prog 31 #[.agg #[.int .u32 (id : Int), .bool there, .slice ap np cp, .slice ah nh ch]] w' (Twins w' ⟨id, there, ps, hs⟩)) := Lib.hid (fun w' m => twinV_any ⟨id, there, ps, hs⟩ _ _ w' (hx.keep (m2.trans m)) hz.1 hz.2)
  have HPU : Hid (∀ (w1 w0 : World) (vp' vh' : Value) (h : VNew w0 w1 vp' vh' ⟨id, there, ps, hs⟩), Calls Tryz.prog 30 #[.pointer none, .agg #[.int .u32 (id : Int), .bool there, vp', vh']] w1 fun e w' => e = .returned (.int .i64 (nilC (Vtx.right ⟨id, there, ps, hs⟩))) ∧ Mod (fun _ => False) w1 w') := Lib.hid (fun w1 w0 vp' vh' h => gputN_any ⟨id, there, ps, hs⟩ vp' vh' w1 h.rd)
  have HDP : Hid (∀ w', Mod (fun _ => False) W2 w' → Calls Tryz.prog 32 #[.pointer none, .agg #[.int .u32 (id : Int), .bool there, .slice ap np cp, .slice ah nh ch]] w' fun e w'' => e = .returned (.int .i64 (nilC (Vtx.right ⟨id, there, ps, hs⟩))) ∧ Mod (fun _ => False) w' w'') := Lib.hid (fun w' m => docput_nil ⟨id, there, ps, hs⟩ _ _ w' (hx.keep (m2.trans m)) (by have := hz.1; have := hz.2; simp only at *; omega))
  generalize nilC (Vtx.right ⟨id, there, ps, hs⟩) = q at HPU HDP
  simp only [rqV, vtxV]
  clear ho hn hx hz hg hno hnp hnh hze hid hb1 hb2 m2
  go_enter Tryz.func9, Tryz.ntmps9
  go_wp2_with fail
  rw [← hW2]
  clear hW2
  have hzz := HKEEP.out _ ((Mod.refl (fun _ => False) W2).drew)
  obtain ⟨k0, k1, k2, k3, k4, k5, k6, k7, k8⟩ := hzz
  go_region_held3 (fun w' => w'.cell? ⟨w.heap.size, 0, none⟩ = some (.int .u8 (kind : Int)) ∧ w'.cell? ⟨w.heap.size, 1, none⟩ = some (.slice ao no co) ∧ w'.cell? ⟨w.heap.size, 2, none⟩ = some (.int .u32 (v : Int)) ∧ w'.cell? ⟨w.heap.size, 3, none⟩ = some (.int .i64 k) ∧ w'.cell? ⟨w.heap.size, 4, none⟩ = some (.int .i64 d) ∧ w'.cell? ⟨w.heap.size + 1, 0, none⟩ = some (.int .u32 (id : Int)) ∧ w'.cell? ⟨w.heap.size + 1, 1, none⟩ = some (.bool there) ∧ w'.cell? ⟨w.heap.size + 1, 2, none⟩ = some (.slice ap np cp) ∧ w'.cell? ⟨w.heap.size + 1, 3, none⟩ = some (.slice ah nh ch))
    ((first
      | go_keep
      | exact HKEEP.out _ M10.out
      | exact HKEEP.out _ M9.out
      | exact HKEEP.out _ M8.out
      | exact HKEEP.out _ M7.out
      | exact HKEEP.out _ M6.out
      | exact HKEEP.out _ M5.out
      | exact HKEEP.out _ M4.out
      | exact HKEEP.out _ M3.out
      | exact HKEEP.out _ M2.out
      | exact HKEEP.out _ M1.out
      | exact HKEEP.out _ ((Mod.refl _ _).drew)))
    ((first
    | (go_at_call 10; go_loud (refine (HAW.out _ ((Mod.refl (fun _ => False) W2).drew)).mono ?_; (rintro e w1 ⟨rfl, hm1⟩); have M1 : Hid (Mod (fun _ => False) W2 w1) := Lib.hid (((Mod.refl (fun _ => False) W2).drew).trans hm1); clear hm1))
    | (go_at_call 12; go_loud (refine (HLD.out _ M1.out).mono ?_; (rintro e w2 ⟨rfl, hm2⟩); have M2 : Hid (Mod (fun _ => False) W2 w2) := Lib.hid (M1.out.trans hm2); clear hm2))
    | (go_at_call 17; go_loud (refine (HDD.out _ M2.out).mono ?_; (rintro e w3 ⟨rfl, hm3⟩); have M3 : Hid (Mod (fun _ => False) W2 w3) := Lib.hid (M2.out.trans hm3); clear hm3))
    | (go_at_call 18; go_loud (refine (HSA.out _ M3.out).mono ?_; (rintro e w4 ⟨rfl, hm4⟩); have M4 : Hid (Mod (fun _ => False) W2 w4) := Lib.hid (M3.out.trans hm4); clear hm4))
    | (go_at_call 14; go_loud (refine (HVN.out _ M4.out).mono ?_; (rintro e w5 ⟨rfl, hm5⟩); have M5 : Hid (Mod (fun _ => False) W2 w5) := Lib.hid (M4.out.trans hm5); clear hm5))
    | (go_at_call 22; go_loud (refine (HSV.out _ M5.out).mono ?_; (rintro e w6 ⟨rfl, hm6⟩); have M6 : Hid (Mod (fun _ => False) W2 w6) := Lib.hid (M5.out.trans hm6); clear hm6))
    | (go_at_call 25; go_loud (refine (HLN.out _ M6.out).mono ?_; (rintro e w7 ⟨rfl, hm7⟩); have M7 : Hid (Mod (fun _ => False) W2 w7) := Lib.hid (M6.out.trans hm7); clear hm7))
    | (go_at_call 31; go_loud (refine (HTW.out _ M7.out).mono ?_; (rintro e w8 ⟨vp8, vh8, rfl, hm8, hn8⟩); have HN8 := Lib.hid hn8; (obtain ⟨a5, c5, n5, rfl⟩ : ∃ a c n, vp8 = .slice a n c := (by obtain ⟨a, c, e, _⟩ := hn8.props.shape; exact ⟨_, _, _, e⟩)); (obtain ⟨a6, c6, n6, rfl⟩ : ∃ a c n, vh8 = .slice a n c := (by obtain ⟨a, c, e, _⟩ := hn8.halves.shape; exact ⟨_, _, _, e⟩)); clear hn8; have M8 : Hid (Mod (fun _ => False) W2 w8) := Lib.hid (M7.out.trans hm8); clear hm8))
    | (go_at_call 30; go_loud (refine (HPU.out w8 _ _ _ HN8.out).mono ?_; (rintro e w9 ⟨rfl, hm9⟩); have M9 : Hid (Mod (fun _ => False) W2 w9) := Lib.hid (M8.out.trans hm9); clear hm9))
    | (go_at_call 32; go_loud (refine (HDP.out _ M9.out).mono ?_; (rintro e w10 ⟨rfl, hm10⟩); have M10 : Hid (Mod (fun _ => False) W2 w10) := Lib.hid (M9.out.trans hm10); clear hm10))))
  all_goals
    go_wp2
    go_ret
    exact ⟨by first | rfl | simp, HM2.out.trans M10.out⟩
/-- What comes in. -/
def InReq (W : World) (v : Value) : Prop := ∃ r vo, v = rqV r vo ∧ ORd W vo r.ops ∧ (⟨r, vo⟩ : Qs).Small
section
open Go.ChangeShapes Go.WideShapes Go.ChangeAt
variable {H : Type} {enc : TypeId × Value → H} {W : World} {base : Nat} {v : Value} {d : DataW H} {p : List MemPlace}
set_option maxRecDepth 100000 in
theorem in_request (hv : Value.okWide Tryz.prog W .any base 29 v) (h : DataW.Trod enc Tryz.prog W 0 (fun _ => true) true 29 v d p) (hs : okW 29 d) : InReq W v := by
  obtain ⟨cs, rfl, hl⟩ := okWide_struct Tryz.underlying29 hv
  obtain ⟨fuel, hf⟩ := h
  have hc : Tryz.prog.cellsOf 29 = 5 := by kernel_rfl
  obtain ⟨q, e, g, z⟩ := in_req fuel cs.toList (d, p) (by have := hl; simp only [hc] at this; simpa using this) (by simpa [Value.cells] using hf) hs
  refine ⟨q.r, q.vo, ?_, g, z⟩
  have : cs = q.cells.toArray := by rw [← e]
  rw [this]
  rfl
end
theorem gnil_all (v0 v1 : Value) (w : World) (hg : ErrT w) (h0 : InReq w v0) (h1 : InVtx w v1) : Calls Tryz.prog 9 #[v0, v1] w fun e w' => e = .returned (.bool true) ∧ Below w.heap.size w w' := by
  obtain ⟨r, vo, rfl, ho, hz⟩ := h0
  obtain ⟨x, vp, vh, rfl, hv, hz2⟩ := h1
  exact Calls.mono (R := fun e w' => e = .returned (.bool true) ∧ Mod (fun _ => False) w w') (gnil_main r vo x vp vh w ho hz.size hv hz2 hg) (fun _ _ ⟨h, m⟩ => ⟨h, m.toBelow (Nat.le_refl _) (fun _ _ f => f)⟩)
end Go.Proofs.YtbgjbikpenefoaaGreatDoor

/- YLaid: what is needed of it (by shake.py). -/

/- YLaid, as far as the seat goes. -/
/- What a row that lists errors.errorType gives a walk; a world that meets it. After the kit's worked Toyas row. -/
namespace Go.Proofs.YtbgjbikpenefoaaGreatDoor
open Go.RowKit
theorem laid_et : Tryz.prog.globalNamed "errors.errorType" = some 0 := by kernel_rfl
theorem laid_rt : (Tryz.prog.cutTypes.find? (·.1 == "internal/reflectlite.rtype")).map (·.2) = some 186 := by kernel_rfl
theorem laid_row : ((List.range Tryz.prog.types.size).filter fun t => Tryz.prog.rowNamed t [101, 114, 114, 111, 114]) = [112] := by kernel_rfl
theorem errT_of_laid {W : World} (h : laidMetH Tryz.prog [("errors.errorType", Rows.laid_errors_errorType)] W) : ErrT W := by
  have h' : laidMet Tryz.prog [] W ∧ handlesMet Tryz.prog [("errors.errorType", Rows.laid_errors_errorType)] W := h
  obtain ⟨name, u, ty, e1, e2, e3, e4, e5⟩ := h'.2 _ (List.mem_singleton.2 rfl)
  have en : name = [101, 114, 114, 111, 114] := (Option.some.inj e1).symm
  subst en
  obtain rfl := Option.some.inj (laid_rt.symm.trans e2)
  have hm : ty ∈ (List.range Tryz.prog.types.size).filter fun t => Tryz.prog.rowNamed t [101, 114, 114, 111, 114] := List.mem_filter.2 ⟨List.mem_range.2 e3, e4⟩
  rw [laid_row] at hm
  obtain rfl := List.mem_singleton.1 hm
  have hh : typeHandle Tryz.prog 112 = .pointer (some ⟨1, 112, none⟩) := by kernel_rfl
  rw [hh] at e5
  have h0 := World.var?_cell laid_et e5 0
  unfold ErrT
  simpa using h0
/-- A world that meets the condition. -/
noncomputable def laidWorld (os : Os) : World :=
  let w0 := World.holding Tryz.prog os ⟨#[], #[], []⟩
  { w0 with heap := w0.heap.modify 0 fun
      | .cells _ t frozen => .cells #[.iface 186 (.agg #[.pointer (some ⟨1, 112, none⟩)])] t frozen
      | o => o }
end Go.Proofs.YtbgjbikpenefoaaGreatDoor
