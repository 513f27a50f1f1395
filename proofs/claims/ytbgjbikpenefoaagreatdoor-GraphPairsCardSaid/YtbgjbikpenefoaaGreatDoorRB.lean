/- RB: what is needed of it (by shake.py). -/
import Derived.Test.YtbgjbikpenefoaaGreatDoorM10

/- RB, as far as the seat goes. -/
/- R6, R7, R8, R9 in one. -/
/- gussetref03.Copy. -/
namespace Go.Proofs.YtbgjbikpenefoaaGreatDoor
set_option linter.unusedVariables false
set_option linter.unusedSimpArgs false
open Go.RowKit
theorem Seg.off_box {w : World} {t t' : TypeId} {size n g : Nat} {v : Value} {xs : List Value} {cs : Array Value} (h : Seg w t size v n xs) (hg : w.heap[g]? = some (.cells cs t' (0, 0))) (hne : t ≠ t') : ∀ b, v.ownBlock = some b → ¬ b = g := by
  intro b hb e
  subst e
  rcases h.2.2 with ⟨rfl, _⟩ | ⟨g, off, cap, cur, rfl, hc, _⟩
  · simp [Value.ownBlock] at hb
  · simp [Value.ownBlock] at hb
    subst hb
    rw [hc] at hg
    injection hg with hg
    injection hg with _ h2
    exact hne h2
end Go.Proofs.YtbgjbikpenefoaaGreatDoor
/- gussetref03.Op, Check. -/
namespace Go.Proofs.YtbgjbikpenefoaaGreatDoor
set_option linter.unusedVariables false
set_option linter.unusedSimpArgs false
open Go.RowKit
def Opr.cells (o : Opr) : List Value := [.int .u8 (o.kind : Int), .int .u32 (o.a : Int), .int .u32 (o.b : Int), .int .u8 (o.key : Int), .int .u8 (o.val.k : Int), .int .i64 o.val.n, .string o.val.s]
def Opr.v (o : Opr) : Value := .agg o.cells.toArray
structure Opr.Fits (o : Opr) : Prop where
  kind : o.kind < 256
  a : o.a < 4294967296
  b : o.b < 4294967296
  key : o.key < 256
  val : o.val.Fits
theorem noVal_iff (vk : Nat) (vn : Int) (vs : ByteArray) : ((⟨vk, vn, vs⟩ : Val) = noVal) ↔ (vk = 0 ∧ vn = 0 ∧ vs.toList = []) := by
  unfold noVal
  rw [Val.mk.injEq]
  have : vs = ⟨#[]⟩ ↔ vs.toList = [] := by
    rw [ByteArray.toList_eq]
    obtain ⟨⟨l⟩⟩ := vs
    constructor
    · intro h; injection h with h; injection h with h
    · intro h; simp at h; rw [h]
  rw [this]
set_option maxRecDepth 100000 in
set_option maxHeartbeats 4000000 in
theorem op_1 (kind a b key vk : Nat) (vn : Int) (vs : ByteArray) (w : World) (hv : Val.Fits ⟨vk, vn, vs⟩) (hkey : key < 256) (hb : b < 4294967296) (hkd : kind = 1 ∨ kind = 2 ∨ kind = 8) :
    Calls Tryz.prog 46 #[.agg #[.int .u8 (kind : Int), .int .u32 (a : Int), .int .u32 (b : Int), .int .u8 (key : Int), .int .u8 (vk : Int), .int .i64 vn, .string vs]] w fun e w' => e = .returned (.bool (opOK ⟨kind, a, b, key, ⟨vk, vn, vs⟩⟩)) ∧ Mod (fun _ => False) w w' := by
  rcases hkd with rfl | rfl | rfl
  all_goals
    go_enter Tryz.func46, Tryz.ntmps46
    go_wp2_with (first
      | (go_at_call 47; refine (num_any _ _).mono ?_; (rintro e w1 ⟨rfl, rfl⟩)))
    all_goals
      go_ret
      refine ⟨ret_bool ?_, (Mod.refl _ _).alloc _⟩
      simp_all [opOK, Opr.two, Opr.hasKey, Opr.hasVal, noVal_iff]
set_option maxRecDepth 100000 in
set_option maxHeartbeats 4000000 in
theorem op_2 (kind a b key vk : Nat) (vn : Int) (vs : ByteArray) (w : World) (hv : Val.Fits ⟨vk, vn, vs⟩) (hkey : key < 256) (hb : b < 4294967296) (hkd : kind = 4 ∨ kind = 6 ∨ kind = 7) :
    Calls Tryz.prog 46 #[.agg #[.int .u8 (kind : Int), .int .u32 (a : Int), .int .u32 (b : Int), .int .u8 (key : Int), .int .u8 (vk : Int), .int .i64 vn, .string vs]] w fun e w' => e = .returned (.bool (opOK ⟨kind, a, b, key, ⟨vk, vn, vs⟩⟩)) ∧ Mod (fun _ => False) w w' := by
  by_cases hab : b = a
  · subst hab
    rcases hkd with rfl | rfl | rfl
    all_goals
      go_enter Tryz.func46, Tryz.ntmps46
      go_wp2_with (first
        | (go_at_call 47; refine (num_any _ _).mono ?_; (rintro e w1 ⟨rfl, rfl⟩)))
      all_goals
        go_ret
        refine ⟨ret_bool ?_, (Mod.refl _ _).alloc _⟩
        simp_all [opOK, Opr.two, Opr.hasKey, Opr.hasVal, noVal_iff]
        try omega
  · have hab' : ((b : Int) == (a : Int)) = false := by simp; omega
    rcases hkd with rfl | rfl | rfl
    all_goals
      go_enter Tryz.func46, Tryz.ntmps46
      go_wp2_with (first
        | (go_at_call 47; refine (num_any _ _).mono ?_; (rintro e w1 ⟨rfl, rfl⟩)))
      all_goals
        go_ret
        refine ⟨ret_bool ?_, (Mod.refl _ _).alloc _⟩
        simp_all [opOK, Opr.two, Opr.hasKey, Opr.hasVal, noVal_iff]
        try omega
theorem form_call (vk : Nat) (vn : Int) (vs : ByteArray) (hv : Val.Fits ⟨vk, vn, vs⟩) (w : World) : Calls Tryz.prog 67 #[.agg #[.int .u8 (vk : Int), .int .i64 vn, .string vs]] w fun e w' => e = .returned (.bool (Val.ok ⟨vk, vn, vs⟩)) ∧ Mod (fun _ => False) w w' := form_any ⟨vk, vn, vs⟩ hv w
set_option maxRecDepth 100000 in
set_option maxHeartbeats 4000000 in
theorem op_3 (kind a b key vk : Nat) (vn : Int) (vs : ByteArray) (w : World) (hv : Val.Fits ⟨vk, vn, vs⟩) (hkey : key < 256) (hb : b < 4294967296) (hkd : kind = 3 ∨ kind = 5 ∨ kind = 9) :
    Calls Tryz.prog 46 #[.agg #[.int .u8 (kind : Int), .int .u32 (a : Int), .int .u32 (b : Int), .int .u8 (key : Int), .int .u8 (vk : Int), .int .i64 vn, .string vs]] w fun e w' => e = .returned (.bool (opOK ⟨kind, a, b, key, ⟨vk, vn, vs⟩⟩)) ∧ Mod (fun _ => False) w w' := by
  have HFM := Lib.hid (form_call vk vn vs hv)
  obtain ⟨vok, hvok⟩ : ∃ vok, vok = Val.ok ⟨vk, vn, vs⟩ := ⟨_, rfl⟩
  rw [← hvok] at HFM
  have hm : ∀ (w w' : World) (o : Obj), Mod (fun _ => False) (w.alloc o) w' → Mod (fun _ => False) w w' := fun w w' o m => ((Mod.refl _ _).alloc _).trans m
  have HMM := Lib.hid hm
  clear hm
  by_cases hab : b = a
  · subst hab
    rcases hkd with rfl | rfl | rfl
    all_goals
      go_enter Tryz.func46, Tryz.ntmps46
      go_wp2_with (first
        | (go_at_call 47; refine (num_any _ _).mono ?_; (rintro e w1 ⟨rfl, rfl⟩))
        | (go_at_call 67; refine (HFM.out _).mono ?_; (rintro e w1 ⟨rfl, hm1⟩); have HM1 := Lib.hid (HMM.out _ _ _ hm1); clear hm1))
      all_goals
        go_ret
        refine ⟨ret_bool ?_, by first | exact HM1.out | exact (Mod.refl _ _).alloc _⟩
        simp_all [opOK, Opr.two, Opr.hasKey, Opr.hasVal, noVal_iff]
        try omega
  · have hab' : ((b : Int) == (a : Int)) = false := by simp; omega
    rcases hkd with rfl | rfl | rfl
    all_goals
      go_enter Tryz.func46, Tryz.ntmps46
      go_wp2_with (first
        | (go_at_call 47; refine (num_any _ _).mono ?_; (rintro e w1 ⟨rfl, rfl⟩))
        | (go_at_call 67; refine (HFM.out _).mono ?_; (rintro e w1 ⟨rfl, hm1⟩); have HM1 := Lib.hid (HMM.out _ _ _ hm1); clear hm1))
      all_goals
        go_ret
        refine ⟨ret_bool ?_, by first | exact HM1.out | exact (Mod.refl _ _).alloc _⟩
        simp_all [opOK, Opr.two, Opr.hasKey, Opr.hasVal, noVal_iff]
        try omega
set_option maxRecDepth 100000 in
set_option maxHeartbeats 4000000 in
theorem op_0 (kind a b key vk : Nat) (vn : Int) (vs : ByteArray) (w : World) (hk : kind < 1 ∨ 9 < kind) :
    Calls Tryz.prog 46 #[.agg #[.int .u8 (kind : Int), .int .u32 (a : Int), .int .u32 (b : Int), .int .u8 (key : Int), .int .u8 (vk : Int), .int .i64 vn, .string vs]] w fun e w' => e = .returned (.bool (opOK ⟨kind, a, b, key, ⟨vk, vn, vs⟩⟩)) ∧ Mod (fun _ => False) w w' := by
  have HF : Hid (opOK ⟨kind, a, b, key, ⟨vk, vn, vs⟩⟩ = false) := Lib.hid (by
    unfold opOK
    rcases hk with h | h
    · have : ¬ 1 ≤ kind := by omega
      simp [this]
    · have : ¬ kind ≤ 9 := by omega
      simp [this])
  have k3 : ((kind : Int) == 3) = false := by simp; omega
  have k4 : ((kind : Int) == 4) = false := by simp; omega
  have k5 : ((kind : Int) == 5) = false := by simp; omega
  have k6 : ((kind : Int) == 6) = false := by simp; omega
  have k7 : ((kind : Int) == 7) = false := by simp; omega
  have k9 : ((kind : Int) == 9) = false := by simp; omega
  rcases hk with h | h
  · obtain rfl : kind = 0 := by omega
    clear k3 k4 k5 k6 k7 k9 h
    go_enter Tryz.func46, Tryz.ntmps46
    go_wp2
    go_ret
    exact ⟨ret_bool HF.out.symm, (Mod.refl _ _).alloc _⟩
  · have h1 : ¬ (kind : Int) < 1 := by omega
    have h9 : (9 : Int) < (kind : Int) := by omega
    clear h
    go_enter Tryz.func46, Tryz.ntmps46
    go_wp2
    go_ret
    exact ⟨ret_bool HF.out.symm, (Mod.refl _ _).alloc _⟩
theorem opd_any (o : Opr) (ho : o.Fits) (w : World) : Calls Tryz.prog 46 #[o.v] w fun e w' => e = .returned (.bool (opOK o)) ∧ Mod (fun _ => False) w w' := by
  obtain ⟨kind, a, b, key, ⟨vk, vn, vs⟩⟩ := o
  by_cases h0 : kind < 1 ∨ 9 < kind
  · exact op_0 kind a b key vk vn vs w h0
  · by_cases h1 : kind = 1 ∨ kind = 2 ∨ kind = 8
    · exact op_1 kind a b key vk vn vs w ho.val ho.key ho.b h1
    · by_cases h2 : kind = 4 ∨ kind = 6 ∨ kind = 7
      · exact op_2 kind a b key vk vn vs w ho.val ho.key ho.b h2
      · exact op_3 kind a b key vk vn vs w ho.val ho.key ho.b (by omega)
end Go.Proofs.YtbgjbikpenefoaaGreatDoor
/- gussetref03.Check. -/
namespace Go.Proofs.YtbgjbikpenefoaaGreatDoor
set_option linter.unusedVariables false
set_option linter.unusedSimpArgs false
open Go.RowKit
def ocells (l : List Opr) : List Value := l.flatMap Opr.cells
theorem opr_cells (o : Opr) : o.cells.length = 7 := rfl
/-- Operations, only read. -/
structure ORd (w : World) (v : Value) (l : List Opr) : Prop where
  row : RdS w 7 v l.length (ocells l)
  fits : ∀ o ∈ l, o.Fits
theorem ORd.keep {w w' : World} {v : Value} {l : List Opr} (h : ORd w v l) (m : Mod (fun _ => False) w w') : ORd w' v l := ⟨h.row.keep m, h.fits⟩
theorem ORd.ent {w : World} {v : Value} {l : List Opr} (h : ORd w v l) {i : Nat} {x : Opr} (hi : l[i]? = some x) {a : Option Addr} {n c : Nat} (e : v = .slice a n c) :
    ∃ b off, a = some ⟨b, off, none⟩ ∧ b < w.heap.size ∧ w.cell? ⟨b, off + i * 7, none⟩ = some (.int .u8 (x.kind : Int)) ∧ w.cell? ⟨b, off + i * 7 + 1, none⟩ = some (.int .u32 (x.a : Int)) ∧ w.cell? ⟨b, off + i * 7 + 2, none⟩ = some (.int .u32 (x.b : Int)) ∧ w.cell? ⟨b, off + i * 7 + 3, none⟩ = some (.int .u8 (x.key : Int)) ∧ w.cell? ⟨b, off + i * 7 + 4, none⟩ = some (.int .u8 (x.val.k : Int)) ∧ w.cell? ⟨b, off + i * 7 + 5, none⟩ = some (.int .i64 x.val.n) ∧ w.cell? ⟨b, off + i * 7 + 6, none⟩ = some (.string x.val.s) := by
  have g := fun j hj => flat_get Opr.cells opr_cells l i j x hi (show j < 7 from hj)
  obtain ⟨a', c', e', -⟩ := h.row.shape
  rw [e] at e'
  injection e' with e1 e2 e3
  rw [e2] at e
  have k : ∀ j u, j < 7 → x.cells[j]? = some u → ∃ b off, a = some ⟨b, off, none⟩ ∧ b < w.heap.size ∧ w.cell? ⟨b, off + (i * 7 + j), none⟩ = some u := fun j u hj hu => h.row.cell a c e (i * 7 + j) u (by unfold ocells; rw [g j hj]; exact hu)
  obtain ⟨b, off, ea, hb, h0⟩ := k 0 _ (by omega) rfl
  have r : ∀ j u, j < 7 → x.cells[j]? = some u → w.cell? ⟨b, off + (i * 7 + j), none⟩ = some u := fun j u hj hu => by
    obtain ⟨b1, off1, ea1, _, h1⟩ := k j u hj hu
    rw [ea] at ea1
    injection ea1 with e1; injection e1 with e1 e2
    subst e1 e2
    exact h1
  refine ⟨b, off, ea, hb, h0, ?_, ?_, ?_, ?_, ?_, ?_⟩
  · rw [Nat.add_assoc]; exact r 1 _ (by omega) rfl
  · rw [Nat.add_assoc]; exact r 2 _ (by omega) rfl
  · rw [Nat.add_assoc]; exact r 3 _ (by omega) rfl
  · rw [Nat.add_assoc]; exact r 4 _ (by omega) rfl
  · rw [Nat.add_assoc]; exact r 5 _ (by omega) rfl
  · rw [Nat.add_assoc]; exact r 6 _ (by omega) rfl
def rqV (r : Rqt) (vo : Value) : Value := .agg #[.int .u8 (r.kind : Int), vo, .int .u32 (r.v : Int), .int .i64 r.k, .int .i64 r.dest]
structure Rqt.Fits (r : Rqt) : Prop where
  kind : r.kind < 256
  v : r.v < 4294967296
  k : -9223372036854775808 ≤ r.k ∧ r.k < 9223372036854775808
  dest : -9223372036854775808 ≤ r.dest ∧ r.dest < 9223372036854775808
theorem op_call (kind a b key vk : Nat) (vn : Int) (vs : ByteArray) (ho : Opr.Fits ⟨kind, a, b, key, ⟨vk, vn, vs⟩⟩) (w : World) : Calls Tryz.prog 46 #[.agg #[.int .u8 (kind : Int), .int .u32 (a : Int), .int .u32 (b : Int), .int .u8 (key : Int), .int .u8 (vk : Int), .int .i64 vn, .string vs]] w fun e w' => e = .returned (.bool (opOK ⟨kind, a, b, key, ⟨vk, vn, vs⟩⟩)) ∧ Mod (fun _ => False) w w' := opd_any ⟨kind, a, b, key, ⟨vk, vn, vs⟩⟩ ho w
/-- A transaction. -/
def checkT (n : Nat) (ok : Bool) (v : Nat) (k d : Int) : Nat := if n < 1 ∨ 6 < n then 2 else if ok = false then 3 else if v ≠ 0 ∨ k ≠ 0 ∨ d ≠ 0 then 3 else 0
theorem checkR_1 (ops : List Opr) (v : Nat) (k d : Int) : checkR ⟨1, ops, v, k, d⟩ = checkT ops.length (ops.all opOK) v k d := by
  unfold checkR checkT
  simp
set_option maxRecDepth 100000 in
set_option maxHeartbeats 4000000 in
theorem dcheck_1 (ops : List Opr) (v : Nat) (k d : Int) (vo : Value) (w : World) (ho : ORd w vo ops) :
    Calls Tryz.prog 20 #[.agg #[.int .u8 1, vo, .int .u32 (v : Int), .int .i64 k, .int .i64 d]] w fun e w' => e = .returned (.int .i64 (checkR ⟨1, ops, v, k, d⟩ : Nat)) ∧ Mod (fun _ => False) w w' := by
  rw [checkR_1]
  have HV := Lib.hid ho
  obtain ⟨a, c, rfl, hc1, hc2, -⟩ := ho.row.shape
  obtain ⟨n, hn⟩ : ∃ n, n = ops.length := ⟨_, rfl⟩
  have HN := Lib.hid hn
  rw [← hn] at HV hc1 ⊢
  clear hn ho
  have hcode : ∀ z : Nat, checkT n (ops.all opOK) v k d = z → ∀ e, e = Ending.returned (.int .i64 (z : Int)) → e = .returned (.int .i64 (checkT n (ops.all opOK) v k d : Nat)) := fun z h e he => by rw [h]; exact he
  have HC := Lib.hid hcode
  clear hcode
  have hbx := Lib.hid (heap_alloc_new' w (.cells #[.int .u8 1, .slice a n c, .int .u32 (v : Int), .int .i64 k, .int .i64 d] 29))
  by_cases hl : n < 1 ∨ 6 < n
  · have HR : Hid (checkT n (ops.all opOK) v k d = 2) := Lib.hid (by unfold checkT; rw [if_pos hl])
    rcases hl with hl | hl
    · obtain rfl : n = 0 := by omega
      go_enter Tryz.func20, Tryz.ntmps20
      go_wp2
      go_ret
      exact ⟨HC.out _ HR.out _ rfl, (Mod.refl _ _).alloc _⟩
    · have h6 : (6 : Int) < (n : Int) := by omega
      have h1 : ¬ (n : Int) < 1 := by omega
      go_enter Tryz.func20, Tryz.ntmps20
      go_wp2
      go_ret
      exact ⟨HC.out _ HR.out _ rfl, (Mod.refl _ _).alloc _⟩
  · have h6 : ¬ (6 : Int) < (n : Int) := by omega
    have h1 : ¬ (n : Int) < 1 := by omega
    have HNL := Lib.hid hl
    clear hl
    go_enter Tryz.func20, Tryz.ntmps20
    go_wp2
    go_loopw [67] (fun i wr => ∃ j : Nat, i = .int .i64 j ∧ j ≤ n ∧ (ops.take j).all opOK = true ∧ Mod (fun _ => False) (w.alloc (.cells #[.int .u8 1, .slice a n c, .int .u32 (v : Int), .int .i64 k, .int .i64 d] 29)) wr) (fun i _ => n - (intOf i).toNat)
    case atStart => exact ⟨0, rfl, Nat.zero_le _, by simp, Mod.refl _ _⟩
    case round =>
      obtain ⟨j, rfl, hj, hall, hm⟩ := hrel
      have HALL := Lib.hid hall
      have HM0 := Lib.hid hm
      have HM : Hid (Mod (fun _ => False) w wr) := Lib.hid (((Mod.refl _ _).alloc _).trans hm)
      have hb := hm.heap hbx.out (fun f => f)
      have b2 := cell_of_row hb 2
      have b3 := cell_of_row hb 3
      have b4 := cell_of_row hb 4
      simp at b2 b3 b4
      clear hall hm hb
      by_cases hjn : j < n
      · obtain ⟨x, hx⟩ : ∃ x, ops[j]? = some x := ⟨_, List.getElem?_eq_getElem (by rw [← HN.out]; exact hjn)⟩
        obtain ⟨bl, offl, e0, hbl, r0, r1, r2, r3, r4, r5, r6⟩ := HV.out.ent hx rfl
        have r0 := HM.out.cell r0
        have r1 := HM.out.cell r1
        have r2 := HM.out.cell r2
        have r3 := HM.out.cell r3
        have r4 := HM.out.cell r4
        have r5 := HM.out.cell r5
        have r6 := HM.out.cell r6
        have zbl : bl < wr.heap.size := Nat.lt_of_lt_of_le hbl HM.out.size
        have HTK := Lib.hid (take_snoc hx)
        have HFO := Lib.hid (HV.out.fits x (List.mem_of_getElem? hx))
        have HMEM := Lib.hid (List.mem_of_getElem? hx)
        clear hx hbl
        obtain ⟨kind, oa, ob, okey, ⟨vk, vn, vs⟩⟩ := x
        simp only at r0 r1 r2 r3 r4 r5 r6
        subst e0
        obtain ⟨bo, hbo⟩ : ∃ bo, opOK ⟨kind, oa, ob, okey, ⟨vk, vn, vs⟩⟩ = bo := ⟨_, rfl⟩
        have HBO := Lib.hid hbo
        have HOP := Lib.hid (op_call kind oa ob okey vk vn vs HFO.out)
        rw [hbo] at HOP
        clear hbo
        cases bo with
        | true =>
          go_wp2_with (go_at_call 46; refine (HOP.out _).mono ?_; (rintro e w1 ⟨rfl, hm1⟩); have HM1 := Lib.hid (((Mod.refl (fun _ => False) wr).alloc _).trans hm1); clear hm1)
          go_roundw
          case rel => exact ⟨j + 1, by go_num, by omega, by rw [HTK.out, List.all_append, HALL.out]; simp [HBO.out], HM0.out.trans HM1.out⟩
          case measure => simp [intOf]; omega
        | false =>
          have HR : Hid (checkT n (ops.all opOK) v k d = 3) := Lib.hid (by
            have : ops.all opOK = false := by
              rw [List.all_eq_false]
              exact ⟨_, HMEM.out, by rw [HBO.out]; simp⟩
            unfold checkT; rw [if_neg HNL.out, if_pos this])
          go_wp2_with (go_at_call 46; refine (HOP.out _).mono ?_; (rintro e w1 ⟨rfl, hm1⟩); have HM1 := Lib.hid (((Mod.refl (fun _ => False) wr).alloc _).trans hm1); clear hm1)
          go_ret
          exact ⟨HC.out _ HR.out _ rfl, HM.out.trans HM1.out⟩
      · have HALT : Hid (ops.all opOK = true) := Lib.hid (by
          have h := HALL.out
          rwa [List.take_of_length_le (by have := HN.out; omega)] at h)
        have HCT : Hid (checkT n (ops.all opOK) v k d = if v ≠ 0 ∨ k ≠ 0 ∨ d ≠ 0 then 3 else 0) := Lib.hid (by unfold checkT; rw [if_neg HNL.out, HALT.out]; simp)
        by_cases hz : v ≠ 0 ∨ k ≠ 0 ∨ d ≠ 0
        · have HR : Hid (checkT n (ops.all opOK) v k d = 3) := Lib.hid (by rw [HCT.out, if_pos hz])
          by_cases hv : v = 0
          · subst hv
            by_cases hk : k = 0
            · subst hk
              have hd : (d != 0) = true := by simp at hz; simp [hz]
              clear hz
              go_wp2
              go_ret
              exact ⟨HC.out _ HR.out _ rfl, HM.out⟩
            · have hk : (k != 0) = true := by simp [hk]
              clear hz
              go_wp2
              go_ret
              exact ⟨HC.out _ HR.out _ rfl, HM.out⟩
          · have hk : ((v : Int) != 0) = true := by simp [hv]
            clear hz
            go_wp2
            go_ret
            exact ⟨HC.out _ HR.out _ rfl, HM.out⟩
        · have HR : Hid (checkT n (ops.all opOK) v k d = 0) := Lib.hid (by rw [HCT.out, if_neg hz])
          obtain rfl : v = 0 := by simp at hz; exact hz.1
          obtain rfl : k = 0 := by simp at hz; exact hz.1
          obtain rfl : d = 0 := by simpa using hz
          clear hz
          go_wp2
          go_ret
          exact ⟨HC.out _ HR.out _ rfl, HM.out⟩
def checkO (n v : Nat) (x y : Int) (m : Int) : Nat := if x < 0 ∨ m < x then 1 else if 0 < n ∨ numB v = false ∨ y ≠ 0 then 3 else 0
theorem checkR_2 (ops : List Opr) (v : Nat) (k d : Int) : checkR ⟨2, ops, v, k, d⟩ = checkO ops.length v k d 8 := by
  unfold checkR checkO
  simp
theorem checkR_3 (ops : List Opr) (v : Nat) (k d : Int) : checkR ⟨3, ops, v, k, d⟩ = checkO ops.length v d k 3 := by
  unfold checkR checkO
  simp
set_option maxRecDepth 100000 in
set_option maxHeartbeats 4000000 in
theorem dcheck_2 (n v : Nat) (k d : Int) (a : Option Addr) (c : Nat) (w : World) :
    Calls Tryz.prog 20 #[.agg #[.int .u8 2, .slice a n c, .int .u32 (v : Int), .int .i64 k, .int .i64 d]] w fun e w' => e = .returned (.int .i64 (checkO n v k d 8 : Nat)) ∧ Mod (fun _ => False) w w' := by
  have hcode : ∀ z : Nat, checkO n v k d 8 = z → ∀ e, e = Ending.returned (.int .i64 (z : Int)) → e = .returned (.int .i64 (checkO n v k d 8 : Nat)) := fun z h e he => by rw [h]; exact he
  have HC := Lib.hid hcode
  clear hcode
  by_cases hx : k < 0 ∨ 8 < k
  · have HR : Hid (checkO n v k d 8 = 1) := Lib.hid (by unfold checkO; rw [if_pos hx])
    rcases hx with hx | hx
    · go_enter Tryz.func20, Tryz.ntmps20
      go_wp2
      go_ret
      exact ⟨HC.out _ HR.out _ rfl, (Mod.refl _ _).alloc _⟩
    · have h0 : ¬ k < 0 := by omega
      go_enter Tryz.func20, Tryz.ntmps20
      go_wp2
      go_ret
      exact ⟨HC.out _ HR.out _ rfl, (Mod.refl _ _).alloc _⟩
  · have h0 : ¬ k < 0 := by omega
    have h8 : ¬ 8 < k := by omega
    have HU : Hid (checkO n v k d 8 = if 0 < n ∨ numB v = false ∨ d ≠ 0 then 3 else 0) := Lib.hid (by unfold checkO; rw [if_neg hx])
    clear hx
    by_cases hn : 0 < n
    · have HR : Hid (checkO n v k d 8 = 3) := Lib.hid (by rw [HU.out, if_pos (.inl hn)])
      have hn' : (0 : Int) < (n : Int) := by omega
      go_enter Tryz.func20, Tryz.ntmps20
      go_wp2
      go_ret
      exact ⟨HC.out _ HR.out _ rfl, (Mod.refl _ _).alloc _⟩
    · obtain rfl : n = 0 := by omega
      obtain ⟨bv, hbv⟩ : ∃ bv, numB v = bv := ⟨_, rfl⟩
      have HNU := Lib.hid (num_any v)
      rw [hbv] at HNU
      by_cases hd : d = 0
      · subst hd
        cases bv with
        | true =>
          have HR : Hid (checkO 0 v k 0 8 = 0) := Lib.hid (by rw [HU.out, hbv]; simp)
          clear hn hbv
          go_enter Tryz.func20, Tryz.ntmps20
          go_wp2_with (go_at_call 47; refine (HNU.out _).mono ?_; (rintro e w1 ⟨rfl, rfl⟩))
          go_ret
          exact ⟨HC.out _ HR.out _ rfl, (Mod.refl _ _).alloc _⟩
        | false =>
          have HR : Hid (checkO 0 v k 0 8 = 3) := Lib.hid (by rw [HU.out, hbv]; simp)
          clear hn hbv
          go_enter Tryz.func20, Tryz.ntmps20
          go_wp2_with (go_at_call 47; refine (HNU.out _).mono ?_; (rintro e w1 ⟨rfl, rfl⟩))
          go_ret
          exact ⟨HC.out _ HR.out _ rfl, (Mod.refl _ _).alloc _⟩
      · have HR : Hid (checkO 0 v k d 8 = 3) := Lib.hid (by rw [HU.out, if_pos (.inr (.inr hd))])
        have hd' : (d != 0) = true := by simp [hd]
        clear hn hbv hd
        cases bv
        all_goals
          go_enter Tryz.func20, Tryz.ntmps20
          go_wp2_with (go_at_call 47; refine (HNU.out _).mono ?_; (rintro e w1 ⟨rfl, rfl⟩))
          go_ret
          exact ⟨HC.out _ HR.out _ rfl, (Mod.refl _ _).alloc _⟩
set_option maxRecDepth 100000 in
set_option maxHeartbeats 4000000 in
theorem dcheck_3 (n v : Nat) (k d : Int) (a : Option Addr) (c : Nat) (w : World) :
    Calls Tryz.prog 20 #[.agg #[.int .u8 3, .slice a n c, .int .u32 (v : Int), .int .i64 k, .int .i64 d]] w fun e w' => e = .returned (.int .i64 (checkO n v d k 3 : Nat)) ∧ Mod (fun _ => False) w w' := by
  have hcode : ∀ z : Nat, checkO n v d k 3 = z → ∀ e, e = Ending.returned (.int .i64 (z : Int)) → e = .returned (.int .i64 (checkO n v d k 3 : Nat)) := fun z h e he => by rw [h]; exact he
  have HC := Lib.hid hcode
  clear hcode
  by_cases hx : d < 0 ∨ 3 < d
  · have HR : Hid (checkO n v d k 3 = 1) := Lib.hid (by unfold checkO; rw [if_pos hx])
    rcases hx with hx | hx
    · go_enter Tryz.func20, Tryz.ntmps20
      go_wp2
      go_ret
      exact ⟨HC.out _ HR.out _ rfl, (Mod.refl _ _).alloc _⟩
    · have h0 : ¬ d < 0 := by omega
      go_enter Tryz.func20, Tryz.ntmps20
      go_wp2
      go_ret
      exact ⟨HC.out _ HR.out _ rfl, (Mod.refl _ _).alloc _⟩
  · have h0 : ¬ d < 0 := by omega
    have h8 : ¬ 3 < d := by omega
    have HU : Hid (checkO n v d k 3 = if 0 < n ∨ numB v = false ∨ k ≠ 0 then 3 else 0) := Lib.hid (by unfold checkO; rw [if_neg hx])
    clear hx
    by_cases hn : 0 < n
    · have HR : Hid (checkO n v d k 3 = 3) := Lib.hid (by rw [HU.out, if_pos (.inl hn)])
      have hn' : (0 : Int) < (n : Int) := by omega
      go_enter Tryz.func20, Tryz.ntmps20
      go_wp2
      go_ret
      exact ⟨HC.out _ HR.out _ rfl, (Mod.refl _ _).alloc _⟩
    · obtain rfl : n = 0 := by omega
      obtain ⟨bv, hbv⟩ : ∃ bv, numB v = bv := ⟨_, rfl⟩
      have HNU := Lib.hid (num_any v)
      rw [hbv] at HNU
      by_cases hd : k = 0
      · subst hd
        cases bv with
        | true =>
          have HR : Hid (checkO 0 v d 0 3 = 0) := Lib.hid (by rw [HU.out, hbv]; simp)
          clear hn hbv
          go_enter Tryz.func20, Tryz.ntmps20
          go_wp2_with (go_at_call 47; refine (HNU.out _).mono ?_; (rintro e w1 ⟨rfl, rfl⟩))
          go_ret
          exact ⟨HC.out _ HR.out _ rfl, (Mod.refl _ _).alloc _⟩
        | false =>
          have HR : Hid (checkO 0 v d 0 3 = 3) := Lib.hid (by rw [HU.out, hbv]; simp)
          clear hn hbv
          go_enter Tryz.func20, Tryz.ntmps20
          go_wp2_with (go_at_call 47; refine (HNU.out _).mono ?_; (rintro e w1 ⟨rfl, rfl⟩))
          go_ret
          exact ⟨HC.out _ HR.out _ rfl, (Mod.refl _ _).alloc _⟩
      · have HR : Hid (checkO 0 v d k 3 = 3) := Lib.hid (by rw [HU.out, if_pos (.inr (.inr hd))])
        have hd' : (k != 0) = true := by simp [hd]
        clear hn hbv hd
        cases bv
        all_goals
          go_enter Tryz.func20, Tryz.ntmps20
          go_wp2_with (go_at_call 47; refine (HNU.out _).mono ?_; (rintro e w1 ⟨rfl, rfl⟩))
          go_ret
          exact ⟨HC.out _ HR.out _ rfl, (Mod.refl _ _).alloc _⟩
set_option maxRecDepth 100000 in
set_option maxHeartbeats 4000000 in
theorem dcheck_0 (kind n v : Nat) (k d : Int) (a : Option Addr) (c : Nat) (w : World) (hk : kind < 1 ∨ 3 < kind) :
    Calls Tryz.prog 20 #[.agg #[.int .u8 (kind : Int), .slice a n c, .int .u32 (v : Int), .int .i64 k, .int .i64 d]] w fun e w' => e = .returned (.int .i64 1) ∧ Mod (fun _ => False) w w' := by
  rcases hk with h | h
  · obtain rfl : kind = 0 := by omega
    clear h
    go_enter Tryz.func20, Tryz.ntmps20
    go_wp2
    go_ret
    exact ⟨rfl, (Mod.refl _ _).alloc _⟩
  · have h1 : ¬ (kind : Int) < 1 := by omega
    have h9 : (3 : Int) < (kind : Int) := by omega
    clear h
    go_enter Tryz.func20, Tryz.ntmps20
    go_wp2
    go_ret
    exact ⟨rfl, (Mod.refl _ _).alloc _⟩
theorem dcheck_any (r : Rqt) (vo : Value) (w : World) (ho : ORd w vo r.ops) : Calls Tryz.prog 20 #[rqV r vo] w fun e w' => e = .returned (.int .i64 (checkR r : Nat)) ∧ Mod (fun _ => False) w w' := by
  obtain ⟨kind, ops, v, k, d⟩ := r
  obtain ⟨a, c, rfl, -⟩ := ho.row.shape
  simp only at ho ⊢
  by_cases h0 : kind < 1 ∨ 3 < kind
  · have e : checkR ⟨kind, ops, v, k, d⟩ = 1 := by unfold checkR; rw [if_pos (by rcases h0 with h | h; exact .inl h; exact .inr (.inl h))]
    rw [e]
    exact dcheck_0 kind _ v k d a c w h0
  · by_cases h1 : kind = 1
    · subst h1; exact dcheck_1 ops v k d _ w ho
    · by_cases h2 : kind = 2
      · subst h2; rw [checkR_2]; exact dcheck_2 _ v k d a c w
      · obtain rfl : kind = 3 := by omega
        rw [checkR_3]; exact dcheck_3 _ v k d a c w
end Go.Proofs.YtbgjbikpenefoaaGreatDoor
/- gussetref03.one: what it is told of, its places; the first kinds. -/
namespace Go.Proofs.YtbgjbikpenefoaaGreatDoor
set_option linter.unusedVariables false
set_option linter.unusedSimpArgs false
open Go.RowKit
def Val.cells (v : Val) : List Value := [.int .u8 (v.k : Int), .int .i64 v.n, .string v.s]
def vvcells (l : List Val) : List Value := l.flatMap Val.cells
theorem RdS.none (w : World) (size : Nat) : RdS w size (.slice none 0 0) 0 [] := ⟨by simp, ⟨_, _, rfl, Nat.le_refl _, by decide, fun _ => rfl⟩, fun a c _ j u hu => by simp at hu⟩
end Go.Proofs.YtbgjbikpenefoaaGreatDoor
