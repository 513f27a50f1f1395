/- YBI: what is needed of it (by shake.py). -/
import Derived.Test.YtbgjbikpenefoaaGreatDoorM43
import Derived.Test.YtbgjbikpenefoaaGreatDoorM41
import Derived.Test.YtbgjbikpenefoaaGreatDoorM13

/- YBI, as far as the seat goes. -/
/- Transactions of one operation: what comes and goes; GraphBack's closure. (Printed by gen_gback.py.) -/
namespace Go.Proofs.YtbgjbikpenefoaaGreatDoor
set_option linter.unusedVariables false
set_option linter.unusedSimpArgs false
open Go.RowKit Go.Maps
theorem doG_same {L : Gr} {r : Rqt} (h : (doG L r).2.e ≠ 0) : (doG L r).1 = L := by
  unfold doG at h ⊢
  by_cases h1 : checkR r ≠ 0
  · rw [if_pos h1]
  · rw [if_neg h1] at h ⊢
    by_cases h2 : r.kind = 1
    · rw [if_pos h2] at h ⊢
      cases hr : okRun L r.ops with
      | some p => rw [hr] at h; exact absurd rfl h
      | none => rfl
    · rw [if_neg h2] at h ⊢
      by_cases h3 : (findV L r.v).isNone = true
      · rw [if_pos h3]
      · rw [if_neg h3] at h ⊢
        by_cases h4 : r.kind = 2
        · rw [if_pos h4]
        · rw [if_neg h4]
theorem do_one_ok {L : Gr} {o : Opr} (ho : opOK o = true) (he : (oneG L o).e = 0) : doG L (txR [o]) = ((oneG L o).g, ⟨0, 0, (oneG L o).vals, []⟩) := by
  have hc : checkR (txR [o]) = 0 := tx_good (by simp) (by simp) (fun x hx => by rw [List.mem_singleton.1 hx]; exact ho)
  exact doG_tx_ok hc (by rw [run_one, if_pos he])
theorem do_one {L : Gr} {o : Opr} (h : (doG L (txR [o])).2.e = 0) : opOK o = true ∧ (oneG L o).e = 0 := by
  by_cases hc : checkR (txR [o]) = 0
  · refine ⟨(tx_parts hc).2.2 o (by simp), ?_⟩
    apply Classical.byContradiction
    intro he
    rw [doG_tx_no hc (by rw [run_one, if_neg he])] at h
    unfold failG at h
    rw [if_neg he] at h
    exact he h
  · unfold doG at h
    rw [if_pos hc] at h
    exact absurd h hc
theorem opOK_cut {a b : Nat} (ha : 1 ≤ a ∧ a ≤ 40) (hb : 1 ≤ b ∧ b ≤ 40) (hne : b ≠ a) : opOK ⟨6, a, b, 0, noVal⟩ = true := by
  simp [opOK, Opr.two, Opr.hasKey, Opr.hasVal, numB]
  omega
theorem opOK_set {a key : Nat} {val : Val} (ha : 1 ≤ a ∧ a ≤ 40) (hk : key ≤ 3) (hv : val.ok = true) : opOK ⟨3, a, 0, key, val⟩ = true := by
  simp [opOK, Opr.two, Opr.hasKey, Opr.hasVal, numB]
  exact ⟨by omega, hv⟩
/-- What comes and goes: a first operation that is taken is undone by the second. -/
def Undo (L : Gr) (o1 o2 : Opr) : Prop := (doG L (txR [o1])).2.e = 0 → (doG (doG L (txR [o1])).1 (txR [o2])).2.e = 0 ∧ (doG (doG L (txR [o1])).1 (txR [o2])).1 = L
theorem Undo.of {L : Gr} {o1 o2 : Opr} (h : opOK o1 = true → (oneG L o1).e = 0 → opOK o2 = true ∧ (oneG (oneG L o1).g o2).e = 0 ∧ (oneG (oneG L o1).g o2).g = L) : Undo L o1 o2 := by
  intro he
  obtain ⟨h1, h2⟩ := do_one he
  obtain ⟨h3, h4, h5⟩ := h h1 h2
  rw [do_one_ok h1 h2]
  simp only
  rw [do_one_ok h3 h4]
  exact ⟨rfl, h5⟩
theorem undo_join {L : Gr} (hL : Good L) (v u : Nat) (val : Val) : Undo L ⟨5, v, u, 0, val⟩ ⟨6, u, v, 0, noVal⟩ := by
  refine Undo.of fun h1 h2 => ?_
  obtain ⟨h3, h4⟩ := join_back hL h1 rfl h2
  obtain ⟨-, ha, hb, -, -⟩ := opOK_parts h1
  obtain ⟨hb, hne⟩ := hb rfl
  exact ⟨opOK_cut hb ha (fun e => hne e.symm), h3, h4⟩
theorem undo_set {L : Gr} (hL : Good L) (v : Nat) (val : Val) (hk : val.k ≠ 0) : Undo L ⟨3, v, 0, 1, val⟩ ⟨3, v, 0, 1, propV (tellV L v) 1⟩ := by
  refine Undo.of fun h1 h2 => ?_
  cases hf : findV L v with
  | none =>
    unfold oneG at h2
    rw [if_neg (show ¬ (3 = 1) by decide)] at h2
    simp only [hf] at h2
    cases h2
  | some x =>
    have ht : tellV L v = x := by unfold tellV; rw [hf]; rfl
    rw [ht]
    obtain ⟨h3, h4, h5⟩ := set_back hL (key := 1) hf hk
    refine ⟨?_, h4, h5⟩
    have hx := hL.each x (findV_mem hf).1
    have hok : (propV x 1).ok = true := by
      unfold propV
      cases hp : entX x.props 1 with
      | none => exact noVal_ok
      | some u => exact (hx.props _ (entX_mem hp)).2.1
    exact opOK_set (opOK_parts h1).2.1 (by decide) hok
theorem undo_add {L : Gr} (hL : Good L) : Undo L ⟨1, 40, 0, 0, noVal⟩ ⟨2, 40, 0, 0, noVal⟩ := by
  refine Undo.of fun h1 h2 => ?_
  cases hf : findV L 40 with
  | none =>
    obtain ⟨h3, h4, h5⟩ := add_back hL hf
    exact ⟨by decide, h4, h5⟩
  | some x =>
    unfold oneG at h2
    rw [if_pos rfl] at h2
    simp [hf] at h2
theorem Kept.after {w w1 w2 : World} {n0 : Nat} (a : Kept w w1) (m : Mod (fun b => b = n0) w1 w2) (hn : w.heap.size ≤ n0) : Kept w w2 := by
  refine ⟨Nat.le_trans a.size m.size, fun {p v} h => ?_, fun {b cs t f} h => ?_⟩
  · have hb : p.block < w.heap.size := World.block_lt_of_cell? _ _ h
    exact (World.cell?_of_block (w := w1) (m.block p.block (Nat.lt_of_lt_of_le hb a.size) (fun e => by omega))).trans (a.cell h)
  · have hb := lt_of_block h
    exact m.heap (a.box h) (fun e => by omega)
theorem noValFits : noVal.Fits := ⟨by decide, by decide, by decide⟩
theorem Vx.propFits {x : Vtx} (h : x.Fits) (k : Nat) : (propV x k).Fits := by
  unfold propV
  cases hp : entX x.props k with
  | none => exact ⟨by decide, by decide, by decide⟩
  | some u => exact (h.props _ (entX_mem hp)).2
set_option maxRecDepth 100000 in
set_option maxHeartbeats 4000000 in
theorem btx_any (g bm b9 : Nat) (L : Gr) (o : Opr) (vo : Value) (w wr : World) (h : GSt w g bm L wr) (ho : ORd wr vo [o]) (hb : wr.heap[b9]? = some (.cells #[.pointer (some ⟨g, 0, none⟩)] 25 (0, 0))) (hg : ErrT w) :
    Calls Tryz.prog 28 #[vo, .pointer (some ⟨b9, 0, none⟩)] wr fun e w' => ∃ av nv cv al nl cl, e = .returned (.agg #[.int .i64 ((doG L (txR [o])).2.e : Nat), .int .i64 ((doG L (txR [o])).2.at_ : Nat), .slice av nv cv, .slice al nl cl]) ∧ GSt w g bm (doG L (txR [o])).1 w' ∧ Kept wr w' := by
  have hsz := h.mod.size
  have HLO := Lib.hid hsz
  have HDO : Hid (Calls Tryz.prog 13 #[.pointer (some ⟨g, 0, none⟩), rqV (txR [o]) vo] (wr.alloc (.cells #[.int .i64 0, .int .i64 0, .slice none 0 0, .slice none 0 0] 34)) (SDoE w g bm L (txR [o]) (wr.alloc (.cells #[.int .i64 0, .int .i64 0, .slice none 0 0, .slice none 0 0] 34)))) := Lib.hid (sgdo_any g bm L (txR [o]) vo w _ (h.keep ((Mod.refl _ _).alloc _)) (ho.keep ((Mod.refl _ _).alloc _)) (show (0 : Nat) < 4294967296 by decide) hg)
  have g0 := cell_of_row hb 0
  have zg := lt_of_block hb
  simp at g0
  obtain ⟨a, c, rfl, -⟩ := ho.row.shape
  simp only [rqV, txR] at HDO
  clear h ho hb hg hsz
  go_enter Tryz.func28, Tryz.ntmps28
  go_wp2_with (go_at_call 13; go_loud (refine HDO.out.mono ?_; (rintro e w3 ⟨vv, vl, rfl, hs⟩); have HS := Lib.hid hs; have hrb := hs.kept.box (heap_alloc_new' wr (.cells #[.int .i64 0, .int .i64 0, .slice none 0 0, .slice none 0 0] 34)); have HRB := Lib.hid hrb; have r0 := cell_of_row hrb 0; have r1 := cell_of_row hrb 1; have r2 := cell_of_row hrb 2; have r3 := cell_of_row hrb 3; have f0 := free_of_row hrb 0; have f1 := free_of_row hrb 1; have f2 := free_of_row hrb 2; have f3 := free_of_row hrb 3; have zr := lt_of_block hrb; simp at r0 r1 r2 r3; (obtain ⟨a3, c3, n3, rfl⟩ : ∃ a c n, vv = .slice a n c := (by obtain ⟨a, c, e, _⟩ := hs.vals.rdS.shape; exact ⟨_, _, _, e⟩)); (obtain ⟨a4, c4, n4, rfl⟩ : ∃ a c n, vl = .slice a n c := (by obtain ⟨a, c, e, _⟩ := hs.list.rdS.shape; exact ⟨_, _, _, e⟩)); clear hs hrb))
  obtain ⟨ze, hze⟩ : ∃ ze, ze = (doG L ⟨1, [o], 0, 0, 0⟩).2.e := ⟨_, rfl⟩
  obtain ⟨za, hza⟩ : ∃ za, za = (doG L ⟨1, [o], 0, 0, 0⟩).2.at_ := ⟨_, rfl⟩
  simp only [txR, ← hze, ← hza]
  refine bodyPost_ret (v := .agg #[.int .i64 (ze : Int), .int .i64 (za : Int), .slice a3 n3 c3, .slice a4 n4 c4]) (by simp [results, Tryz.results28, go_sem, r0, r1, r2, r3]) rfl ?_
  have m : Mod (fun k => k = wr.heap.size) w3 (doEnd w3 wr.heap.size (.int .i64 (ze : Int)) (.int .i64 (za : Int)) (.slice a3 n3 c3) (.slice a4 n4 c4)) :=
    ((((Mod.refl (fun k => k = wr.heap.size) w3).setCell (p := ⟨wr.heap.size, 0, none⟩) (fun _ => rfl) _).setCell (p := ⟨wr.heap.size, 1, none⟩) (fun _ => rfl) _).setCell (p := ⟨wr.heap.size, 2, none⟩) (fun _ => rfl) _).setCell (p := ⟨wr.heap.size, 3, none⟩) (fun _ => rfl) _
  refine ⟨a3, n3, c3, a4, n4, c4, rfl, HS.out.st.more m (fun b e => by have := HLO.out; omega) (fun b e => by subst e; exact ⟨_, _, _, HRB.out, by decide, by decide⟩), ?_⟩
  exact ((Kept.mod ((Mod.refl (fun _ => False) wr).alloc _)).trans HS.out.kept).after m (Nat.le_refl _)
/-- A graph on the way, and the boxes of its pointer and of a value. -/
structure BkAt (w : World) (g bm : Nat) (b9 b7 : Nat) (val : Val) (L : Gr) (wr : World) : Prop where
  st : GSt w g bm L wr
  nine : wr.heap[b9]? = some (.cells #[.pointer (some ⟨g, 0, none⟩)] 25 (0, 0))
  seven : wr.heap[b7]? = some (.cells #[.int .u8 (val.k : Int), .int .i64 val.n, .string val.s] 44 (0, 0))
theorem BkAt.go {w : World} {g bm b9 b7 : Nat} {val : Val} {L L' : Gr} {wr wx : World} (h : BkAt w g bm b9 b7 val L wr) (st : GSt w g bm L' wx) (k : Kept wr wx) : BkAt w g bm b9 b7 val L' wx := ⟨st, k.box h.nine, k.box h.seven⟩
theorem BkAt.keep {w : World} {g bm b9 b7 : Nat} {val : Val} {L : Gr} {wr wx : World} (h : BkAt w g bm b9 b7 val L wr) (m : Mod (fun _ => False) wr wx) : BkAt w g bm b9 b7 val L wx := h.go (h.st.keep m) (.mod m)
theorem BkAt.pt {w : World} {g bm b9 b7 : Nat} {val : Val} {L : Gr} {wr : World} (h : BkAt w g bm b9 b7 val L wr) : wr.cell? ⟨b9, 0, none⟩ = some (.pointer (some ⟨g, 0, none⟩)) ∧ b9 < wr.heap.size ∧ wr.cell? ⟨b7, 0, none⟩ = some (.int .u8 (val.k : Int)) ∧ wr.cell? ⟨b7, 1, none⟩ = some (.int .i64 val.n) ∧ wr.cell? ⟨b7, 2, none⟩ = some (.string val.s) ∧ b7 < wr.heap.size :=
  ⟨cell_of_row h.nine 0, lt_of_block h.nine, cell_of_row h.seven 0, cell_of_row h.seven 1, cell_of_row h.seven 2, lt_of_block h.seven⟩
/-- A literal list of one operation, in new memory. -/
theorem lit_one (o : Opr) (hf : o.Fits) (w : World) : ORd (w.alloc (.cells #[.int .u8 (o.kind : Int), .int .u32 (o.a : Int), .int .u32 (o.b : Int), .int .u8 (o.key : Int), .int .u8 (o.val.k : Int), .int .i64 o.val.n, .string o.val.s] 71)) (.slice (some ⟨w.heap.size, 0, none⟩) 1 1) [o] :=
  lit_ops _ [o] w rfl rfl (show 1 ≤ maxLen by decide) (fun x hx => by rw [List.mem_singleton.1 hx]; exact hf)
/-- The closure, at a literal list of one operation. -/
theorem btx_lit (g bm b9 b7 : Nat) (val : Val) (L : Gr) (o : Opr) (hf : o.Fits) (w wr : World) (h : BkAt w g bm b9 b7 val L wr) (hg : ErrT w) :
    Calls Tryz.prog 28 #[.slice (some ⟨wr.heap.size, 0, none⟩) 1 1, .pointer (some ⟨b9, 0, none⟩)] (wr.alloc (.cells #[.int .u8 (o.kind : Int), .int .u32 (o.a : Int), .int .u32 (o.b : Int), .int .u8 (o.key : Int), .int .u8 (o.val.k : Int), .int .i64 o.val.n, .string o.val.s] 71)) fun e w' => ∃ av nv cv al nl cl, e = .returned (.agg #[.int .i64 ((doG L (txR [o])).2.e : Nat), .int .i64 ((doG L (txR [o])).2.at_ : Nat), .slice av nv cv, .slice al nl cl]) ∧ BkAt w g bm b9 b7 val (doG L (txR [o])).1 w' ∧ Kept wr w' := by
  have m : Mod (fun _ => False) wr (wr.alloc (.cells #[.int .u8 (o.kind : Int), .int .u32 (o.a : Int), .int .u32 (o.b : Int), .int .u8 (o.key : Int), .int .u8 (o.val.k : Int), .int .i64 o.val.n, .string o.val.s] 71)) := (Mod.refl _ _).alloc _
  refine (btx_any g bm b9 L o _ w _ (h.st.keep m) (lit_one o hf wr) (m.heap h.nine (fun f => f)) hg).mono ?_
  rintro e w' ⟨av, nv, cv, al, nl, cl, rfl, h1, h2⟩
  exact ⟨av, nv, cv, al, nl, cl, rfl, (h.keep m).go h1 h2, (Kept.mod m).trans h2⟩
end Go.Proofs.YtbgjbikpenefoaaGreatDoor
