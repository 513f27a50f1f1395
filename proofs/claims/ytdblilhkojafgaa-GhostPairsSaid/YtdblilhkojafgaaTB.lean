/- T5, T6, T7 in one. -/
import Derived.Test.YtdblilhkojafgaaT4

/- A tally's Put, of, List; ghost.Count. -/
namespace Go.Proofs.Ytdblilhkojafgaa
set_option linter.unusedVariables false
open Go.RowKit Go.Maps

def errB (b : Bool) : Int := if b then 0 else 3
theorem gput_any (x : Vtx) (vp vh : Value) (g bm : Nat) (w : World) (hx : VRd w vp vh x) (hg : GAt w g bm []) :
    Calls Try.prog 54 #[.pointer (some ⟨g, 0, none⟩), vtxV x vp vh] w fun e w' => e = .returned (.int .i64 (errB x.right)) ∧ Mod (fun k => k = bm) w w' := by
  cases hr : x.right with
  | false =>
    refine (put_bad x vp vh _ w hx hr).mono ?_
    rintro e w' ⟨rfl, hm⟩
    exact ⟨rfl, hm.mono (fun _ _ f => f.elim)⟩
  | true =>
    cases ht : x.there with
    | false =>
      refine (put_del x vp vh g bm [] w hx hr ht hg).mono ?_
      rintro e w' ⟨rfl, hm, -⟩
      exact ⟨rfl, hm⟩
    | true =>
      refine (put_good x vp vh g bm [] w hx hr ht hg (by simp)).mono ?_
      rintro e w' ⟨a, rfl, hm, -⟩
      exact ⟨rfl, hm⟩

set_option maxRecDepth 100000 in
set_option maxHeartbeats 2000000 in
theorem tput_bad (x : Vtx) (vp vh : Value) (tp : Option Addr) (w : World) (hx : VRd w vp vh x) (hr : x.right = false) :
    Calls Try.prog 26 #[.pointer tp, vtxV x vp vh] w fun e w' => e = .returned (.int .i64 3) ∧ Mod (fun _ => False) w w' := by
  have HG := Lib.hid (fun (w1 : World) (g bm : Nat) (m : Mod (fun _ => False) w w1) (h : GAt w1 g bm []) => gput_any x vp vh g bm w1 (hx.keep m) h)
  have HN := Lib.hid (new_any)
  rw [hr] at HG
  clear hx hr
  simp only [vtxV] at HG ⊢
  generalize x.id = id at HG ⊢
  generalize x.there = there at HG ⊢
  go_enter Try.func26, Try.ntmps26
  go_wp2_with fail
  go_region_law (first
    | (go_simp; go_at_call 53; refine (HN.out _).mono ?_; (rintro e w1 ⟨rfl, hm1, hg1⟩); have HM1 : Hid (Mod (fun _ => False) w w1) := (((Mod.refl _ w).alloc _).drew).trans hm1; have HG1 : Hid (GAt w1 (w.heap.size + 1 + 1) (w.heap.size + 1) []) := (by have h := hg1; simp only [World.size_drew, World.size_alloc] at h; exact h); (have hb1 : w1.heap[w.heap.size]? = some (.cells #[.int .u32 (id : Int), .bool there, vp, vh] 31 (0, 0)) := hm1.heap (heap_alloc_new' w _) (fun f => f)); have c0 := cell_of_row hb1 0; have c1 := cell_of_row hb1 1; have c2 := cell_of_row hb1 2; have c3 := cell_of_row hb1 3; simp at c0 c1 c2 c3; clear hm1 hg1)
    | (go_simp; go_at_call 54; refine (HG.out w1 (w.heap.size + 1 + 1) (w.heap.size + 1) HM1.out HG1.out).mono ?_; (rintro e w2 ⟨rfl, hm2⟩); have HM2 : Hid (Mod (fun _ => False) w w2) := HM1.out.trans' hm2 (fun i hi e => by omega); clear hm2))
  all_goals
    simp only [errB]
    go_wp2
    go_ret
    exact ⟨rfl, HM2.out⟩
set_option maxRecDepth 100000 in
set_option maxHeartbeats 2000000 in
theorem tput_nil (x : Vtx) (vp vh : Value) (w : World) (hx : VRd w vp vh x) (hr : x.right = true) :
    Calls Try.prog 26 #[.pointer none, vtxV x vp vh] w fun e w' => e = .returned (.int .i64 6) ∧ Mod (fun _ => False) w w' := by
  have HG := Lib.hid (fun (w1 : World) (g bm : Nat) (m : Mod (fun _ => False) w w1) (h : GAt w1 g bm []) => gput_any x vp vh g bm w1 (hx.keep m) h)
  have HN := Lib.hid (new_any)
  rw [hr] at HG
  clear hx hr
  simp only [vtxV] at HG ⊢
  generalize x.id = id at HG ⊢
  generalize x.there = there at HG ⊢
  go_enter Try.func26, Try.ntmps26
  go_wp2_with fail
  go_region_law (first
    | (go_simp; go_at_call 53; refine (HN.out _).mono ?_; (rintro e w1 ⟨rfl, hm1, hg1⟩); have HM1 : Hid (Mod (fun _ => False) w w1) := (((Mod.refl _ w).alloc _).drew).trans hm1; have HG1 : Hid (GAt w1 (w.heap.size + 1 + 1) (w.heap.size + 1) []) := (by have h := hg1; simp only [World.size_drew, World.size_alloc] at h; exact h); (have hb1 : w1.heap[w.heap.size]? = some (.cells #[.int .u32 (id : Int), .bool there, vp, vh] 31 (0, 0)) := hm1.heap (heap_alloc_new' w _) (fun f => f)); have c0 := cell_of_row hb1 0; have c1 := cell_of_row hb1 1; have c2 := cell_of_row hb1 2; have c3 := cell_of_row hb1 3; simp at c0 c1 c2 c3; clear hm1 hg1)
    | (go_simp; go_at_call 54; refine (HG.out w1 (w.heap.size + 1 + 1) (w.heap.size + 1) HM1.out HG1.out).mono ?_; (rintro e w2 ⟨rfl, hm2⟩); have HM2 : Hid (Mod (fun _ => False) w w2) := HM1.out.trans' hm2 (fun i hi e => by omega); clear hm2))
  all_goals
    simp only [errB]
    go_wp2
    go_ret
    exact ⟨rfl, HM2.out⟩
set_option maxRecDepth 100000 in
set_option maxHeartbeats 2000000 in
theorem tput_fresh (x : Vtx) (vp vh : Value) (g bh bn : Nat) (Z : Zs) (en : Ents) (m : Nat) (w : World) (hx : VRd w vp vh x) (hr : x.right = true) (hT : TAt w g bh bn Z en (tot (namesZ Z)) m) (hm : m + x.halves.length + 1 < 999999) :
    Calls Try.prog 26 #[.pointer (some ⟨g, 0, none⟩), vtxV x vp vh] w fun e w' => e = .returned (.int .i64 0) ∧ ∃ Z' en', TAt w' g bh bn Z' en' (tot (namesZ Z')) (m + x.halves.length + 1) ∧ namesZ Z' = turnH x.id x.there (x.halves.map Ent.key) (namesZ Z) ∧ Mod (fun k => k = bh ∨ k = bn) w w' ∧ FreshZ w Z Z' := by
  have HG := Lib.hid (fun (w1 : World) (g bm : Nat) (m : Mod (fun _ => False) w w1) (h : GAt w1 g bm []) => gput_any x vp vh g bm w1 (hx.keep m) h)
  have HN := Lib.hid (new_any)
  have HTU : Hid (∀ w1 : World, Mod (fun _ => False) w w1 → Calls Try.prog 55 #[.pointer (some ⟨g, 0, none⟩), vtxV x vp vh] w1 fun e w' => e = .returned (.tuple #[]) ∧ ∃ Z' en', TAt w' g bh bn Z' en' (tot (namesZ Z')) (m + x.halves.length + 1) ∧ namesZ Z' = turnH x.id x.there (x.halves.map Ent.key) (namesZ Z) ∧ Mod (fun k => k = bh ∨ k = bn) w1 w' ∧ FreshZ w Z Z') := Lib.hid (fun w1 m1 => by
    refine (turn_fresh x vp vh g bh bn Z en m w1 (hx.keep m1) (hT.keep m1) hm).mono ?_
    rintro e w' ⟨h, Z', en', h1, h2, h3, h4⟩
    exact ⟨h, Z', en', h1, h2, h3, fun z hz => (h4 z hz).imp (fun h => h) (fun f b hb => Nat.le_trans m1.size (f b hb))⟩)
  rw [hr] at HG
  clear hx hr hT
  simp only [vtxV] at HG HTU ⊢
  generalize x.halves.length = nh at hm HTU ⊢
  generalize x.halves.map Ent.key = ks at HTU ⊢
  generalize x.id = id at HG HTU ⊢
  generalize x.there = there at HG HTU ⊢
  go_enter Try.func26, Try.ntmps26
  go_wp2_with fail
  go_region_law (first
    | (go_simp; go_at_call 53; refine (HN.out _).mono ?_; (rintro e w1 ⟨rfl, hm1, hg1⟩); have HM1 : Hid (Mod (fun _ => False) w w1) := (((Mod.refl _ w).alloc _).drew).trans hm1; have HG1 : Hid (GAt w1 (w.heap.size + 1 + 1) (w.heap.size + 1) []) := (by have h := hg1; simp only [World.size_drew, World.size_alloc] at h; exact h); (have hb1 : w1.heap[w.heap.size]? = some (.cells #[.int .u32 (id : Int), .bool there, vp, vh] 31 (0, 0)) := hm1.heap (heap_alloc_new' w _) (fun f => f)); have HB1 := Lib.hid hb1; have c0 := cell_of_row hb1 0; have c1 := cell_of_row hb1 1; have c2 := cell_of_row hb1 2; have c3 := cell_of_row hb1 3; simp at c0 c1 c2 c3; clear hm1 hg1)
    | (go_simp; go_at_call 54; refine (HG.out w1 (w.heap.size + 1 + 1) (w.heap.size + 1) HM1.out HG1.out).mono ?_; (rintro e w2 ⟨rfl, hm2⟩); have HM2 : Hid (Mod (fun _ => False) w w2) := HM1.out.trans' hm2 (fun i hi e => by omega); (have hb2 : w2.heap[w.heap.size]? = some (.cells #[.int .u32 (id : Int), .bool there, vp, vh] 31 (0, 0)) := hm2.heap HB1.out (by omega)); have e0 := cell_of_row hb2 0; have e1 := cell_of_row hb2 1; have e2 := cell_of_row hb2 2; have e3 := cell_of_row hb2 3; simp at e0 e1 e2 e3; clear hm2 hb2))
  all_goals
    simp only [errB]
    go_wp2_with (go_at_call 55; refine (HTU.out _ HM2.out).mono ?_; (rintro e w3 ⟨rfl, Z', en', h1, h2, h3, h4⟩); have HR := Lib.hid (And.intro h1 (And.intro h2 (And.intro h3 h4))); clear h1 h2 h3 h4)
    go_ret
    exact ⟨rfl, Z', en', HR.out.1, HR.out.2.1, (HM2.out.mono (fun _ _ f => f.elim)).trans HR.out.2.2.1, HR.out.2.2.2⟩
theorem tput_ok (x : Vtx) (vp vh : Value) (g bh bn : Nat) (Z : Zs) (en : Ents) (m : Nat) (w : World) (hx : VRd w vp vh x) (hr : x.right = true) (hT : TAt w g bh bn Z en (tot (namesZ Z)) m) (hm : m + x.halves.length + 1 < 999999) :
    Calls Try.prog 26 #[.pointer (some ⟨g, 0, none⟩), vtxV x vp vh] w fun e w' => e = .returned (.int .i64 0) ∧ ∃ Z' en', TAt w' g bh bn Z' en' (tot (namesZ Z')) (m + x.halves.length + 1) ∧ namesZ Z' = turnH x.id x.there (x.halves.map Ent.key) (namesZ Z) ∧ Mod (fun k => k = bh ∨ k = bn) w w' :=
  (tput_fresh x vp vh g bh bn Z en m w hx hr hT hm).mono (fun e w' ⟨h, Z', en', h1, h2, h3, _⟩ => ⟨h, Z', en', h1, h2, h3⟩)
end Go.Proofs.Ytdblilhkojafgaa

/- A tally of a list; its ghosts. -/
namespace Go.Proofs.Ytdblilhkojafgaa
set_option linter.unusedVariables false
open Go.RowKit Go.Maps

/-- How much a list of vertices weighs. -/
def wt (l : List Vs) : Nat := (l.map fun s => s.x.halves.length + 1).sum
def turnAll (l : List Vs) : Names := l.foldl (fun H s => turnH s.x.id s.x.there (s.x.halves.map Ent.key) H) []
theorem turnAll_snoc (l : List Vs) (s : Vs) : turnAll (l ++ [s]) = turnH s.x.id s.x.there (s.x.halves.map Ent.key) (turnAll l) := by simp [turnAll]
theorem wt_snoc (l : List Vs) (s : Vs) : wt (l ++ [s]) = wt l + (s.x.halves.length + 1) := by simp [wt]
theorem wt_take {l : List Vs} {k : Nat} : wt (l.take k) ≤ wt l := by
  have : l = l.take k ++ l.drop k := (List.take_append_drop k l).symm
  have e : wt l = wt (l.take k) + wt (l.drop k) := by
    unfold wt
    rw [← List.sum_append, ← List.map_append, List.take_append_drop]
  omega
theorem wt_at {l : List Vs} {k : Nat} {x : Vs} (h : l[k]? = some x) : wt (l.take (k + 1)) = wt (l.take k) + (x.x.halves.length + 1) ∧ turnAll (l.take (k + 1)) = turnH x.x.id x.x.there (x.x.halves.map Ent.key) (turnAll (l.take k)) := by
  obtain ⟨hk, he⟩ := List.getElem?_eq_some_iff.1 h
  rw [List.take_succ_eq_append_getElem hk, he, wt_snoc, turnAll_snoc]
  exact ⟨rfl, rfl⟩
/-- In of: the tally lies in new memory. -/
structure OfAt (w : World) (g bh bn : Nat) (H : Names) (m : Nat) (wx : World) : Prop where
  mod : Mod (fun _ => False) w wx
  lo : w.heap.size ≤ g ∧ w.heap.size ≤ bh ∧ w.heap.size ≤ bn
  tal : ∃ Z en, TAt wx g bh bn Z en (tot (namesZ Z)) m ∧ namesZ Z = H

set_option maxRecDepth 100000 in
set_option maxHeartbeats 2000000 in
theorem tof_any (v : Value) (l : List Vs) (w : World) (hv : LRd w v l) (hw : wt l < 999999) :
    Calls Try.prog 46 #[v] w fun e w' => ∃ g bh bn, e = .returned (.pointer (some ⟨g, 0, none⟩)) ∧ OfAt w g bh bn (turnAll l) (wt l) w' := by
  have HV := Lib.hid hv
  obtain ⟨a, c, rfl, hc1, hc2, -⟩ := hv.row.shape
  obtain ⟨n, hn⟩ : ∃ n, n = l.length := ⟨_, rfl⟩
  have HN := Lib.hid hn
  rw [← hn] at HV hc1 ⊢
  clear hn hv
  have HNW := Lib.hid (tally_new)
  have HW := Lib.hid hw
  clear hw
  go_enter Try.func46, Try.ntmps46
  go_wp2_with (first | (go_at_call 25; refine (HNW.out _).mono ?_; (rintro e w1 ⟨rfl, hm1, hg1⟩); have HO1 : Hid (OfAt w (w.heap.size + 2) w.heap.size (w.heap.size + 1) [] 0 w1) := Lib.hid ⟨hm1, ⟨by omega, by omega, by omega⟩, ⟨[], [], hg1.alike (fun k => by simp [tot, namesZ, mapG]), rfl⟩⟩; clear hm1 hg1))
  go_loopw [9] (fun i wr => ∃ k : Nat, i = .int .i64 k ∧ k ≤ n ∧ Hid (OfAt w (w.heap.size + 2) w.heap.size (w.heap.size + 1) (turnAll (l.take k)) (wt (l.take k)) wr)) (fun i _ => n - (intOf i).toNat)
  case atStart => exact ⟨0, rfl, Nat.zero_le _, HO1.out⟩
  case round =>
    obtain ⟨k, rfl, hk, HO⟩ := hrel
    by_cases hkn : k < n
    · obtain ⟨x, hx⟩ : ∃ x, l[k]? = some x := ⟨_, List.getElem?_eq_getElem (by rw [← HN.out]; exact hkn)⟩
      obtain ⟨b, off, rfl, hb, r0, r1, r2, r3⟩ := HV.out.ent hx rfl
      have r0 := HO.out.mod.cell r0
      have r1 := HO.out.mod.cell r1
      have r2 := HO.out.mod.cell r2
      have r3 := HO.out.mod.cell r3
      have zb : b < wr.heap.size := Nat.lt_of_lt_of_le hb HO.out.mod.size
      have HAT := Lib.hid (wt_at hx)
      have HVR := Lib.hid (HV.out.at hx)
      have hlt : wt (l.take k) + x.x.halves.length + 1 < 999999 := by
        have h1 := HAT.out.1
        have h2 := wt_take (l := l) (k := k + 1)
        have h3 := HW.out
        omega
      obtain ⟨Z, en, hT, hH⟩ := HO.out.tal
      have HTU : Hid (∀ w', Mod (fun _ => False) wr w' → Calls Try.prog 55 #[.pointer (some ⟨w.heap.size + 2, 0, none⟩), vtxV x.x x.vp x.vh] w' fun e w'' => e = .returned (.tuple #[]) ∧ Hid (OfAt w (w.heap.size + 2) w.heap.size (w.heap.size + 1) (turnAll (l.take (k + 1))) (wt (l.take (k + 1))) w'')) := Lib.hid (fun w' mm => by
        refine (turn_any x.x x.vp x.vh _ _ _ Z en _ w' (HVR.out.keep (HO.out.mod.trans mm)) (hT.keep mm) hlt).mono ?_
        rintro e w'' ⟨rfl, Z', en', h1, h2, h3⟩
        refine ⟨rfl, (HO.out.mod.trans mm).trans' h3 (fun i hi e => by omega), HO.out.lo, Z', en', ?_, ?_⟩
        · rw [HAT.out.1]; exact h1
        · rw [HAT.out.2, ← hH]; exact h2)
      clear hx hT hH hlt hb
      obtain ⟨⟨id, there, xs, ys⟩, vp, vh⟩ := x
      obtain ⟨np, ap, cp, rfl⟩ : ∃ np ap cp, vp = .slice ap np cp := by
        obtain ⟨a, c, e, _⟩ := HVR.out.props.shape
        exact ⟨_, _, _, e⟩
      obtain ⟨nh, ah, ch, rfl⟩ : ∃ np ap cp, vh = .slice ap np cp := by
        obtain ⟨a, c, e, _⟩ := HVR.out.halves.shape
        exact ⟨_, _, _, e⟩
      simp only at r0 r1 r2 r3
      simp only [vtxV] at HTU
      clear HVR HAT
      go_wp2_with (go_at_call 55; refine (HTU.out _ ((Mod.refl (fun _ => False) wr).alloc _)).mono ?_; (rintro e w5 ⟨rfl, HO5⟩))
      go_roundw
      case rel => exact ⟨k + 1, by go_num, by omega, HO5⟩
      case measure => simp [intOf]; omega
    · have HE : Hid (OfAt w (w.heap.size + 2) w.heap.size (w.heap.size + 1) (turnAll l) (wt l) wr) := Lib.hid (by
        have h := HO.out
        rwa [List.take_of_length_le (by have := HN.out; omega)] at h)
      go_wp2
      go_ret
      exact ⟨_, _, _, rfl, HE.out⟩
end Go.Proofs.Ytdblilhkojafgaa

/- A tally's List. -/
namespace Go.Proofs.Ytdblilhkojafgaa
set_option linter.unusedVariables false
open Go.RowKit Go.Maps

theorem infoGhost : (Try.prog.info? 60).map (fun i => (i.zero, i.size, i.bytes)) = some (some (.agg #[.int .u32 0, .int .i64 0]), 2, 16) := by kernel_rfl

def gcells (l : List (Nat × Nat)) : List Value := l.flatMap fun p => [.int .u32 (p.1 : Int), .int .i64 (p.2 : Int)]
theorem gcells_length (l : List (Nat × Nat)) : (gcells l).length = l.length * 2 := by
  induction l with
  | nil => rfl
  | cons x r ih => simp [gcells] at ih ⊢; rw [ih]; omega
theorem gcells_snoc (l : List (Nat × Nat)) (p : Nat × Nat) : gcells (l ++ [p]) = gcells l ++ [.int .u32 (p.1 : Int), .int .i64 (p.2 : Int)] := by simp [gcells]
theorem gcells_get : ∀ (l : List (Nat × Nat)) (i : Nat) (p : Nat × Nat), l[i]? = some p → (gcells l)[i * 2]? = some (.int .u32 (p.1 : Int)) ∧ (gcells l)[i * 2 + 1]? = some (.int .i64 (p.2 : Int))
  | [], i, p, h => by simp at h
  | y :: r, 0, p, h => by
    simp at h
    subst h
    exact ⟨rfl, rfl⟩
  | y :: r, i + 1, p, h => by
    have ih := gcells_get r i p (by simpa using h)
    have e1 : (i + 1) * 2 = i * 2 + 1 + 1 := by omega
    have e2 : (i + 1) * 2 + 1 = i * 2 + 1 + 1 + 1 := by omega
    simp only [gcells, List.flatMap_cons] at ih ⊢
    rw [e1]
    simpa using ih
/-- A slice of pairs of numbers, in memory that is new since w. -/
structure SegP (te : TypeId) (w : World) (v : Value) (l : List (Nat × Nat)) (wx : World) : Prop where
  seg : Seg wx te 2 v l.length (gcells l)
  own : ∀ b, v.ownBlock = some b → w.heap.size ≤ b
  mod : Mod (fun _ => False) w wx
theorem SegP.nil (te : TypeId) {w wx : World} (m : Mod (fun _ => False) w wx) : SegP te w (.slice none 0 0) [] wx := ⟨Seg.nil _ _ _, fun b hb => by simp [Value.ownBlock] at hb, m⟩
theorem SegP.keep {te : TypeId} {w wx wy : World} {v : Value} {l : List (Nat × Nat)} (h : SegP te w v l wx) (m : Mod (fun _ => False) wx wy) : SegP te w v l wy := ⟨h.seg.mod m (fun _ _ f => f), h.own, h.mod.trans m⟩
theorem SegP.snoc {te : TypeId} {w wx w3 : World} {v v3 : Value} {l : List (Nat × Nat)} {p : Nat × Nat} {o : Obj} (h : SegP te w v l wx) (hs : Seg w3 te 2 v3 (l.length + 1) (gcells l ++ [.int .u32 (p.1 : Int), .int .i64 (p.2 : Int)])) (hg : (wx.alloc o).grownBy w3 v.ownBlock) (ho : v3.ownBlock = v.ownBlock ∨ v3.ownBlock = some (wx.alloc o).heap.size) : SegP te w v3 (l ++ [p]) w3 := by
  refine ⟨by rw [gcells_snoc]; simpa using hs, fun b hb => ?_, (h.mod.alloc o).grown hg (fun b hb hlt => by have := h.own b hb; omega)⟩
  rcases ho with e | e
  · exact h.own b (e ▸ hb)
  · have := h.mod.size
    rw [e] at hb; simp at hb; omega

def glist (H : Names) (c : Nat → Nat) (ks : List Nat) : List (Nat × Nat) := (ks.filter fun k => !(getG k H).isSome).map fun k => (k, c k)
theorem glist_snoc (H : Names) (c : Nat → Nat) (ks : List Nat) (k : Nat) : glist H c (ks ++ [k]) = if (getG k H).isSome then glist H c ks else glist H c ks ++ [(k, c k)] := by
  unfold glist
  rw [List.filter_append, List.filter_cons, List.filter_nil]
  cases h : (getG k H).isSome
  · simp
  · simp
theorem glist_length (H : Names) (c : Nat → Nat) (ks : List Nat) : (glist H c ks).length ≤ ks.length := by
  unfold glist; rw [List.length_map]; exact List.length_filter_le _ _
theorem take_snoc {α : Type} {l : List α} {k : Nat} {x : α} (h : l[k]? = some x) : l.take (k + 1) = l.take k ++ [x] := by
  obtain ⟨hk, he⟩ := List.getElem?_eq_some_iff.1 h
  rw [List.take_succ_eq_append_getElem hk, he]

set_option maxRecDepth 100000 in
set_option maxHeartbeats 2000000 in
theorem tlist_any (g bh bn : Nat) (Z : Zs) (en : Ents) (c : Nat → Nat) (m : Nat) (w : World) (hT : TAt w g bh bn Z en c m) (hm : m < 999999) :
    Calls Try.prog 28 #[.pointer (some ⟨g, 0, none⟩)] w fun e w' => ∃ v, e = .returned v ∧ SegP 60 w v (glist (namesZ Z) c (en.map (·.1))) w' := by
  have HT := Lib.hid hT
  have b0 := cell_of_row hT.box 0
  have b1 := cell_of_row hT.box 1
  simp at b0 b1
  have hlen := hT.len
  have hK := sortedKeysInt bn en w hT.named (by omega)
  have hcnt : ∀ k ∈ en.map (·.1), k < 4294967296 ∧ 0 < c k := fun k hk => by
    have h1 : k < 4294967296 := by
      obtain ⟨p, hp, rfl⟩ := List.mem_map.1 hk
      obtain ⟨xs, clock, hb, F, hn, hD⟩ := hT.named.own
      have hko := hT.named.own.keysOf
      obtain ⟨es', hD', hko⟩ := hko
      have e : es' = en.map fun p => ((.int .u32 (p.1 : Int) : Lit), (.held p.2 : DataW Value)) := by
        unfold entsD at hD'; injection hD' with hD'; exact hD'.symm
      obtain ⟨v, hv⟩ := hko (.int .u32 (p.1 : Int), .held p.2) (by rw [e]; exact List.mem_map.2 ⟨p, hp, rfl⟩)
      obtain ⟨x, -, h2, h3⟩ := key_nat (by simp) Try.underlying27 hv
      have e2 : p.1 = x := by injection h2 with _ h2; omega
      have e3 : IntKind.u32.max = 4294967295 := rfl
      have e4 : (x : Int) ≤ 4294967295 := by simp [Lit.wf] at h3; omega
      omega
    refine ⟨h1, ?_⟩
    have h2 := (mem_keys en k).1 hk
    rw [hT.cnt k h1] at h2
    rcases Nat.eq_zero_or_pos (c k) with h3 | h3
    · rw [if_pos h3] at h2; cases h2
    · exact h3
  have htop := hT.top
  obtain ⟨ks, hks⟩ : ∃ ks, ks = en.map (·.1) := ⟨_, rfl⟩
  have hkl : ks.length ≤ m := by rw [hks, List.length_map]; exact hlen
  rw [← hks] at hK hcnt ⊢
  clear hks hlen
  have HK := Lib.hid hK
  have HCN := Lib.hid hcnt
  have HTOP := Lib.hid htop
  have HKY := Lib.hid (keysInt (some bn) w)
  obtain ⟨i0, hi, hz0, hz1, hz2⟩ := info_parts infoGhost
  have HI : Hid (Try.prog.info? 60 = some i0 ∧ i0.zero = some (.agg #[.int .u32 0, .int .i64 0]) ∧ i0.size = 2 ∧ i0.bytes = 16) := ⟨hi, hz0, hz1, hz2⟩
  obtain ⟨n, hn⟩ : ∃ n, n = ks.length := ⟨_, rfl⟩
  have HN := Lib.hid hn
  rw [← hn] at hkl
  clear hT hn hi hz0 hz1 hz2 hK hcnt htop
  go_enter Try.func28, Try.ntmps28
  go_wp2_with (first
    | (go_at_call 59; refine HKY.out.mono ?_; (rintro e w1 ⟨rfl, rfl⟩))
    | (go_at_call 58; refine HK.out.mono ?_; (rintro e w2 ⟨vk, rfl, hk⟩); have HV := Lib.hid hk; (obtain ⟨ak, ck, rfl, hck1, hck2⟩ := hk.seg.shape); clear hk; rw [← HN.out] at hck1 ⊢; (have hck3 : ck ≤ 9223372036854775807 := hck2); clear hck2))
  go_loopw [16, 3] (fun i v wr => ∃ k : Nat, i = .int .i64 k ∧ k ≤ n ∧ Hid (SegP 60 w2 v (glist (namesZ Z) c (ks.take k)) wr)) (fun i _ _ => n - (intOf i).toNat)
  case atStart => exact ⟨0, rfl, Nat.zero_le _, SegP.nil _ (Mod.refl _ _)⟩
  case round =>
    obtain ⟨k, rfl, hk, HP⟩ := hrel
    have HM := Lib.hid HP.out.mod
    obtain ⟨av, nv, cv, hvv⟩ : ∃ a n c, u3 = .slice a n c := by
      obtain ⟨a, c, e, _⟩ := HP.out.seg.shape
      exact ⟨_, _, _, e⟩
    subst hvv
    by_cases hkn : k < n
    · obtain ⟨x, hx⟩ : ∃ x, ks[k]? = some x := ⟨_, List.getElem?_eq_getElem (by rw [← HN.out]; exact hkn)⟩
      have HT2 := Lib.hid (take_snoc hx)
      have hcx := HCN.out x (List.mem_of_getElem? hx)
      have hrd := HV.out.seg.rdS
      rw [← HN.out] at hrd
      obtain ⟨b, off, rfl, hb, p0⟩ := hrd.cell ak ck rfl k (.int .u32 (x : Int)) (by rw [List.getElem?_map, hx]; rfl)
      have p0 := HM.out.cell p0
      have HOF := Lib.hid (fun w' (mm : Mod (fun _ => False) w w') => of_any g bh bn Z en c m x w' (HT.out.keep mm) hcx.1)
      have HOF1 := Lib.hid (HOF.out wr (HV.out.mod.trans HP.out.mod))
      have hlg : (glist (namesZ Z) c (ks.take k)).length ≤ k := Nat.le_trans (glist_length _ _ _) (by rw [List.length_take]; omega)
      have HLG := Lib.hid hlg
      clear hx hrd hb hlg HOF
      have HG1 : Hid (glist (namesZ Z) c (ks.take (k + 1)) = if (getG x (namesZ Z)).isSome then glist (namesZ Z) c (ks.take k) else glist (namesZ Z) c (ks.take k) ++ [(x, c x)]) := Lib.hid (by rw [HT2.out, glist_snoc])
      by_cases hh : (getG x (namesZ Z)).isSome = true
      · have HO0 : Hid (ofC (namesZ Z) c x = 0) := Lib.hid (by unfold ofC; rw [if_pos hh])
        have HG2 := HG1.out
        rw [if_pos hh] at HG2
        have HG3 := Lib.hid HG2
        rw [HO0.out] at HOF1
        clear HG2 hh hcx
        go_wp2_with (go_at_call 29; refine HOF1.out.mono ?_; (rintro e w5 ⟨rfl, hm5⟩); have HM5 := Lib.hid hm5; clear hm5)
        go_roundw
        case rel => exact ⟨k + 1, by go_num, by omega, by rw [HG3.out]; exact HP.out.keep HM5.out⟩
        case measure => simp [intOf]; omega
      · have HO0 : Hid (ofC (namesZ Z) c x = c x) := Lib.hid (by unfold ofC; rw [if_neg hh])
        have HG2 := HG1.out
        rw [if_neg hh] at HG2
        have HG3 := Lib.hid HG2
        rw [HO0.out] at HOF1
        have hcx2 := hcx.2
        clear HG2 hh hcx
        go_wp2_with (first
          | (go_at_call 29; refine HOF1.out.mono ?_; (rintro e w5 ⟨rfl, hm5⟩); have HM5 := Lib.hid hm5; clear hm5; have HP5 := Lib.hid (HP.out.keep HM5.out); (have HSR := Lib.hid (src_cells (w := w5) rfl (size := 2) 60 #[.int .u32 (x : Int), .int .i64 (c x : Int)] rfl (by simp [Value.oneCell']))); have HA := Lib.hid (HP5.out.seg.alloc (.cells #[.int .u32 (x : Int), .int .i64 (c x : Int)] 60)))
          | (at_builtin; refine wpList_append_seg rfl (.tmp 25) (.tmp 29) 57 rfl i0 _ 2 16 Try.underlying57 HI.out.1 HI.out.2.1 HI.out.2.2.1 HI.out.2.2.2 rfl (by decide) rfl HA.out _ 1 _ rfl HSR.out (by have := HLG.out; unfold maxLen; omega) (by have := HLG.out; omega) ?_; (intro v3 w3 hs3 hg3 ho3)
             have H3 := Lib.hid (HP5.out.snoc (p := (x, c x)) hs3 hg3 ho3)
             obtain ⟨a3, n3, c3, rfl⟩ : ∃ a n c, v3 = .slice a n c := (by obtain ⟨a, c, e, _⟩ := hs3.shape; exact ⟨_, _, _, e⟩)
             clear hs3 hg3 ho3))
        go_roundw
        case rel => exact ⟨k + 1, by go_num, by omega, by rw [HG3.out]; exact H3.out⟩
        case measure => simp [intOf]; omega
    · have HE : Hid (ks.take k = ks) := Lib.hid (List.take_of_length_le (by have := HN.out; omega))
      have HP2 := HP.out
      rw [HE.out] at HP2
      have HP3 := Lib.hid HP2
      clear HP2
      go_wp2
      go_ret
      exact ⟨_, rfl, HP3.out.seg, fun b hb => Nat.le_trans HV.out.mod.size (HP3.out.own b hb), HV.out.mod.trans HP3.out.mod⟩
end Go.Proofs.Ytdblilhkojafgaa
