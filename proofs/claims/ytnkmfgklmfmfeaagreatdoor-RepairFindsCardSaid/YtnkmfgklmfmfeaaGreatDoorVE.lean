/- VE: what is needed of it (by shake.py). -/
import Derived.Test.YtnkmfgklmfmfeaaGreatDoorVD

/- VE, as far as the seat goes. -/
/- V16, V17 in one. -/
/- repair.Compare: the reports, in order; the state of its loops. -/
namespace Go.Proofs.YtnkmfgklmfmfeaaGreatDoor
set_option linter.unusedVariables false
open Go.RowKit
structure Rep where
  kind : Nat
  node : Nat
  id : Nat
  far : Nat
def Rep.cells (r : Rep) : List Value := [.int .u8 (r.kind : Int), .int .i64 (r.node : Int), .int .u32 (r.id : Int), .int .u32 (r.far : Int)]
def rcells (l : List Rep) : List Value := l.flatMap Rep.cells
theorem rcells_snoc (l : List Rep) (r : Rep) : rcells (l ++ [r]) = rcells l ++ r.cells := by simp [rcells]
theorem rcells_get : ∀ (l : List Rep) (i j : Nat) (x : Rep), l[i]? = some x → j < 4 → (rcells l)[i * 4 + j]? = x.cells[j]?
  | [], i, j, x, h, _ => by simp at h
  | y :: r, 0, j, x, h, hj => by
    simp at h
    subst h
    show (y.cells ++ rcells r)[0 * 4 + j]? = _
    rw [Nat.zero_mul, Nat.zero_add, List.getElem?_append_left (by simpa [Rep.cells] using hj)]
  | y :: r, i + 1, j, x, h, hj => by
    simp at h
    show (y.cells ++ rcells r)[(i + 1) * 4 + j]? = _
    rw [List.getElem?_append_right (by simp [Rep.cells]; omega)]
    have e : (i + 1) * 4 + j - y.cells.length = i * 4 + j := by simp [Rep.cells]; omega
    rw [e]
    exact rcells_get r i j x h hj
/-- Is a vertex held ahead of this place? -/
def preR (ps : List (Nat × Vs)) (p : Nat × Vs) : List Rep := if (seatF ps p.2.x.id).map (·.1) = some p.1 then [] else [⟨1, p.1, p.2.x.id, 0⟩]
def halfR (ps : List (Nat × Vs)) (all : Bool) (p : Nat × Vs) (h : Ent) : List Rep := if judgeN ps p.2.x.id h all = 0 then [] else [⟨judgeN ps p.2.x.id h all, p.1, p.2.x.id, h.key⟩]
def repOf (ps : List (Nat × Vs)) (all : Bool) (p : Nat × Vs) : List Rep := preR ps p ++ p.2.x.halves.flatMap (halfR ps all p)
def allR (ps : List (Nat × Vs)) (all : Bool) : List Rep := ps.flatMap (repOf ps all)
theorem flat_succ {α β : Type} (g : α → List β) {l : List α} {i : Nat} {x : α} (h : l[i]? = some x) : (l.take (i + 1)).flatMap g = (l.take i).flatMap g ++ g x := by
  obtain ⟨hn, rfl⟩ := List.getElem?_eq_some_iff.1 h
  rw [List.take_succ_eq_append_getElem hn, List.flatMap_append]
  simp
theorem flat_take_le {α β : Type} (g : α → List β) (l : List α) (i : Nat) : ((l.take i).flatMap g).length ≤ (l.flatMap g).length := by
  conv => rhs; rw [← List.take_append_drop i l, List.flatMap_append, List.length_append]
  omega
theorem part_prefix {up : List Bool} {ls : List Ls} {k : Nat} {s : Ls} (h : ls[k]? = some s) (hu : up[k]? = some true) (j : Nat) : ∃ r, held up 0 ls = part up ls k s.l j ++ r := by
  have h1 := held_append up (ls.take (k + 1)) (ls.drop (k + 1)) 0
  rw [List.take_append_drop] at h1
  rw [h1, show held up 0 (ls.take (k + 1)) = heldTo up ls (k + 1) from rfl, heldTo_succ up ls k s h, if_pos hu]
  refine ⟨(s.l.drop j).map (fun x => (k, x)) ++ held up (0 + (ls.take (k + 1)).length) (ls.drop (k + 1)), ?_⟩
  simp only [part]
  rw [← List.append_assoc]
  congr 1
  rw [List.append_assoc, ← List.map_append, List.take_append_drop]
theorem part_flat_le {β : Type} (f : Nat × Vs → List β) {up : List Bool} {ls : List Ls} {k : Nat} {s : Ls} (h : ls[k]? = some s) (hu : up[k]? = some true) (j : Nat) : ((part up ls k s.l j).flatMap f).length ≤ ((held up 0 ls).flatMap f).length := by
  obtain ⟨r, hr⟩ := part_prefix h hu j
  rw [hr, List.flatMap_append, List.length_append]
  omega
theorem mid_le {ps : List (Nat × Vs)} {all : Bool} {up : List Bool} {ls : List Ls} {k j : Nat} {s : Ls} {y : Vs} (h : ls[k]? = some s) (hu : up[k]? = some true) (hy : s.l[j]? = some y) (i : Nat) :
    ((part up ls k s.l j).flatMap (repOf ps all) ++ preR ps (k, y) ++ (y.x.halves.take i).flatMap (halfR ps all (k, y))).length ≤ ((held up 0 ls).flatMap (repOf ps all)).length := by
  have h1 := part_flat_le (repOf ps all) h hu (j + 1)
  rw [part_succ hy, List.flatMap_append, List.length_append] at h1
  have h2 := flat_take_le (halfR ps all (k, y)) y.x.halves i
  simp only [List.flatMap_cons, List.flatMap_nil, List.append_nil, repOf, List.length_append] at h1 ⊢
  omega
theorem pre_le {ps : List (Nat × Vs)} {all : Bool} {up : List Bool} {ls : List Ls} {k j : Nat} {s : Ls} {y : Vs} (h : ls[k]? = some s) (hu : up[k]? = some true) (hy : s.l[j]? = some y) :
    ((part up ls k s.l j).flatMap (repOf ps all) ++ preR ps (k, y)).length ≤ ((held up 0 ls).flatMap (repOf ps all)).length := by
  have := mid_le (ps := ps) (all := all) h hu hy 0
  simpa using this
theorem mid_all {ps : List (Nat × Vs)} {all : Bool} {up : List Bool} {ls : List Ls} {k j : Nat} {l : List Vs} {y : Vs} (hy : l[j]? = some y) {i : Nat} (hi : y.x.halves.length ≤ i) :
    (part up ls k l j).flatMap (repOf ps all) ++ preR ps (k, y) ++ (y.x.halves.take i).flatMap (halfR ps all (k, y)) = (part up ls k l (j + 1)).flatMap (repOf ps all) := by
  rw [part_succ hy, List.flatMap_append, List.take_of_length_le hi]
  simp [repOf]
theorem part_all {up : List Bool} {ls : List Ls} {k j : Nat} {s : Ls} (h : ls[k]? = some s) (hu : up[k]? = some true) (hj : s.l.length ≤ j) : part up ls k s.l j = heldTo up ls (k + 1) := by
  rw [heldTo_succ up ls k s h, if_pos hu, part, List.take_of_length_le hj]
theorem part_zero (up : List Bool) (ls : List Ls) (k : Nat) (l : List Vs) : part up ls k l 0 = heldTo up ls k := by simp [part]
theorem heldTo_skip {up : List Bool} {ls : List Ls} {k : Nat} {s : Ls} (h : ls[k]? = some s) (hu : up[k]? = some false) : heldTo up ls (k + 1) = heldTo up ls k := by
  rw [heldTo_succ up ls k s h, hu]; simp
theorem part_seat {up : List Bool} {ls : List Ls} {k j : Nat} {s : Ls} {y : Vs} (h : ls[k]? = some s) (hu : up[k]? = some true) (hy : s.l[j]? = some y) : ∃ q, seatF (held up 0 ls) y.x.id = some q := by
  obtain ⟨r, hr⟩ := part_prefix h hu (j + 1)
  have hm : (k, y) ∈ held up 0 ls := by rw [hr, part_succ hy]; simp
  cases hs : seatF (held up 0 ls) y.x.id with
  | some q => exact ⟨q, rfl⟩
  | none =>
    have := List.find?_eq_none.1 hs (k, y) hm
    simp at this
/-- The state of Compare's loops: the map of seats lies at bm, the reports so far are reps. -/
structure CAt (w : World) (bm : Nat) (es : Ents) (vo : Value) (reps : List Rep) (wr : World) : Prop where
  mod : Mod (fun _ => False) w wr
  bmge : w.heap.size ≤ bm
  map : UMap Tryz.prog 28 .u32 wr bm es
  out : Seg wr 52 4 vo reps.length (rcells reps)
  own : ∀ b, vo.ownBlock = some b → w.heap.size ≤ b ∧ b ≠ bm
theorem CAt.more {w wr wy : World} {bm : Nat} {es : Ents} {vo : Value} {reps : List Rep} (h : CAt w bm es vo reps wr) (m : Mod (fun _ => False) wr wy) : CAt w bm es vo reps wy :=
  ⟨h.mod.trans m, h.bmge, h.map.keep m, h.out.mod m (fun _ _ f => f), h.own⟩
theorem CAt.app {w wr wy : World} {bm : Nat} {es : Ents} {vo v' : Value} {reps : List Rep} (r : Rep) (h : CAt w bm es vo reps wr) (hs : Seg wy 52 4 v' (reps.length + 1) (rcells reps ++ r.cells)) (hg : wr.grownBy wy vo.ownBlock)
    (ho : v'.ownBlock = vo.ownBlock ∨ v'.ownBlock = some wr.heap.size) : CAt w bm es v' (reps ++ [r]) wy := by
  refine ⟨h.mod.grown hg (fun b hb hlt => ?_), h.bmge, ?_, ?_, fun b hb => ?_⟩
  · have := (h.own b hb).1; omega
  · exact h.map.mod (S := fun k => some k = vo.ownBlock) ⟨hg.os, hg.tape, hg.output, hg.size, fun k hk hne => hg.block k hk hne⟩ (fun e => (h.own bm e.symm).2 rfl)
  · rw [rcells_snoc, List.length_append]; exact hs
  · rcases ho with ho | ho
    · exact h.own b (by rw [← ho]; exact hb)
    · rw [ho] at hb
      injection hb with hb
      have h1 := h.map.lt
      have h2 := h.mod.size
      omega
/-- A block of one's own, kept by an append. -/
theorem CAt.kept {w wr wy : World} {bm : Nat} {es : Ents} {vo : Value} {reps : List Rep} (h : CAt w bm es vo reps wr) (hg : wr.grownBy wy vo.ownBlock) {b : Nat} {o : Obj} (hb : wr.heap[b]? = some o) (hne : vo.ownBlock ≠ some b) : wy.heap[b]? = some o :=
  (hg.block b (lt_of_block hb) (fun e => hne e.symm)).trans hb
theorem infoRep : (Tryz.prog.info? 52).map (fun i => (i.zero, i.size, i.bytes)) = some (some (.agg #[.int .u8 0, .int .i64 0, .int .u32 0, .int .u32 0]), 4, 24) := by kernel_rfl
theorem Rep.ones (r : Rep) : ∀ u ∈ r.cells, u.oneCell' = true := by
  intro u hu
  simp only [Rep.cells, List.mem_cons, List.not_mem_nil, or_false] at hu
  rcases hu with rfl | rfl | rfl | rfl <;> rfl
theorem field_seat (w : World) (a : Int) (k : IntKind) (b c d e : Value) : (Instr.field 94 (.agg #[.int k a, b, c, d, e]) 0).run Tryz.prog w = .ok (.int k a) w := by
  simp [Instr.field, run_underlying Tryz.underlying94, go_sem, asAgg]
/-- One report, just laid. -/
theorem src_rep {w : World} {n0 : Nat} (hn : w.heap.size = n0) (r : Rep) : Src (w.alloc (.cells #[.int .u8 (r.kind : Int), .int .i64 (r.node : Int), .int .u32 (r.id : Int), .int .u32 (r.far : Int)] 52)) 4 (.slice (some ⟨n0, 0, none⟩) 1 1) 1 r.cells := by
  subst hn
  exact Src.one (size := 4) w #[.int .u8 (r.kind : Int), .int .i64 (r.node : Int), .int .u32 (r.id : Int), .int .u32 (r.far : Int)] 52 1 1 rfl (Rep.ones r)
theorem own_ne {vo v' : Value} {w : World} {b : Nat} (ho : v'.ownBlock = vo.ownBlock ∨ v'.ownBlock = some w.heap.size) (h : vo.ownBlock ≠ some b) (hb : b < w.heap.size) : v'.ownBlock ≠ some b := by
  rcases ho with e | e
  · rw [e]; exact h
  · rw [e]; intro e'; injection e' with e'; omega
end Go.Proofs.YtnkmfgklmfmfeaaGreatDoor
/- repair.Compare: what doesn't match. -/
namespace Go.Proofs.YtnkmfgklmfmfeaaGreatDoor
set_option linter.unusedVariables false
open Go.RowKit
/-- What Compare gives back: new memory, the reports. -/
structure Told (w : World) (vo : Value) (reps : List Rep) (w' : World) : Prop where
  mod : Mod (fun _ => False) w w'
  out : Seg w' 52 4 vo reps.length (rcells reps)
  own : ∀ b, vo.ownBlock = some b → w.heap.size ≤ b
set_option maxRecDepth 100000 in
set_option maxHeartbeats 4000000 in
theorem compare_good (v vu : Value) (ls : List Ls) (up : List Bool) (w : World) (hv : LLRd w v ls) (hu : FRd w vu up) (hl : up.length = ls.length) (h4 : ls.length ≤ 4) (hs : ∀ s ∈ ls, s.l.length < 999999) (hok : ls.any notOK = false)
    (hh : (held up 0 ls).length < maxLen) (hr : (allR (held up 0 ls) (!up.any (!·))).length ≤ 1000000) :
    Calls Tryz.prog 12 #[v, vu] w fun e w' => ∃ vo, e = .returned (.tuple #[vo, .int .i64 0]) ∧ Told w vo (allR (held up 0 ls) (!up.any (!·))) w' := by
  have HC := Lib.hid (contL_any v ls w hv hs)
  rw [hok] at HC
  have HV := Lib.hid hv
  have HU := Lib.hid hu
  have HSE : Hid (∀ w', Mod (fun _ => False) w w' → _) := Lib.hid (fun w' m => seats_any v vu ls up w' (hv.keep m) (hu.keep m) (by omega) hh)
  have HCF : Hid (∀ w', Mod (fun _ => False) w w' → _) := Lib.hid (fun w' m => contF_any vu up w' (hu.keep m))
  obtain ⟨a, c, rfl, hc1, hc2, -⟩ := hv.row.shape
  obtain ⟨au, cu, rfl, hcu1, hcu2, -⟩ := (show RdS _ _ _ _ _ from hu).shape
  have HUL := Lib.hid hl
  rw [hl] at hcu1 HU HSE HCF ⊢
  obtain ⟨q, hq⟩ : ∃ q, q = up.any (!·) := ⟨_, rfl⟩
  rw [← hq] at hr HCF ⊢
  clear hv hu hl hs hok hh hq
  have HR := Lib.hid hr
  clear hr
  obtain ⟨n, hn⟩ : ∃ n, n = ls.length := ⟨_, rfl⟩
  have HN := Lib.hid hn
  rw [← hn] at HC HV HU HSE HCF HUL hc1 hcu1 h4 ⊢
  clear hn
  have t4 : ¬ ((4 : Int) < (n : Int)) := by omega
  obtain ⟨i0, hi, hz0, hz1, hz2⟩ := info_parts infoRep
  have HI : Hid (Tryz.prog.info? 52 = some i0 ∧ i0.zero = some (.agg #[.int .u8 0, .int .i64 0, .int .u32 0, .int .u32 0]) ∧ i0.size = 4 ∧ i0.bytes = 24) := ⟨hi, hz0, hz1, hz2⟩
  clear hi hz0 hz1 hz2
  go_enter Tryz.func12, Tryz.ntmps12
  go_wp2_with (first
    | (go_at_call 26; refine HC.out.mono ?_; rintro e w3 ⟨rfl, hm⟩; have M3 := Lib.hid hm; clear hm)
    | (go_at_call 29; refine (HSE.out _ M3.out).mono ?_; rintro e w4 ⟨rfl, hm⟩; have M4 := Lib.hid hm; clear hm)
    | (go_at_call 30; refine (HCF.out _ (M3.out.trans M4.out.mod)).mono ?_; rintro e w5 ⟨rfl, hm⟩; have M5 := Lib.hid hm; clear hm))
  clear HC HSE HCF
  obtain ⟨es, hU, hT, hEL⟩ := M4.out.map
  have HT := Lib.hid hT
  have HC0 : Hid (CAt w w3.heap.size es (.slice none 0 0) [] w5) := Lib.hid ⟨(M3.out.trans M4.out.mod).trans M5.out, M3.out.size, hU.keep M5.out, Seg.nil _ _ _, fun b hb => by simp [Value.ownBlock] at hb⟩
  clear hU hT hEL M3 M4 M5
  generalize w3.heap.size = bm at HC0 ⊢
  have HJU : Hid (∀ w', Mod (fun _ => False) w w' → UMap Tryz.prog 28 .u32 w' bm es → ∀ (x : Vtx) (vp vh : Value) (h : Ent) (all : Bool), VRd w' vp vh x → h.key < 4294967296 → Calls Tryz.prog 31 #[.map (some bm), vtxV x vp vh, h.v .u32, .bool all] w' fun e w'' => e = .returned (.int .u8 (judgeN (held up 0 ls) x.id h all : Int)) ∧ Mod (fun _ => False) w' w'') :=
    Lib.hid (fun w' m hU x vp vh h all hx hf => judge_any (held up 0 ls) es bm x vp vh h all w' hU HT.out hx (fun p hp => by
      obtain ⟨s, hs, hm⟩ := held_mem up _ 0 p hp
      exact ((HV.out.each s hs).each _ hm).keep m) hf)
  go_loopw [36, 8] (fun i o wr => ∃ k : Nat, i = .int .i64 k ∧ k ≤ n ∧ CAt w bm es o ((heldTo up ls k).flatMap (repOf (held up 0 ls) (!q))) wr) (fun i _ _ => n - (intOf i).toNat)
  case atStart => exact ⟨0, rfl, Nat.zero_le _, by simpa [heldTo, held] using HC0.out⟩
  case round =>
    obtain ⟨k, rfl, hk, hm⟩ := hrel
    have HM := Lib.hid hm
    clear hm HC0
    by_cases hkn : k < n
    · obtain ⟨x, hx⟩ : ∃ x, ls[k]? = some x := ⟨_, List.getElem?_eq_getElem (by rw [← HN.out]; exact hkn)⟩
      obtain ⟨u, hu⟩ : ∃ u, up[k]? = some u := ⟨_, List.getElem?_eq_getElem (by rw [HUL.out]; exact hkn)⟩
      have HX := Lib.hid hx
      have HUX := Lib.hid hu
      obtain ⟨b, off, rfl, hb, p0⟩ := HV.out.ent hx rfl
      obtain ⟨bu, offu, rfl, hbu, q0⟩ := HU.out.ent hu rfl
      have p0 := HM.out.mod.cell p0
      have q0 := HM.out.mod.cell q0
      have HL := Lib.hid (HV.out.at hx)
      obtain ⟨xv, xl⟩ := x
      simp only at p0 HL
      obtain ⟨al, cl, rfl, hcl1, hcl2, -⟩ := HL.out.row.shape
      obtain ⟨m, hm⟩ : ∃ m, m = xl.length := ⟨_, rfl⟩
      have HML := Lib.hid hm
      rw [← hm] at p0 HL hcl1
      clear hx hu hm
      obtain ⟨ao, co, no, rfl⟩ : ∃ ao co no, u8 = .slice ao no co := by
        obtain ⟨a, c, e, _⟩ := HM.out.out.shape
        exact ⟨_, _, _, e⟩
      cases u with
      | false =>
        have HS := Lib.hid (heldTo_skip HX.out HUX.out)
        go_wp2
        go_roundw
        case rel => exact ⟨k + 1, by go_num, by omega, by rw [HS.out]; exact HM.out⟩
        case measure => simp [intOf]; omega
      | true =>
        have HM : Hid (CAt w bm es (.slice ao no co) ((part up ls k xl 0).flatMap (repOf (held up 0 ls) (!q))) wr) := Lib.hid (by rw [part_zero]; exact HM.out)
        go_wp2
        go_loopw [48, 8] (fun i o wr => ∃ j : Nat, i = .int .i64 j ∧ j ≤ m ∧ CAt w bm es o ((part up ls k xl j).flatMap (repOf (held up 0 ls) (!q))) wr) (fun i _ _ => m - (intOf i).toNat)
        case atStart => exact ⟨0, rfl, Nat.zero_le _, HM.out⟩
        case round =>
          obtain ⟨j, rfl, hj, hm⟩ := hrel
          have HJ := Lib.hid hm
          clear hm HM p0 q0
          obtain ⟨ao', co', no', rfl⟩ : ∃ ao co no, u8 = .slice ao no co := by
            obtain ⟨a, c, e, _⟩ := HJ.out.out.shape
            exact ⟨_, _, _, e⟩
          by_cases hjm : j < m
          · obtain ⟨wo, hwo⟩ : ∃ wo : World, wo = wr := ⟨_, rfl⟩
            obtain ⟨y, hy⟩ : ∃ y, xl[j]? = some y := ⟨_, List.getElem?_eq_getElem (by rw [← HML.out]; exact hjm)⟩
            have HY := Lib.hid hy
            obtain ⟨bl, offl, rfl, hbl, r0, r1, r2, r3⟩ := HL.out.ent hy rfl
            have r0 := HJ.out.mod.cell r0
            have r1 := HJ.out.mod.cell r1
            have r2 := HJ.out.mod.cell r2
            have r3 := HJ.out.mod.cell r3
            have HVR := Lib.hid (HL.out.at hy)
            have HK := Lib.hid (u32key HVR.out.fits.id)
            obtain ⟨⟨pn, px⟩, hp⟩ := part_seat HX.out HUX.out HY.out
            obtain ⟨sp, hsp, hmp⟩ := held_mem up _ 0 _ (List.mem_of_find?_eq_some hp)
            have HPR := Lib.hid ((HV.out.each sp hsp).each _ hmp)
            have hg : getL y.x.id es = some (seatV (pn, px)) := by rw [HT.out, hp]; rfl
            have HLK : Hid (∀ w', Mod (fun _ => False) wr w' → (Instr.lookup 90 (.map (some bm)) (.int .u32 (y.x.id : Int)) false).run Tryz.prog w' = .ok (seatV (pn, px)) w') := Lib.hid (by
              intro w' mm
              have := (HJ.out.map.keep mm).get Tryz.underlying28 Tryz.underlying90 (zero_seat w') HK.out
              rw [hg] at this
              simpa using this)
            have HPRE : Hid (preR (held up 0 ls) (k, y) = if pn = k then [] else [⟨1, k, y.x.id, 0⟩]) := Lib.hid (by
              unfold preR
              rw [show (k, y).2.x.id = y.x.id from rfl, hp]
              by_cases h : pn = k <;> simp [h])
            have HG : Hid (∀ h, halfR (held up 0 ls) (!q) (k, y) h = if judgeN (held up 0 ls) y.x.id h (!q) = 0 then [] else [⟨judgeN (held up 0 ls) y.x.id h (!q), k, y.x.id, h.key⟩]) := Lib.hid (fun h => rfl)
            have HPL : Hid (_ ≤ 1000000) := Lib.hid (Nat.le_trans (pre_le (ps := held up 0 ls) (all := !q) HX.out HUX.out HY.out) HR.out)
            have HLE : Hid (∀ i, _ ≤ 1000000) := Lib.hid (fun i => Nat.le_trans (mid_le (ps := held up 0 ls) (all := !q) HX.out HUX.out HY.out i) HR.out)
            have HMA : Hid (∀ i, y.x.halves.length ≤ i → _) := Lib.hid (fun i hi => mid_all (ps := held up 0 ls) (all := !q) (up := up) (ls := ls) (k := k) HY.out (i := i) hi)
            have HNX : Hid (∀ i h, y.x.halves[i]? = some h → _) := Lib.hid (fun i h hi => flat_succ (halfR (held up 0 ls) (!q) (k, y)) (l := y.x.halves) (i := i) (x := h) hi)
            simp only at HPL HLE HMA
            generalize hA : (part up ls k xl j).flatMap (repOf (held up 0 ls) (!q)) = A at HJ HPL HLE HMA
            generalize hpre : preR (held up 0 ls) (k, y) = pre at HPRE HPL HLE HMA
            generalize hGG : halfR (held up 0 ls) (!q) (k, y) = G at HG HLE HMA HNX
            clear hy hp hg hsp hmp hA hpre hGG
            obtain ⟨⟨id, there, xs, ys⟩, vp, vh⟩ := y
            obtain ⟨⟨pid, pthere, pps, phs⟩, pvp, pvh⟩ := px
            simp only at HPR HVR r0 r1 r2 r3 HLK HPRE HG HLE HMA HNX
            obtain ⟨np', ap', cp', rfl⟩ : ∃ np ap cp, pvp = .slice ap np cp := by
              obtain ⟨a, c, e, _⟩ := HPR.out.props.shape
              exact ⟨_, _, _, e⟩
            obtain ⟨nh', ah', ch', rfl⟩ : ∃ np ap cp, pvh = .slice ap np cp := by
              obtain ⟨a, c, e, _⟩ := HPR.out.halves.shape
              exact ⟨_, _, _, e⟩
            obtain ⟨np, ap, cp, rfl⟩ : ∃ np ap cp, vp = .slice ap np cp := by
              obtain ⟨a, c, e, _⟩ := HVR.out.props.shape
              exact ⟨_, _, _, e⟩
            obtain ⟨nh, hnh⟩ : ∃ nh, nh = ys.length := ⟨_, rfl⟩
            have HNH := Lib.hid hnh
            obtain ⟨ah, ch, rfl, hch1, hch2, -⟩ : ∃ ah ch, vh = .slice ah nh ch ∧ nh ≤ ch ∧ ch ≤ 9223372036854775807 ∧ True := by
              obtain ⟨a, c, e, h1, h2, _⟩ := HVR.out.halves.shape
              exact ⟨_, _, by rw [hnh]; exact e, by rw [hnh]; exact h1, h2, trivial⟩
            clear hnh HPR
            have hlk := HLK.out _ ((Mod.refl (fun _ => False) wr).alloc (.cells #[.int .u32 (id : Int), .bool there, .slice ap np cp, .slice ah nh ch] 44))
            simp only [seatV] at hlk
            have hfs := field_seat (wr.alloc (.cells #[.int .u32 (id : Int), .bool there, .slice ap np cp, .slice ah nh ch] 44)) (pn : Int) .i64 (.int .u32 (pid : Int)) (.bool pthere) (.slice ap' np' cp') (.slice ah' nh' ch')
            have zbl : bl < wr.heap.size := Nat.lt_of_lt_of_le hbl HJ.out.mod.size
            have zbm : bm < wr.heap.size := HJ.out.map.lt
            have HOB : Hid (∀ b, (Value.slice ao' no' co').ownBlock = some b → b < wr.heap.size) := Lib.hid HJ.out.out.lt
            have HJ1 := Lib.hid (HJ.out.more ((Mod.refl (fun _ => False) wr).alloc (.cells #[.int .u32 (id : Int), .bool there, .slice ap np cp, .slice ah nh ch] 44)))
            go_upto_if 58 with fail
            go_cut [8] (fun o wx => CAt w bm es o (A ++ pre) wx ∧ wx.heap[wo.heap.size]? = some (.cells #[.int .u32 (id : Int), .bool there, .slice ap np cp, .slice ah nh ch] 44 (0, 0)) ∧ o.ownBlock ≠ some wo.heap.size)
            case first =>
              subst hwo
              by_cases hpk : pn = k
              · have HPE : Hid (pre = []) := Lib.hid (by rw [HPRE.out, if_pos hpk])
                clear HPRE
                subst hpk
                go_wp2
                go_meet
                exact ⟨by rw [HPE.out, List.append_nil]; exact HJ1.out, heap_alloc_new' _ _, fun e => Nat.lt_irrefl _ (HOB.out _ e)⟩
              · have HPRE : Hid (pre = [⟨1, k, id, 0⟩]) := Lib.hid (by rw [HPRE.out, if_neg hpk])
                have tpk : ¬ ((pn : Int) = (k : Int)) := by omega
                rw [HPRE.out] at HPL
                have HPL : Hid (A.length + 1 ≤ 1000000) := Lib.hid (by have := HPL.out; rw [List.length_append] at this; exact this)
                have HJ2 := Lib.hid (HJ1.out.more ((Mod.refl (fun _ => False) _).alloc (.cells #[.int .u8 1, .int .i64 (k : Int), .int .u32 (id : Int), .int .u32 0] 52)))
                have HSRC := Lib.hid (src_rep (w := wo.alloc (.cells #[.int .u32 (id : Int), .bool there, .slice ap np cp, .slice ah nh ch] 44)) (n0 := wo.heap.size + 1) (by simp) ⟨1, k, id, 0⟩)
                go_wp2_with (at_builtin; refine wpList_append_seg rfl (.tmp 59) (.tmp 64) 47 rfl i0 _ 4 24 Tryz.underlying47 HI.out.1 HI.out.2.1 HI.out.2.2.1 HI.out.2.2.2 rfl (by decide) rfl HJ2.out.out _ 1 _ rfl HSRC.out (by have := HPL.out; unfold maxLen; omega) (by have := HPL.out; omega) ?_; intro v3 w3 hs3 hg3 ho3; have HJ3 := Lib.hid (HJ2.out.app ⟨1, k, id, 0⟩ hs3 hg3 ho3); have HB3 := Lib.hid (HJ2.out.kept hg3 (heap_alloc_old (heap_alloc_new' _ _)) (fun e => Nat.lt_irrefl _ (HOB.out _ e))); have HN3 := Lib.hid (own_ne ho3 (fun e => Nat.lt_irrefl _ (HOB.out _ e)) (by simp; omega)); (obtain ⟨a3, c3, n3, rfl⟩ : ∃ a c n, v3 = .slice a n c := (by obtain ⟨a, c, e, _⟩ := hs3.shape; exact ⟨_, _, _, e⟩)); clear hs3 hg3 ho3)
                go_meet
                exact ⟨by rw [HPRE.out]; exact HJ3.out, HB3.out, HN3.out⟩
            case rest =>
              subst hwo
              obtain ⟨hca, hbx, hne⟩ := hcut
              have HNE := Lib.hid hne
              have HCA := Lib.hid hca
              have e0 := cell_of_row hbx 0
              have e1 := cell_of_row hbx 1
              have e2 := cell_of_row hbx 2
              have e3 := cell_of_row hbx 3
              simp at e0 e1 e2 e3
              have zwo : wo.heap.size < wc.heap.size := lt_of_block hbx
              have HBX := Lib.hid hbx
              have HSZ : Hid (w.heap.size ≤ wo.heap.size) := Lib.hid HJ.out.mod.size
              have HBM : Hid (bm < wo.heap.size) := Lib.hid zbm
              have HOA : Hid (∀ b, (Value.slice ao' no' co').ownBlock = some b → b < wo.heap.size) := HOB
              clear hlk hfs HLK hca hbx hne HJ1 HOB HPRE HPL zbl zbm r0 r1 r2 r3
              obtain ⟨av, cv, nv, hov⟩ : ∃ ao co no, u8 = .slice ao no co := by
                obtain ⟨a, c, e, _⟩ := HCA.out.out.shape
                exact ⟨_, _, _, e⟩
              subst hov
              go_wp2
              go_loopw [69, 8] (fun i o wr' => ∃ g : Nat, i = .int .i64 g ∧ g ≤ nh ∧ CAt w bm es o (A ++ pre ++ (ys.take g).flatMap G) wr' ∧ wr'.heap[wo.heap.size]? = some (.cells #[.int .u32 (id : Int), .bool there, .slice ap np cp, .slice ah nh ch] 44 (0, 0)) ∧ o.ownBlock ≠ some wo.heap.size) (fun i _ _ => nh - (intOf i).toNat)
              case atStart => exact ⟨0, rfl, Nat.zero_le _, by simpa using HCA.out, HBX.out, HNE.out⟩
              case round =>
                obtain ⟨g, rfl, hg, hm, hbx, hne⟩ := hrel
                have HM6 := Lib.hid hm
                have HBX6 := Lib.hid hbx
                have HNE6 := Lib.hid hne
                clear hm hbx hne HBX HCA HNE e0 e1 e2 e3 zwo
                obtain ⟨av, cv, nv, hov⟩ : ∃ ao co no, u8 = .slice ao no co := by
                  obtain ⟨a, c, e, _⟩ := HM6.out.out.shape
                  exact ⟨_, _, _, e⟩
                subst hov
                by_cases hgn : g < nh
                · obtain ⟨h, hh⟩ : ∃ h, ys[g]? = some h := ⟨_, List.getElem?_eq_getElem (by rw [← HNH.out]; exact hgn)⟩
                  have HH := Lib.hid hh
                  obtain ⟨bh, offh, rfl, hbh, s0, s1, s2, s3⟩ := HVR.out.halves.ent (a := ah) (c := ch) hh (by rw [HNH.out])
                  have s0 := HM6.out.mod.cell s0
                  have s1 := HM6.out.mod.cell s1
                  have s2 := HM6.out.mod.cell s2
                  have s3 := HM6.out.mod.cell s3
                  have zbh : bh < wr.heap.size := Nat.lt_of_lt_of_le hbh HM6.out.mod.size
                  have zwo : wo.heap.size < wr.heap.size := lt_of_block HBX6.out
                  have e0 := cell_of_row HBX6.out 0
                  have e1 := cell_of_row HBX6.out 1
                  have e2 := cell_of_row HBX6.out 2
                  have e3 := cell_of_row HBX6.out 3
                  simp at e0 e1 e2 e3
                  have HKF := Lib.hid (HVR.out.fits.halves h (List.mem_of_getElem? hh)).1
                  have HNXg := Lib.hid (HNX.out g h hh)
                  have HLEg := Lib.hid (HLE.out (g + 1))
                  have HGh := Lib.hid (HG.out h)
                  clear hh
                  obtain ⟨key, vk, vn, vs⟩ := h
                  simp only at s0 s1 s2 s3 HKF HGh
                  have HJX : Hid (Calls Tryz.prog 31 #[.map (some bm), .agg #[.int .u32 (id : Int), .bool there, .slice ap np cp, .slice (some ⟨bh, offh, none⟩) nh ch], .agg #[.int .u32 (key : Int), .int .u8 (vk : Int), .int .i64 vn, .string vs], .bool (!q)] (wr.alloc (.cells #[.int .u32 (key : Int), .int .u8 (vk : Int), .int .i64 vn, .string vs] 57)) _) := Lib.hid (HJU.out (wr.alloc (.cells #[.int .u32 (key : Int), .int .u8 (vk : Int), .int .i64 vn, .string vs] 57)) (HM6.out.mod.alloc _) (HM6.out.map.keep ((Mod.refl (fun _ => False) wr).alloc _)) ⟨id, there, xs, ys⟩ (.slice ap np cp) (.slice (some ⟨bh, offh, none⟩) nh ch) ⟨key, vk, vn, vs⟩ (!q) (HVR.out.keep (HM6.out.mod.alloc _)) HKF.out)
                  simp only at HJX
                  generalize judgeN (held up 0 ls) id ⟨key, vk, vn, vs⟩ (!q) = jn at HJX HGh
                  have HMW : Hid (Mod (fun _ => False) wr (wr.alloc (.cells #[.int .u32 (key : Int), .int .u8 (vk : Int), .int .i64 vn, .string vs] 57))) := Lib.hid ((Mod.refl (fun _ => False) wr).alloc _)
                  have HBX7 : Hid ((wr.alloc (.cells #[.int .u32 (key : Int), .int .u8 (vk : Int), .int .i64 vn, .string vs] 57)).heap[wo.heap.size]? = some (.cells #[.int .u32 (id : Int), .bool there, .slice ap np cp, .slice (some ⟨bh, offh, none⟩) nh ch] 44 (0, 0))) := Lib.hid (heap_alloc_old HBX6.out)
                  have HHB : Hid ((wr.alloc (.cells #[.int .u32 (key : Int), .int .u8 (vk : Int), .int .i64 vn, .string vs] 57)).heap[wr.heap.size]? = some (.cells #[.int .u32 (key : Int), .int .u8 (vk : Int), .int .i64 vn, .string vs] 57 (0, 0))) := Lib.hid (heap_alloc_new' _ _)
                  by_cases hj0 : jn = 0
                  · subst hj0
                    have HEQ : Hid (A ++ pre ++ (ys.take (g + 1)).flatMap G = A ++ pre ++ (ys.take g).flatMap G) := Lib.hid (by rw [HNXg.out, HGh.out]; simp)
                    go_wp2_with (go_at_call 31; refine HJX.out.mono ?_; rintro e w6 ⟨rfl, hm⟩; have M6 := Lib.hid (HMW.out.trans hm); have HB6 := Lib.hid (hm.heap HBX7.out (fun f => f)); clear hm)
                    go_roundw
                    case rel => exact ⟨g + 1, by go_num, by omega, by rw [HEQ.out]; exact HM6.out.more M6.out, HB6.out, HNE6.out⟩
                    case measure => simp [intOf]; omega
                  · have HEQ : Hid (A ++ pre ++ (ys.take (g + 1)).flatMap G = (A ++ pre ++ (ys.take g).flatMap G) ++ [⟨jn, k, id, key⟩]) := Lib.hid (by rw [HNXg.out, HGh.out, if_neg hj0]; simp)
                    rw [HEQ.out] at HLEg
                    have HLEg : Hid ((A ++ pre ++ (ys.take g).flatMap G).length + 1 ≤ 1000000) := Lib.hid (by have := HLEg.out; rw [List.length_append] at this; exact this)
                    have tj0 : ¬ ((jn : Int) = 0) := by omega
                    generalize A ++ pre ++ (ys.take g).flatMap G = R at HM6 HEQ HLEg
                    go_wp2_with (first
                      | (go_at_call 31; refine HJX.out.mono ?_; rintro e w6 ⟨rfl, hm⟩; have M6 := Lib.hid (HMW.out.trans hm); have HB6 := Lib.hid (hm.heap HBX7.out (fun f => f)); have HH6 := Lib.hid (hm.heap HHB.out (fun f => f)); have f0 := cell_of_row HB6.out 0; have f4 := cell_of_row HH6.out 0; simp at f0 f4; have zw6 : wo.heap.size < w6.heap.size := lt_of_block HB6.out; have zw7 : wr.heap.size < w6.heap.size := lt_of_block HH6.out;
                         have HJ6 := Lib.hid ((HM6.out.more M6.out).more ((Mod.refl (fun _ => False) w6).alloc (.cells #[.int .u8 (jn : Int), .int .i64 (k : Int), .int .u32 (id : Int), .int .u32 (key : Int)] 52)));
                         have HS6 := Lib.hid (src_rep (w := w6) rfl ⟨jn, k, id, key⟩); have HB7 : Hid ((w6.alloc (.cells #[.int .u8 (jn : Int), .int .i64 (k : Int), .int .u32 (id : Int), .int .u32 (key : Int)] 52)).heap[wo.heap.size]? = some (.cells #[.int .u32 (id : Int), .bool there, .slice ap np cp, .slice (some ⟨bh, offh, none⟩) nh ch] 44 (0, 0))) := Lib.hid (heap_alloc_old HB6.out); clear hm)
                      | (at_builtin; refine wpList_append_seg rfl (.tmp 80) (.tmp 88) 47 rfl i0 _ 4 24 Tryz.underlying47 HI.out.1 HI.out.2.1 HI.out.2.2.1 HI.out.2.2.2 rfl (by decide) rfl HJ6.out.out _ 1 _ rfl HS6.out (by have := HLEg.out; unfold maxLen; omega) (by have := HLEg.out; omega) ?_; intro v3 w3 hs3 hg3 ho3; have HJ3 := Lib.hid (HJ6.out.app ⟨jn, k, id, key⟩ hs3 hg3 ho3); have HB3 := Lib.hid (HJ6.out.kept hg3 HB7.out HNE6.out); have HN3 := Lib.hid (own_ne ho3 HNE6.out (by simp; omega)); (obtain ⟨a3, c3, n3, rfl⟩ : ∃ a c n, v3 = .slice a n c := (by obtain ⟨a, c, e, _⟩ := hs3.shape; exact ⟨_, _, _, e⟩)); clear hs3 hg3 ho3))
                    go_roundw
                    case rel => exact ⟨g + 1, by go_num, by omega, by rw [HEQ.out]; exact HJ3.out, HB3.out, HN3.out⟩
                    case measure => simp [intOf]; omega
                · have HAL := Lib.hid (HMA.out g (by have := HNH.out; omega))
                  rw [HAL.out] at HM6
                  clear HBX6
                  go_wp2
                  go_roundw
                  case rel => exact ⟨j + 1, by go_num, by omega, HM6.out⟩
                  case measure => simp [intOf]; omega
          · have HE := Lib.hid (part_all HX.out HUX.out (show xl.length ≤ j by have := HML.out; omega))
            simp only at HE
            rw [HE.out] at HJ
            go_wp2
            go_roundw
            case rel => exact ⟨k + 1, by go_num, by omega, HJ.out⟩
            case measure => simp [intOf]; omega
    · have HF : Hid (heldTo up ls k = held up 0 ls) := Lib.hid (heldTo_all up ls k (by have := HN.out; omega))
      rw [HF.out] at HM
      obtain ⟨ao, co, no, rfl⟩ : ∃ ao co no, u8 = .slice ao no co := by
        obtain ⟨a, c, e, _⟩ := HM.out.out.shape
        exact ⟨_, _, _, e⟩
      go_wp2
      go_ret2
      exact ⟨_, rfl, HM.out.mod, HM.out.out, fun b hb => (HM.out.own b hb).1⟩
end Go.Proofs.YtnkmfgklmfmfeaaGreatDoor
