/- VD: what is needed of it (by shake.py). -/
import Derived.Test.YtnkmfgklmfmfeaaGreatDoorVC

/- VD, as far as the seat goes. -/
/- V12, V13, V14, V15 in one. -/
/- repair.judge: what is told of a half. -/
namespace Go.Proofs.YtnkmfgklmfmfeaaGreatDoor
set_option linter.unusedVariables false
open Go.RowKit
def zseat : Value := .agg #[.int .i64 0, .int .u32 0, .bool false, .slice none 0 0, .slice none 0 0]
theorem zero_seat (w : World) : (zeroValue 94).run Tryz.prog w = .ok zseat w := Tryz.zeroValue94 w
deriving instance DecidableEq for Val
def judgeN (ps : List (Nat × Vs)) (id : Nat) (h : Ent) (all : Bool) : Nat :=
  match seatF ps h.key with
  | none => if all then 2 else 4
  | some p => match p.2.x.halves.find? (fun e => e.key == id) with
    | none => 2
    | some e => if e.val = h.val then 0 else 3
set_option maxRecDepth 100000 in
set_option maxHeartbeats 1000000 in
theorem judge_miss (ps : List (Nat × Vs)) (es : Ents) (bm : Nat) (x : Vtx) (vp vh : Value) (h : Ent) (all : Bool) (w : World) (hU : UMap Tryz.prog 28 .u32 w bm es) (ht : Tells ps es) (hx : VRd w vp vh x) (hf : h.key < 4294967296) (hn : seatF ps h.key = none) :
    Calls Tryz.prog 31 #[.map (some bm), vtxV x vp vh, h.v .u32, .bool all] w fun e w' => e = .returned (.int .u8 (judgeN ps x.id h all : Int)) ∧ Mod (fun _ => False) w w' := by
  have hj : judgeN ps x.id h all = if all then 2 else 4 := by simp [judgeN, hn]
  rw [hj]
  have hg : getL h.key es = none := by rw [ht, hn]; rfl
  have HK := Lib.hid (u32key hf)
  have HLK : Hid (∀ w', Mod (fun _ => False) w w' → (Instr.lookup 90 (.map (some bm)) (.int .u32 (h.key : Int)) true).run Tryz.prog w' = .ok (.tuple #[zseat, .bool false]) w') := Lib.hid (by
    intro w' m
    have := (hU.keep m).getOk Tryz.underlying28 Tryz.underlying90 (zero_seat w') HK.out
    rw [hg] at this
    simpa using this)
  obtain ⟨id, there, xs, ys⟩ := x
  obtain ⟨np, ap, cp, rfl⟩ : ∃ np ap cp, vp = .slice ap np cp := by
    obtain ⟨a, c, e, _⟩ := hx.props.shape
    exact ⟨_, _, _, e⟩
  obtain ⟨nh, ah, ch, rfl⟩ : ∃ np ap cp, vh = .slice ap np cp := by
    obtain ⟨a, c, e, _⟩ := hx.halves.shape
    exact ⟨_, _, _, e⟩
  obtain ⟨key, vk, vn, vs⟩ := h
  show Calls _ _ #[.map (some bm), .agg #[.int .u32 (id : Int), .bool there, .slice ap np cp, .slice ah nh ch], .agg #[.int .u32 (key : Int), .int .u8 (vk : Int), .int .i64 vn, .string vs], .bool all] w _
  simp only at HLK
  clear hU ht hx hn hj hg hf HK
  go_enter Tryz.func31, Tryz.ntmps31
  have hlk := HLK.out _ (((Mod.refl (fun _ => False) w).alloc (.cells #[.int .u32 (id : Int), .bool there, .slice ap np cp, .slice ah nh ch] 44)).alloc (.cells #[.int .u32 (key : Int), .int .u8 (vk : Int), .int .i64 vn, .string vs] 57))
  simp only [zseat] at hlk
  cases all with
  | true =>
    go_wp2_with fail
    go_ret
    exact ⟨by simp, by repeat (first | exact Mod.refl _ w | apply Mod.alloc | apply Mod.drewN | apply Mod.drew)⟩
  | false =>
    go_wp2_with fail
    go_ret
    exact ⟨by simp, by repeat (first | exact Mod.refl _ w | apply Mod.alloc | apply Mod.drewN | apply Mod.drew)⟩
theorem idxE_find (far : Nat) (l : List Ent) : (idxE far l 0 = -1 ∧ l.find? (fun e => e.key == far) = none) ∨ ∃ (k : Nat) (y : Ent), idxE far l 0 = (k : Int) ∧ l[k]? = some y ∧ l.find? (fun e => e.key == far) = some y := by
  cases hf : l.find? (fun e => e.key == far) with
  | none => exact .inl ⟨idxE_none l 0 (by simpa using hf), rfl⟩
  | some y =>
    obtain ⟨h1, us, bs, rfl, h2⟩ := List.find?_eq_some_iff_append.1 hf
    refine .inr ⟨us.length, y, ?_, by simp, rfl⟩
    have := idxE_at (us ++ y :: bs) 0 us.length y (by simp) (by simpa using h1) (by simpa using h2)
    simpa using this
set_option maxRecDepth 100000 in
set_option maxHeartbeats 1000000 in
theorem judge_hit_none (ps : List (Nat × Vs)) (es : Ents) (bm : Nat) (x : Vtx) (vp vh : Value) (h : Ent) (all : Bool) (w : World) (p : Nat × Vs) (hU : UMap Tryz.prog 28 .u32 w bm es) (ht : Tells ps es) (hx : VRd w vp vh x) (hp : VRd w p.2.vp p.2.vh p.2.x) (hf : h.key < 4294967296) (hn : seatF ps h.key = some p)
    (hi : idxE x.id p.2.x.halves 0 = -1) (hfi : p.2.x.halves.find? (fun e => e.key == x.id) = none) :
    Calls Tryz.prog 31 #[.map (some bm), vtxV x vp vh, h.v .u32, .bool all] w fun e w' => e = .returned (.int .u8 (judgeN ps x.id h all : Int)) ∧ Mod (fun _ => False) w w' := by
  have hj : judgeN ps x.id h all = 2 := by simp only [judgeN, hn, hfi]
  rw [hj]
  have hg : getL h.key es = some (seatV p) := by rw [ht, hn]; rfl
  have HK := Lib.hid (u32key hf)
  have HLK : Hid (∀ w', Mod (fun _ => False) w w' → (Instr.lookup 90 (.map (some bm)) (.int .u32 (h.key : Int)) true).run Tryz.prog w' = .ok (.tuple #[seatV p, .bool true]) w') := Lib.hid (by
    intro w' m
    have := (hU.keep m).getOk Tryz.underlying28 Tryz.underlying90 (zero_seat w') HK.out
    rw [hg] at this
    simpa using this)
  have HHF : Hid (∀ w', Mod (fun _ => False) w w' → Calls Tryz.prog 51 #[vtxV p.2.x p.2.vp p.2.vh, .int .u32 (x.id : Int)] w' fun e w'' => e = .returned (.tuple #[.agg #[.int .u8 0, .int .i64 0, zval], .bool false]) ∧ Mod (fun _ => False) w' w'') := Lib.hid (fun w' m => half_none p.2.x p.2.vp p.2.vh x.id w' (hp.keep m) hi)
  obtain ⟨id, there, xs, ys⟩ := x
  obtain ⟨np, ap, cp, rfl⟩ : ∃ np ap cp, vp = .slice ap np cp := by
    obtain ⟨a, c, e, _⟩ := hx.props.shape
    exact ⟨_, _, _, e⟩
  obtain ⟨nh, ah, ch, rfl⟩ : ∃ np ap cp, vh = .slice ap np cp := by
    obtain ⟨a, c, e, _⟩ := hx.halves.shape
    exact ⟨_, _, _, e⟩
  obtain ⟨key, vk, vn, vs⟩ := h
  obtain ⟨pn, ⟨pid, pthere, pps, phs⟩, pvp, pvh⟩ := p
  simp only at hp
  obtain ⟨np', ap', cp', rfl⟩ : ∃ np ap cp, pvp = .slice ap np cp := by
    obtain ⟨a, c, e, _⟩ := hp.props.shape
    exact ⟨_, _, _, e⟩
  obtain ⟨nh', ah', ch', rfl⟩ : ∃ np ap cp, pvh = .slice ap np cp := by
    obtain ⟨a, c, e, _⟩ := hp.halves.shape
    exact ⟨_, _, _, e⟩
  show Calls _ _ #[.map (some bm), .agg #[.int .u32 (id : Int), .bool there, .slice ap np cp, .slice ah nh ch], .agg #[.int .u32 (key : Int), .int .u8 (vk : Int), .int .i64 vn, .string vs], .bool all] w _
  simp only [seatV, vtxV, zval] at HLK HHF
  clear hU ht hx hn hj hg hf HK hi hfi hp
  go_enter Tryz.func31, Tryz.ntmps31
  have hlk := HLK.out _ (((Mod.refl (fun _ => False) w).alloc (.cells #[.int .u32 (id : Int), .bool there, .slice ap np cp, .slice ah nh ch] 44)).alloc (.cells #[.int .u32 (key : Int), .int .u8 (vk : Int), .int .i64 vn, .string vs] 57))
  go_wp2_with (go_at_call 51; refine (HHF.out _ (by repeat (first | exact Mod.refl _ w | apply Mod.alloc | apply Mod.drewN | apply Mod.drew))).mono ?_; rintro e w3 ⟨rfl, hm⟩; have M3 : Hid (Mod (fun _ => False) w w3) := Lib.hid (Mod.trans (by repeat (first | exact Mod.refl _ w | apply Mod.alloc | apply Mod.drewN | apply Mod.drew)) hm); clear hm)
  go_ret
  exact ⟨rfl, by repeat (first | exact M3.out | apply Mod.alloc | apply Mod.drewN | apply Mod.drew)⟩
set_option maxRecDepth 100000 in
set_option maxHeartbeats 1000000 in
theorem judge_hit_some (ps : List (Nat × Vs)) (es : Ents) (bm : Nat) (x : Vtx) (vp vh : Value) (h : Ent) (all : Bool) (w : World) (p : Nat × Vs) (hU : UMap Tryz.prog 28 .u32 w bm es) (ht : Tells ps es) (hx : VRd w vp vh x) (hp : VRd w p.2.vp p.2.vh p.2.x) (hf : h.key < 4294967296) (hn : seatF ps h.key = some p)
    (k : Nat) (y : Ent) (hi : idxE x.id p.2.x.halves 0 = (k : Int)) (hy : p.2.x.halves[k]? = some y) (hfi : p.2.x.halves.find? (fun e => e.key == x.id) = some y) :
    Calls Tryz.prog 31 #[.map (some bm), vtxV x vp vh, h.v .u32, .bool all] w fun e w' => e = .returned (.int .u8 (judgeN ps x.id h all : Int)) ∧ Mod (fun _ => False) w w' := by
  have hj : judgeN ps x.id h all = if y.val = h.val then 0 else 3 := by simp only [judgeN, hn, hfi]
  rw [hj]
  have hg : getL h.key es = some (seatV p) := by rw [ht, hn]; rfl
  have HK := Lib.hid (u32key hf)
  have HLK : Hid (∀ w', Mod (fun _ => False) w w' → (Instr.lookup 90 (.map (some bm)) (.int .u32 (h.key : Int)) true).run Tryz.prog w' = .ok (.tuple #[seatV p, .bool true]) w') := Lib.hid (by
    intro w' m
    have := (hU.keep m).getOk Tryz.underlying28 Tryz.underlying90 (zero_seat w') HK.out
    rw [hg] at this
    simpa using this)
  have HHF : Hid (∀ w', Mod (fun _ => False) w w' → Calls Tryz.prog 51 #[vtxV p.2.x p.2.vp p.2.vh, .int .u32 (x.id : Int)] w' fun e w'' => e = .returned (.tuple #[.agg #[.int .u8 (y.val.k : Int), .int .i64 y.val.n, .string y.val.s], .bool true]) ∧ Mod (fun _ => False) w' w'') := Lib.hid (fun w' m => half_some p.2.x p.2.vp p.2.vh x.id k y w' (hp.keep m) hy hi)
  obtain ⟨id, there, xs, ys⟩ := x
  obtain ⟨np, ap, cp, rfl⟩ : ∃ np ap cp, vp = .slice ap np cp := by
    obtain ⟨a, c, e, _⟩ := hx.props.shape
    exact ⟨_, _, _, e⟩
  obtain ⟨nh, ah, ch, rfl⟩ : ∃ np ap cp, vh = .slice ap np cp := by
    obtain ⟨a, c, e, _⟩ := hx.halves.shape
    exact ⟨_, _, _, e⟩
  obtain ⟨key, vk, vn, vs⟩ := h
  obtain ⟨ykey, yk, yn, ys'⟩ := y
  obtain ⟨pn, ⟨pid, pthere, pps, phs⟩, pvp, pvh⟩ := p
  simp only at hp
  obtain ⟨np', ap', cp', rfl⟩ : ∃ np ap cp, pvp = .slice ap np cp := by
    obtain ⟨a, c, e, _⟩ := hp.props.shape
    exact ⟨_, _, _, e⟩
  obtain ⟨nh', ah', ch', rfl⟩ : ∃ np ap cp, pvh = .slice ap np cp := by
    obtain ⟨a, c, e, _⟩ := hp.halves.shape
    exact ⟨_, _, _, e⟩
  show Calls _ _ #[.map (some bm), .agg #[.int .u32 (id : Int), .bool there, .slice ap np cp, .slice ah nh ch], .agg #[.int .u32 (key : Int), .int .u8 (vk : Int), .int .i64 vn, .string vs], .bool all] w _
  simp only [seatV, vtxV] at HLK HHF
  clear hU ht hx hn hj hg hf HK hi hy hfi hp
  go_enter Tryz.func31, Tryz.ntmps31
  have hlk := HLK.out _ (((Mod.refl (fun _ => False) w).alloc (.cells #[.int .u32 (id : Int), .bool there, .slice ap np cp, .slice ah nh ch] 44)).alloc (.cells #[.int .u32 (key : Int), .int .u8 (vk : Int), .int .i64 vn, .string vs] 57))
  go_wp2_with (go_at_call 51; refine (HHF.out _ (by repeat (first | exact Mod.refl _ w | apply Mod.alloc | apply Mod.drewN | apply Mod.drew))).mono ?_; rintro e w3 ⟨rfl, hm⟩; have M3 : Hid (Mod (fun _ => False) w w3) := Lib.hid (Mod.trans (by repeat (first | exact Mod.refl _ w | apply Mod.alloc | apply Mod.drewN | apply Mod.drew)) hm); have B3 : w3.heap[w.heap.size + 1]? = some (.cells #[.int .u32 (key : Int), .int .u8 (vk : Int), .int .i64 vn, .string vs] 57 (0, 0)) := hm.heap (heap_alloc_old (by simpa using heap_alloc_new' (w.alloc (.cells #[.int .u32 (id : Int), .bool there, .slice ap np cp, .slice ah nh ch] 44)) (.cells #[.int .u32 (key : Int), .int .u8 (vk : Int), .int .i64 vn, .string vs] 57))) (fun f => f); have q1 := cell_of_row B3 1; have q2 := cell_of_row B3 2; have q3 := cell_of_row B3 3; simp at q1 q2 q3; have zz3 : w.heap.size + 1 < w3.heap.size := lt_of_block B3; clear hm B3)
  all_goals
    go_ret
    refine ⟨?_, by repeat (first | exact M3.out | apply Mod.alloc | apply Mod.drewN | apply Mod.drew)⟩
    first
      | rfl
      | (simp; done)
      | (exfalso; simp_all; done)
      | (exfalso
         rename_i h1 h2 h3 h4
         exact h4 (by
           have e : ys' = vs := ByteArray.ext (Array.toList_inj.1 (by have h5 := h3; simp only [ByteArray.toList_eq] at h5; exact h5))
           have e2 : yk = vk := by omega
           rw [e, e2, h2]))
end Go.Proofs.YtnkmfgklmfmfeaaGreatDoor
/- repair.seats: where each vertex is held first. -/
namespace Go.Proofs.YtnkmfgklmfmfeaaGreatDoor
set_option linter.unusedVariables false
open Go.RowKit
theorem held_mem (up : List Bool) : ∀ (ls : List Ls) (n : Nat) (p : Nat × Vs), p ∈ held up n ls → ∃ s ∈ ls, p.2 ∈ s.l
  | [], n, p, h => by simp [held] at h
  | s :: r, n, p, h => by
    simp only [held, List.mem_append] at h
    rcases h with h | h
    · split at h
      · obtain ⟨y, hy, rfl⟩ := List.mem_map.1 h
        exact ⟨s, by simp, hy⟩
      · simp at h
    · obtain ⟨t, ht, hp⟩ := held_mem up r (n + 1) p h
      exact ⟨t, List.mem_cons_of_mem _ ht, hp⟩
theorem heldTo_rd {w : World} {v : Value} {ls : List Ls} (h : LLRd w v ls) (up : List Bool) (k : Nat) : ∀ p ∈ heldTo up ls k, VRd w p.2.vp p.2.vh p.2.x := fun p hp => by
  obtain ⟨s, hs, hm⟩ := held_mem up _ 0 p hp
  exact (h.each s (List.mem_of_mem_take hs)).each _ hm
theorem heldTo_le (up : List Bool) (ls : List Ls) (k : Nat) : (heldTo up ls k).length ≤ (held up 0 ls).length := by
  have := held_append up (ls.take k) (ls.drop k) 0
  rw [List.take_append_drop] at this
  rw [this, List.length_append]
  exact Nat.le_add_right _ _
/-- The pairs met so far, in the midst of list k. -/
def part (up : List Bool) (ls : List Ls) (k : Nat) (xl : List Vs) (j : Nat) : List (Nat × Vs) := heldTo up ls k ++ (xl.take j).map (fun x => (k, x))
theorem part_succ {up : List Bool} {ls : List Ls} {k j : Nat} {xl : List Vs} {y : Vs} (h : xl[j]? = some y) : part up ls k xl (j + 1) = part up ls k xl j ++ [(k, y)] := by
  obtain ⟨hn, rfl⟩ := List.getElem?_eq_some_iff.1 h
  unfold part
  rw [List.take_succ_eq_append_getElem hn, List.map_append, List.append_assoc]
  rfl
theorem part_le {up : List Bool} {ls : List Ls} {k j : Nat} {s : Ls} (h : ls[k]? = some s) (hu : up[k]? = some true) : (part up ls k s.l j).length ≤ (held up 0 ls).length := by
  refine Nat.le_trans ?_ (heldTo_le up ls (k + 1))
  rw [heldTo_succ up ls k s h, if_pos hu]
  simp only [part, List.length_append, List.length_map, List.length_take]
  omega
theorem part_rd {w : World} {v : Value} {ls : List Ls} (h : LLRd w v ls) {up : List Bool} {k : Nat} {s : Ls} (hs : ls[k]? = some s) (j : Nat) : ∀ p ∈ part up ls k s.l j, VRd w p.2.vp p.2.vh p.2.x := fun p hp => by
  rcases List.mem_append.1 hp with hp | hp
  · exact heldTo_rd h up k p hp
  · obtain ⟨y, hy, rfl⟩ := List.mem_map.1 hp
    exact (h.at hs).each y (List.mem_of_mem_take hy)
/-- The map of seats, under way: ps are the pairs met so far. -/
structure SAt (w : World) (ps : List (Nat × Vs)) (wr : World) : Prop where
  mod : Mod (fun _ => False) w wr
  map : ∃ es, UMap Tryz.prog 28 .u32 wr w.heap.size es ∧ Tells ps es ∧ es.length ≤ ps.length
set_option maxRecDepth 100000 in
set_option maxHeartbeats 2000000 in
theorem seats_any (v vu : Value) (ls : List Ls) (up : List Bool) (w : World) (hv : LLRd w v ls) (hu : FRd w vu up) (hl : ls.length ≤ up.length) (hs : (held up 0 ls).length < maxLen) :
    Calls Tryz.prog 29 #[v, vu] w fun e w' => e = .returned (.map (some w.heap.size)) ∧ SAt w (held up 0 ls) w' := by
  have HV := Lib.hid hv
  have HU := Lib.hid hu
  obtain ⟨a, c, rfl, hc1, hc2, -⟩ := hv.row.shape
  obtain ⟨au, cu, rfl, hcu1, hcu2, -⟩ := (show RdS _ _ _ _ _ from hu).shape
  have HS := Lib.hid hs
  clear hv hu hs
  obtain ⟨n, hn⟩ : ∃ n, n = ls.length := ⟨_, rfl⟩
  obtain ⟨nu, hnu⟩ : ∃ nu, nu = up.length := ⟨_, rfl⟩
  have HN := Lib.hid hn
  have HNU := Lib.hid hnu
  rw [← hn] at HV hc1 hl ⊢
  rw [← hnu] at HU hcu1 hl ⊢
  clear hn hnu
  have hmm := @run_makeMap Tryz.prog
  go_enter Tryz.func29, Tryz.ntmps29
  go_wp2_with fail
  go_loopw [15] (fun i wr => ∃ k : Nat, i = .int .i64 k ∧ k ≤ n ∧ SAt w (heldTo up ls k) wr) (fun i _ => n - (intOf i).toNat)
  case atStart =>
    exact ⟨0, rfl, Nat.zero_le _, (Mod.refl _ _).alloc _, [], UMap.made _ _ _ _, Tells.nil, Nat.le_refl _⟩
  case round =>
    obtain ⟨k, rfl, hk, hm⟩ := hrel
    have HM := Lib.hid hm
    clear hm
    by_cases hkn : k < n
    · obtain ⟨x, hx⟩ : ∃ x, ls[k]? = some x := ⟨_, List.getElem?_eq_getElem (by rw [← HN.out]; exact hkn)⟩
      obtain ⟨u, hu⟩ : ∃ u, up[k]? = some u := ⟨_, List.getElem?_eq_getElem (by rw [← HNU.out]; omega)⟩
      have HX := Lib.hid hx
      have HUX := Lib.hid hu
      obtain ⟨b, off, rfl, hb, p0⟩ := HV.out.ent hx rfl
      obtain ⟨bu, offu, rfl, hbu, q0⟩ := HU.out.ent hu rfl
      have p0 := HM.out.mod.cell p0
      have HL := Lib.hid (HV.out.at hx)
      obtain ⟨xv, xl⟩ := x
      simp only at p0 HL
      have HQ := Lib.hid q0
      obtain ⟨al, cl, rfl, hcl1, hcl2, -⟩ := HL.out.row.shape
      obtain ⟨m, hm⟩ : ∃ m, m = xl.length := ⟨_, rfl⟩
      have HML := Lib.hid hm
      rw [← hm] at p0 HL hcl1
      clear hx hu q0 hm
      go_wp2_with fail
      go_loopw [22] (fun i wr' => ∃ j : Nat, i = .int .i64 j ∧ j ≤ m ∧ SAt w (heldTo up ls k ++ (if u = true then (xl.take j).map (fun x => (k, x)) else [])) wr') (fun i _ => m - (intOf i).toNat)
      case atStart => exact ⟨0, rfl, Nat.zero_le _, by simpa using HM.out⟩
      case round =>
        obtain ⟨j, rfl, hj, hm⟩ := hrel
        have HJ := Lib.hid hm
        clear hm
        by_cases hjm : j < m
        · obtain ⟨y, hy⟩ : ∃ y, xl[j]? = some y := ⟨_, List.getElem?_eq_getElem (by rw [← HML.out]; exact hjm)⟩
          have HY := Lib.hid hy
          obtain ⟨bl, offl, rfl, hbl, r0, r1, r2, r3⟩ := HL.out.ent hy rfl
          have r0 := HJ.out.mod.cell r0
          have r1 := HJ.out.mod.cell r1
          have r2 := HJ.out.mod.cell r2
          have r3 := HJ.out.mod.cell r3
          have HVR := Lib.hid (HL.out.at hy)
          have q0 := HJ.out.mod.cell HQ.out
          obtain ⟨es, hU, hT, hEL⟩ := HJ.out.map
          have HUM := Lib.hid hU
          have HT := Lib.hid hT
          have HK := Lib.hid (u32key HVR.out.fits.id)
          clear hy hU hT
          cases u with
          | false =>
            have HHR : Hid (∀ p ∈ heldTo up ls k, VRd w p.2.vp p.2.vh p.2.x) := Lib.hid (heldTo_rd HV.out up k)
            cases hg : getL y.x.id es with
            | none =>
              have HLK : Hid (∀ w', Mod (fun _ => False) wr w' → (Instr.lookup 90 (.map (some w.heap.size)) (.int .u32 (y.x.id : Int)) true).run Tryz.prog w' = .ok (.tuple #[zseat, .bool false]) w') := Lib.hid (by
                intro w' m
                have := (HUM.out.keep m).getOk Tryz.underlying28 Tryz.underlying90 (zero_seat w') HK.out
                rw [hg] at this
                simpa using this)
              obtain ⟨⟨id, there, xs, ys⟩, vp, vh⟩ := y
              obtain ⟨np, ap, cp, rfl⟩ : ∃ np ap cp, vp = .slice ap np cp := by
                obtain ⟨a, c, e, _⟩ := HVR.out.props.shape
                exact ⟨_, _, _, e⟩
              obtain ⟨nh, ah, ch, rfl⟩ : ∃ np ap cp, vh = .slice ap np cp := by
                obtain ⟨a, c, e, _⟩ := HVR.out.halves.shape
                exact ⟨_, _, _, e⟩
              simp only at r0 r1 r2 r3 HLK hg
              have hlk := HLK.out _ ((Mod.refl (fun _ => False) wr).alloc (.cells #[.int .u32 (id : Int), .bool there, .slice ap np cp, .slice ah nh ch] 44))
              simp only [zseat] at hlk
              have zbu : bu < wr.heap.size := Nat.lt_of_lt_of_le hbu HJ.out.mod.size
              have zw : w.heap.size < wr.heap.size := HUM.out.lt
              go_wp2
              go_roundw
              case rel => exact ⟨j + 1, by go_num, by omega, (HJ.out.mod.alloc _).alloc _, es, HUM.out.keep (((Mod.refl _ wr).alloc _).alloc _), by simpa using HT.out, by simpa using hEL⟩
              case measure => simp [intOf]; omega
            | some z =>
              obtain ⟨p, hp, rfl⟩ : ∃ p, seatF (heldTo up ls k) y.x.id = some p ∧ seatV p = z := by
                have := HT.out y.x.id
                rw [hg] at this
                simpa using this.symm
              have HPR := Lib.hid (HHR.out p (List.mem_of_find?_eq_some hp))
              have HLK : Hid (∀ w', Mod (fun _ => False) wr w' → (Instr.lookup 90 (.map (some w.heap.size)) (.int .u32 (y.x.id : Int)) true).run Tryz.prog w' = .ok (.tuple #[seatV p, .bool true]) w') := Lib.hid (by
                intro w' m
                have := (HUM.out.keep m).getOk Tryz.underlying28 Tryz.underlying90 (zero_seat w') HK.out
                rw [hg] at this
                simpa using this)
              obtain ⟨⟨id, there, xs, ys⟩, vp, vh⟩ := y
              obtain ⟨pn, ⟨pid, pthere, pps, phs⟩, pvp, pvh⟩ := p
              simp only at HPR
              obtain ⟨np', ap', cp', rfl⟩ : ∃ np ap cp, pvp = .slice ap np cp := by
                obtain ⟨a, c, e, _⟩ := HPR.out.props.shape
                exact ⟨_, _, _, e⟩
              obtain ⟨nh', ah', ch', rfl⟩ : ∃ np ap cp, pvh = .slice ap np cp := by
                obtain ⟨a, c, e, _⟩ := HPR.out.halves.shape
                exact ⟨_, _, _, e⟩
              obtain ⟨np, ap, cp, rfl⟩ : ∃ np ap cp, vp = .slice ap np cp := by
                obtain ⟨a, c, e, _⟩ := HVR.out.props.shape
                exact ⟨_, _, _, e⟩
              obtain ⟨nh, ah, ch, rfl⟩ : ∃ np ap cp, vh = .slice ap np cp := by
                obtain ⟨a, c, e, _⟩ := HVR.out.halves.shape
                exact ⟨_, _, _, e⟩
              simp only at r0 r1 r2 r3 HLK hg
              have hlk := HLK.out _ ((Mod.refl (fun _ => False) wr).alloc (.cells #[.int .u32 (id : Int), .bool there, .slice ap np cp, .slice ah nh ch] 44))
              simp only [seatV] at hlk
              have zbu : bu < wr.heap.size := Nat.lt_of_lt_of_le hbu HJ.out.mod.size
              have zw : w.heap.size < wr.heap.size := HUM.out.lt
              go_wp2
              go_roundw
              case rel => exact ⟨j + 1, by go_num, by omega, (HJ.out.mod.alloc _).alloc _, es, HUM.out.keep (((Mod.refl _ wr).alloc _).alloc _), by simpa using HT.out, by simpa using hEL⟩
              case measure => simp [intOf]; omega
          | true =>
            have HHR : Hid (∀ p ∈ part up ls k xl j, VRd w p.2.vp p.2.vh p.2.x) := Lib.hid (part_rd HV.out HX.out j)
            have HPS : Hid (heldTo up ls k ++ (xl.take (j + 1)).map (fun x => (k, x)) = part up ls k xl j ++ [(k, y)]) := Lib.hid (part_succ HY.out)
            have HT : Hid (Tells (part up ls k xl j) es) := Lib.hid (by have := HT.out; rw [if_pos rfl] at this; exact this)
            have hEL : es.length ≤ (part up ls k xl j).length := by rw [if_pos rfl] at hEL; exact hEL
            cases hg : getL y.x.id es with
            | none =>
              have HLK : Hid (∀ w', Mod (fun _ => False) wr w' → (Instr.lookup 90 (.map (some w.heap.size)) (.int .u32 (y.x.id : Int)) true).run Tryz.prog w' = .ok (.tuple #[zseat, .bool false]) w') := Lib.hid (by
                intro w' m
                have := (HUM.out.keep m).getOk Tryz.underlying28 Tryz.underlying90 (zero_seat w') HK.out
                rw [hg] at this
                simpa using this)
              obtain ⟨⟨id, there, xs, ys⟩, vp, vh⟩ := y
              obtain ⟨np, ap, cp, rfl⟩ : ∃ np ap cp, vp = .slice ap np cp := by
                obtain ⟨a, c, e, _⟩ := HVR.out.props.shape
                exact ⟨_, _, _, e⟩
              obtain ⟨nh, ah, ch, rfl⟩ : ∃ np ap cp, vh = .slice ap np cp := by
                obtain ⟨a, c, e, _⟩ := HVR.out.halves.shape
                exact ⟨_, _, _, e⟩
              simp only at r0 r1 r2 r3 HLK hg
              have hlk := HLK.out _ ((Mod.refl (fun _ => False) wr).alloc (.cells #[.int .u32 (id : Int), .bool there, .slice ap np cp, .slice ah nh ch] 44))
              simp only [zseat] at hlk
              have zbu : bu < wr.heap.size := Nat.lt_of_lt_of_le hbu HJ.out.mod.size
              have zw : w.heap.size < wr.heap.size := HUM.out.lt
              obtain ⟨w5, hrun, hU5, hM5⟩ := ((HUM.out.keep (((Mod.refl (fun _ => False) wr).alloc (.cells #[.int .u32 (id : Int), .bool there, .slice ap np cp, .slice ah nh ch] 44)).alloc (.cells #[.int .i64 0, .int .u32 0, .bool false, .slice none 0 0, .slice none 0 0] 94)))).store Tryz.underlying28 Tryz.underlying90 (Nat.lt_of_le_of_lt hEL (Nat.lt_of_le_of_lt (part_le HX.out HUX.out) HS.out)) HK.out (seatV (k, ⟨⟨id, there, xs, ys⟩, .slice ap np cp, .slice ah nh ch⟩))
              have HU5 := Lib.hid hU5
              have M5 : Hid (Mod (fun _ => False) w w5) := Lib.hid (((HJ.out.mod.alloc _).alloc _).trans' hM5 (fun i hlt hi => absurd hlt (by rw [hi]; exact Nat.lt_irrefl _)))
              have HTN := Lib.hid (HT.out.new (k, ⟨⟨id, there, xs, ys⟩, .slice ap np cp, .slice ah nh ch⟩) hg)
              have HLN : Hid ((putL id (seatV (k, ⟨⟨id, there, xs, ys⟩, .slice ap np cp, .slice ah nh ch⟩)) es).length ≤ (part up ls k xl j ++ [((k, ⟨⟨id, there, xs, ys⟩, .slice ap np cp, .slice ah nh ch⟩) : Nat × Vs)]).length) := Lib.hid (by
                have := putL_length id (seatV (k, ⟨⟨id, there, xs, ys⟩, .slice ap np cp, .slice ah nh ch⟩)) es
                rw [List.length_append]
                simp only [List.length_singleton]
                omega)
              simp only [seatV] at hrun
              clear hU5 hM5
              go_wp2
              go_roundw
              case rel => exact ⟨j + 1, by go_num, by omega, by rw [HPS.out]; exact ⟨M5.out, _, HU5.out, HTN.out, HLN.out⟩⟩
              case measure => simp [intOf]; omega
            | some z =>
              obtain ⟨p, hp, rfl⟩ : ∃ p, seatF (part up ls k xl j) y.x.id = some p ∧ seatV p = z := by
                have := HT.out y.x.id
                rw [hg] at this
                simpa using this.symm
              have HPR := Lib.hid (HHR.out p (List.mem_of_find?_eq_some hp))
              have HTO := Lib.hid (HT.out.old (k, y) (by simp only; rw [hg]; exact fun h => by cases h))
              have HLO : Hid (es.length ≤ (part up ls k xl j ++ [(k, y)]).length) := Lib.hid (by rw [List.length_append]; omega)
              have HLK : Hid (∀ w', Mod (fun _ => False) wr w' → (Instr.lookup 90 (.map (some w.heap.size)) (.int .u32 (y.x.id : Int)) true).run Tryz.prog w' = .ok (.tuple #[seatV p, .bool true]) w') := Lib.hid (by
                intro w' m
                have := (HUM.out.keep m).getOk Tryz.underlying28 Tryz.underlying90 (zero_seat w') HK.out
                rw [hg] at this
                simpa using this)
              obtain ⟨⟨id, there, xs, ys⟩, vp, vh⟩ := y
              obtain ⟨pn, ⟨pid, pthere, pps, phs⟩, pvp, pvh⟩ := p
              simp only at HPR
              obtain ⟨np', ap', cp', rfl⟩ : ∃ np ap cp, pvp = .slice ap np cp := by
                obtain ⟨a, c, e, _⟩ := HPR.out.props.shape
                exact ⟨_, _, _, e⟩
              obtain ⟨nh', ah', ch', rfl⟩ : ∃ np ap cp, pvh = .slice ap np cp := by
                obtain ⟨a, c, e, _⟩ := HPR.out.halves.shape
                exact ⟨_, _, _, e⟩
              obtain ⟨np, ap, cp, rfl⟩ : ∃ np ap cp, vp = .slice ap np cp := by
                obtain ⟨a, c, e, _⟩ := HVR.out.props.shape
                exact ⟨_, _, _, e⟩
              obtain ⟨nh, ah, ch, rfl⟩ : ∃ np ap cp, vh = .slice ap np cp := by
                obtain ⟨a, c, e, _⟩ := HVR.out.halves.shape
                exact ⟨_, _, _, e⟩
              simp only at r0 r1 r2 r3 HLK hg
              have hlk := HLK.out _ ((Mod.refl (fun _ => False) wr).alloc (.cells #[.int .u32 (id : Int), .bool there, .slice ap np cp, .slice ah nh ch] 44))
              simp only [seatV] at hlk
              have zbu : bu < wr.heap.size := Nat.lt_of_lt_of_le hbu HJ.out.mod.size
              have zw : w.heap.size < wr.heap.size := HUM.out.lt
              go_wp2
              go_roundw
              case rel => exact ⟨j + 1, by go_num, by omega, by rw [HPS.out]; exact ⟨(HJ.out.mod.alloc _).alloc _, es, HUM.out.keep (((Mod.refl _ wr).alloc _).alloc _), HTO.out, HLO.out⟩⟩
              case measure => simp [intOf]; omega
        · have HF : Hid (heldTo up ls (k + 1) = heldTo up ls k ++ (if u = true then (xl.take j).map (fun x => (k, x)) else [])) := Lib.hid (by
            rw [heldTo_succ up ls k _ HX.out, HUX.out, List.take_of_length_le (by have := HML.out; omega)]
            simp)
          rw [← HF.out] at HJ
          go_wp2
          go_roundw
          case rel => exact ⟨k + 1, by go_num, by omega, HJ.out⟩
          case measure => simp [intOf]; omega
    · have HF : Hid (heldTo up ls k = held up 0 ls) := Lib.hid (heldTo_all up ls k (by have := HN.out; omega))
      go_wp2
      go_ret
      exact ⟨rfl, by rw [← HF.out]; exact HM.out⟩
end Go.Proofs.YtnkmfgklmfmfeaaGreatDoor
/- repair.judge, whole. -/
namespace Go.Proofs.YtnkmfgklmfmfeaaGreatDoor
set_option linter.unusedVariables false
open Go.RowKit
theorem judge_any (ps : List (Nat × Vs)) (es : Ents) (bm : Nat) (x : Vtx) (vp vh : Value) (h : Ent) (all : Bool) (w : World) (hU : UMap Tryz.prog 28 .u32 w bm es) (ht : Tells ps es) (hx : VRd w vp vh x) (hps : ∀ p ∈ ps, VRd w p.2.vp p.2.vh p.2.x) (hf : h.key < 4294967296) :
    Calls Tryz.prog 31 #[.map (some bm), vtxV x vp vh, h.v .u32, .bool all] w fun e w' => e = .returned (.int .u8 (judgeN ps x.id h all : Int)) ∧ Mod (fun _ => False) w w' := by
  cases hs : seatF ps h.key with
  | none => exact judge_miss ps es bm x vp vh h all w hU ht hx hf hs
  | some p =>
    have hp := hps p (List.mem_of_find?_eq_some hs)
    rcases idxE_find x.id p.2.x.halves with ⟨h1, h2⟩ | ⟨k, y, h1, h2, h3⟩
    · exact judge_hit_none ps es bm x vp vh h all w p hU ht hx hp hf hs h1 h2
    · exact judge_hit_some ps es bm x vp vh h all w p hU ht hx hp hf hs k y h1 h2 h3
end Go.Proofs.YtnkmfgklmfmfeaaGreatDoor
/- Is any list out of form? Is any flag down? (slices.ContainsFunc with repair.right, slices.Contains of flags.) -/
namespace Go.Proofs.YtnkmfgklmfmfeaaGreatDoor
set_option linter.unusedVariables false
open Go.RowKit
def notOK (s : Ls) : Bool := !listOK none s.l
theorem cmp1_any (v : Value) (l : List Vs) (w : World) (hv : LRd w v l) (hl : l.length < 999999) :
    Calls Tryz.prog 27 #[v] w fun e w' => e = .returned (.bool (!listOK none l)) ∧ Mod (fun _ => False) w w' := by
  have HR := Lib.hid (rright_any v l w hv hl)
  obtain ⟨a, c, rfl, -⟩ := hv.row.shape
  clear hv
  generalize listOK none l = q at HR ⊢
  generalize l.length = n at HR ⊢
  go_enter Tryz.func27, Tryz.ntmps27
  go_wp2_with (go_at_call 28; refine HR.out.mono ?_; rintro e w3 ⟨rfl, hm⟩; have M3 := Lib.hid hm; clear hm)
  go_ret
  exact ⟨rfl, M3.out⟩
theorem take_any_succ {α : Type} {p : α → Bool} {k : Nat} {l : List α} {x : α} (h : (l.take k).any p = false) (hx : l[k]? = some x) (hn : p x = false) : (l.take (k + 1)).any p = false := by
  obtain ⟨hk, he⟩ := List.getElem?_eq_some_iff.1 hx
  rw [List.take_succ_eq_append_getElem hk, he, List.any_append, h]
  simp [hn]
theorem any_at {α : Type} {p : α → Bool} {k : Nat} {l : List α} {x : α} (hx : l[k]? = some x) (hn : p x = true) : l.any p = true :=
  List.any_eq_true.2 ⟨x, List.mem_of_getElem? hx, hn⟩
/-- A number that tells: not below nothing just if one is found. -/
def Tell (b : Bool) (e : Ending) : Prop := ∃ r : Int, e = .returned (.int .i64 r) ∧ decide (0 ≤ r) = b
set_option maxRecDepth 100000 in
set_option maxHeartbeats 1000000 in
theorem idxL_any (v : Value) (ls : List Ls) (w : World) (hv : LLRd w v ls) (hl : ∀ s ∈ ls, s.l.length < 999999) :
    Calls Tryz.prog 48 #[v, .func (.func 27) #[] #[]] w fun e w' => Tell (ls.any notOK) e ∧ Mod (fun _ => False) w w' := by
  have HV := Lib.hid hv
  have HL := Lib.hid hl
  obtain ⟨a, c, rfl, hc1, hc2, -⟩ := hv.row.shape
  clear hv hl
  obtain ⟨n, hn⟩ : ∃ n, n = ls.length := ⟨_, rfl⟩
  have HN := Lib.hid hn
  rw [← hn] at HV hc1 ⊢
  clear hn
  go_enter Tryz.func48, Tryz.ntmps48
  go_wp2
  go_loopw [8] (fun i wr => ∃ k : Nat, i = .int .i64 k ∧ k ≤ n ∧ (ls.take k).any notOK = false ∧ Mod (fun _ => False) w wr) (fun i _ => n - (intOf i).toNat)
  case atStart => exact ⟨0, rfl, Nat.zero_le _, by simp, Mod.refl _ _⟩
  case round =>
    obtain ⟨k, rfl, hk, hall, hm⟩ := hrel
    have HA := Lib.hid hall
    have HM := Lib.hid hm
    clear hall
    by_cases hkn : k < n
    · obtain ⟨x, hx⟩ : ∃ x, ls[k]? = some x := ⟨_, List.getElem?_eq_getElem (by rw [← HN.out]; exact hkn)⟩
      have HX := Lib.hid hx
      obtain ⟨b, off, rfl, hb, p0⟩ := HV.out.ent hx rfl
      have p0 := hm.cell p0
      have HC : Hid (Calls Tryz.prog 27 #[x.v] wr fun e w' => e = .returned (.bool (notOK x)) ∧ Mod (fun _ => False) wr w') := Lib.hid (cmp1_any x.v x.l wr ((HV.out.at hx).keep hm) (HL.out x (List.mem_of_getElem? hx)))
      obtain ⟨al, cl, hxv, -⟩ := (HV.out.at hx).row.shape
      clear hx hm
      obtain ⟨q, hq⟩ : ∃ q, notOK x = q := ⟨_, rfl⟩
      rw [hq] at HC
      have HQ := Lib.hid hq
      clear hq
      obtain ⟨xv, xl⟩ := x
      simp only at p0 HC hxv
      subst hxv
      cases q with
      | true =>
        have HF := Lib.hid (any_at HX.out HQ.out)
        go_wp2_with (go_at_call 27; refine HC.out.mono ?_; rintro e w3 ⟨rfl, hm⟩; have M3 := Lib.hid (HM.out.trans hm); clear hm)
        go_ret
        exact ⟨⟨_, rfl, by rw [HF.out]; simp⟩, M3.out⟩
      | false =>
        have HF := Lib.hid (take_any_succ HA.out HX.out HQ.out)
        go_wp2_with (go_at_call 27; refine HC.out.mono ?_; rintro e w3 ⟨rfl, hm⟩; have M3 := Lib.hid (HM.out.trans hm); clear hm)
        go_roundw
        case rel => exact ⟨k + 1, by go_num, by omega, HF.out, M3.out⟩
        case measure => simp [intOf]; omega
    · have HF : Hid (ls.any notOK = false) := Lib.hid (by
        have := HA.out
        rwa [List.take_of_length_le (by have := HN.out; omega)] at this)
      clear hm
      go_wp2
      go_ret
      exact ⟨⟨_, rfl, by rw [HF.out]; rfl⟩, HM.out⟩
theorem contL_any (v : Value) (ls : List Ls) (w : World) (hv : LLRd w v ls) (hl : ∀ s ∈ ls, s.l.length < 999999) :
    Calls Tryz.prog 26 #[v, .func (.func 27) #[] #[]] w fun e w' => e = .returned (.bool (ls.any notOK)) ∧ Mod (fun _ => False) w w' := by
  have HI := Lib.hid (idxL_any v ls w hv hl)
  obtain ⟨a, c, rfl, -⟩ := hv.row.shape
  clear hv hl
  generalize ls.any notOK = q at HI ⊢
  go_enter Tryz.func26, Tryz.ntmps26
  go_wp2_with (go_at_call 48; refine HI.out.mono ?_; rintro e w3 ⟨⟨r, rfl, hr⟩, hm⟩; have M3 := Lib.hid hm; have HR := Lib.hid hr; clear hm hr)
  go_ret
  exact ⟨ret_bool HR.out, M3.out⟩
set_option maxRecDepth 100000 in
set_option maxHeartbeats 1000000 in
theorem idxF_any (v : Value) (up : List Bool) (w : World) (hv : FRd w v up) :
    Calls Tryz.prog 50 #[v, .bool false] w fun e w' => Tell (up.any (!·)) e ∧ Mod (fun _ => False) w w' := by
  have HV := Lib.hid hv
  obtain ⟨a, c, rfl, hc1, hc2, -⟩ := (show RdS _ _ _ _ _ from hv).shape
  clear hv
  obtain ⟨n, hn⟩ : ∃ n, n = up.length := ⟨_, rfl⟩
  have HN := Lib.hid hn
  rw [← hn] at HV hc1 ⊢
  clear hn
  go_enter Tryz.func50, Tryz.ntmps50
  go_wp2
  go_loopw [8] (fun i wr => ∃ k : Nat, i = .int .i64 k ∧ k ≤ n ∧ (up.take k).any (!·) = false ∧ Mod (fun _ => False) w wr) (fun i _ => n - (intOf i).toNat)
  case atStart => exact ⟨0, rfl, Nat.zero_le _, by simp, Mod.refl _ _⟩
  case round =>
    obtain ⟨k, rfl, hk, hall, hm⟩ := hrel
    have HA := Lib.hid hall
    have HM := Lib.hid hm
    clear hall
    by_cases hkn : k < n
    · obtain ⟨x, hx⟩ : ∃ x, up[k]? = some x := ⟨_, List.getElem?_eq_getElem (by rw [← HN.out]; exact hkn)⟩
      have HX := Lib.hid hx
      obtain ⟨b, off, rfl, hb, p0⟩ := HV.out.ent hx rfl
      have p0 := hm.cell p0
      clear hx hm
      cases x with
      | false =>
        have HF : Hid (up.any (!·) = true) := Lib.hid (any_at HX.out rfl)
        go_wp2
        go_ret
        exact ⟨⟨_, rfl, by rw [HF.out]; simp⟩, HM.out⟩
      | true =>
        have HF : Hid ((up.take (k + 1)).any (!·) = false) := Lib.hid (take_any_succ HA.out HX.out rfl)
        go_wp2
        go_roundw
        case rel => exact ⟨k + 1, by go_num, by omega, HF.out, HM.out⟩
        case measure => simp [intOf]; omega
    · have HF : Hid (up.any (!·) = false) := Lib.hid (by
        have := HA.out
        rwa [List.take_of_length_le (by have := HN.out; omega)] at this)
      clear hm
      go_wp2
      go_ret
      exact ⟨⟨_, rfl, by rw [HF.out]; rfl⟩, HM.out⟩
theorem contF_any (v : Value) (up : List Bool) (w : World) (hv : FRd w v up) :
    Calls Tryz.prog 30 #[v, .bool false] w fun e w' => e = .returned (.bool (up.any (!·))) ∧ Mod (fun _ => False) w w' := by
  have HI := Lib.hid (idxF_any v up w hv)
  obtain ⟨a, c, rfl, -⟩ := (show RdS _ _ _ _ _ from hv).shape
  clear hv
  generalize up.any (!·) = q at HI ⊢
  go_enter Tryz.func30, Tryz.ntmps30
  go_wp2_with (go_at_call 50; refine HI.out.mono ?_; rintro e w3 ⟨⟨r, rfl, hr⟩, hm⟩; have M3 := Lib.hid hm; have HR := Lib.hid hr; clear hm hr)
  go_ret
  exact ⟨ret_bool HR.out, M3.out⟩
end Go.Proofs.YtnkmfgklmfmfeaaGreatDoor
