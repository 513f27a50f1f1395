/- repair.judge: what is told of a half. -/
import Derived.Test.YtdblilhkojafgaaV11
namespace Go.Proofs.Ytdblilhkojafgaa
set_option linter.unusedVariables false
open Go.RowKit

def zseat : Value := .agg #[.int .i64 0, .int .u32 0, .bool false, .slice none 0 0, .slice none 0 0]
theorem zero_seat (w : World) : (zeroValue 92).run Try.prog w = .ok zseat w := Try.zeroValue92 w

deriving instance DecidableEq for Val

def judgeN (ps : List (Nat × Vs)) (id : Nat) (h : Ent) (all : Bool) : Nat :=
  match seatF ps h.key with
  | none => if all then 2 else 4
  | some p => match p.2.x.halves.find? (fun e => e.key == id) with
    | none => 2
    | some e => if e.val = h.val then 0 else 3

set_option maxRecDepth 100000 in
set_option maxHeartbeats 1000000 in
theorem judge_miss (ps : List (Nat × Vs)) (es : Ents) (bm : Nat) (x : Vtx) (vp vh : Value) (h : Ent) (all : Bool) (w : World) (hU : UMap Try.prog 27 .u32 w bm es) (ht : Tells ps es) (hx : VRd w vp vh x) (hf : h.key < 4294967296) (hn : seatF ps h.key = none) :
    Calls Try.prog 39 #[.map (some bm), vtxV x vp vh, h.v .u32, .bool all] w fun e w' => e = .returned (.int .u8 (judgeN ps x.id h all : Int)) ∧ Mod (fun _ => False) w w' := by
  have hj : judgeN ps x.id h all = if all then 2 else 4 := by simp [judgeN, hn]
  rw [hj]
  have hg : getL h.key es = none := by rw [ht, hn]; rfl
  have HK := Lib.hid (u32key hf)
  have HLK : Hid (∀ w', Mod (fun _ => False) w w' → (Instr.lookup 88 (.map (some bm)) (.int .u32 (h.key : Int)) true).run Try.prog w' = .ok (.tuple #[zseat, .bool false]) w') := Lib.hid (by
    intro w' m
    have := (hU.keep m).getOk Try.underlying27 Try.underlying88 (zero_seat w') HK.out
    rw [hg] at this
    simpa using this)
  obtain ⟨id, there, xs, ys⟩ := x
  obtain ⟨np, ap, cp, rfl⟩ : ∃ np ap cp, vp = .slice ap np cp := by
    obtain ⟨a, c, e, _⟩ := hx.props.shape
    exact ⟨_, _, _, e⟩
  obtain ⟨nh, ah, ch, rfl⟩ : ∃ np ap cp, vh = .slice ap np cp := by
    obtain ⟨a, c, e, _⟩ := hx.halves.shape
    exact ⟨_, _, _, e⟩
  obtain ⟨key, vk, vn, vs⟩ := h
  show Calls _ _ #[.map (some bm), .agg #[.int .u32 (id : Int), .bool there, .slice ap np cp, .slice ah nh ch], .agg #[.int .u32 (key : Int), .int .u8 (vk : Int), .int .i64 vn, .string vs], .bool all] w _
  simp only at HLK
  clear hU ht hx hn hj hg hf HK
  go_enter Try.func39, Try.ntmps39
  have hlk := HLK.out _ (((Mod.refl (fun _ => False) w).alloc (.cells #[.int .u32 (id : Int), .bool there, .slice ap np cp, .slice ah nh ch] 31)).alloc (.cells #[.int .u32 (key : Int), .int .u8 (vk : Int), .int .i64 vn, .string vs] 96))
  simp only [zseat] at hlk
  cases all with
  | true =>
    go_wp2_with fail
    go_ret
    exact ⟨by simp, by repeat (first | exact Mod.refl _ w | apply Mod.alloc | apply Mod.drewN | apply Mod.drew)⟩
  | false =>
    go_wp2_with fail
    go_ret
    exact ⟨by simp, by repeat (first | exact Mod.refl _ w | apply Mod.alloc | apply Mod.drewN | apply Mod.drew)⟩

theorem idxE_find (far : Nat) (l : List Ent) : (idxE far l 0 = -1 ∧ l.find? (fun e => e.key == far) = none) ∨ ∃ (k : Nat) (y : Ent), idxE far l 0 = (k : Int) ∧ l[k]? = some y ∧ l.find? (fun e => e.key == far) = some y := by
  cases hf : l.find? (fun e => e.key == far) with
  | none => exact .inl ⟨idxE_none l 0 (by simpa using hf), rfl⟩
  | some y =>
    obtain ⟨h1, us, bs, rfl, h2⟩ := List.find?_eq_some_iff_append.1 hf
    refine .inr ⟨us.length, y, ?_, by simp, rfl⟩
    have := idxE_at (us ++ y :: bs) 0 us.length y (by simp) (by simpa using h1) (by simpa using h2)
    simpa using this

set_option maxRecDepth 100000 in
set_option maxHeartbeats 1000000 in
theorem judge_hit_none (ps : List (Nat × Vs)) (es : Ents) (bm : Nat) (x : Vtx) (vp vh : Value) (h : Ent) (all : Bool) (w : World) (p : Nat × Vs) (hU : UMap Try.prog 27 .u32 w bm es) (ht : Tells ps es) (hx : VRd w vp vh x) (hp : VRd w p.2.vp p.2.vh p.2.x) (hf : h.key < 4294967296) (hn : seatF ps h.key = some p)
    (hi : idxE x.id p.2.x.halves 0 = -1) (hfi : p.2.x.halves.find? (fun e => e.key == x.id) = none) :
    Calls Try.prog 39 #[.map (some bm), vtxV x vp vh, h.v .u32, .bool all] w fun e w' => e = .returned (.int .u8 (judgeN ps x.id h all : Int)) ∧ Mod (fun _ => False) w w' := by
  have hj : judgeN ps x.id h all = 2 := by simp only [judgeN, hn, hfi]
  rw [hj]
  have hg : getL h.key es = some (seatV p) := by rw [ht, hn]; rfl
  have HK := Lib.hid (u32key hf)
  have HLK : Hid (∀ w', Mod (fun _ => False) w w' → (Instr.lookup 88 (.map (some bm)) (.int .u32 (h.key : Int)) true).run Try.prog w' = .ok (.tuple #[seatV p, .bool true]) w') := Lib.hid (by
    intro w' m
    have := (hU.keep m).getOk Try.underlying27 Try.underlying88 (zero_seat w') HK.out
    rw [hg] at this
    simpa using this)
  have HHF : Hid (∀ w', Mod (fun _ => False) w w' → Calls Try.prog 63 #[vtxV p.2.x p.2.vp p.2.vh, .int .u32 (x.id : Int)] w' fun e w'' => e = .returned (.tuple #[.agg #[.int .u8 0, .int .i64 0, zval], .bool false]) ∧ Mod (fun _ => False) w' w'') := Lib.hid (fun w' m => half_none p.2.x p.2.vp p.2.vh x.id w' (hp.keep m) hi)
  obtain ⟨id, there, xs, ys⟩ := x
  obtain ⟨np, ap, cp, rfl⟩ : ∃ np ap cp, vp = .slice ap np cp := by
    obtain ⟨a, c, e, _⟩ := hx.props.shape
    exact ⟨_, _, _, e⟩
  obtain ⟨nh, ah, ch, rfl⟩ : ∃ np ap cp, vh = .slice ap np cp := by
    obtain ⟨a, c, e, _⟩ := hx.halves.shape
    exact ⟨_, _, _, e⟩
  obtain ⟨key, vk, vn, vs⟩ := h
  obtain ⟨pn, ⟨pid, pthere, pps, phs⟩, pvp, pvh⟩ := p
  simp only at hp
  obtain ⟨np', ap', cp', rfl⟩ : ∃ np ap cp, pvp = .slice ap np cp := by
    obtain ⟨a, c, e, _⟩ := hp.props.shape
    exact ⟨_, _, _, e⟩
  obtain ⟨nh', ah', ch', rfl⟩ : ∃ np ap cp, pvh = .slice ap np cp := by
    obtain ⟨a, c, e, _⟩ := hp.halves.shape
    exact ⟨_, _, _, e⟩
  show Calls _ _ #[.map (some bm), .agg #[.int .u32 (id : Int), .bool there, .slice ap np cp, .slice ah nh ch], .agg #[.int .u32 (key : Int), .int .u8 (vk : Int), .int .i64 vn, .string vs], .bool all] w _
  simp only [seatV, vtxV, zval] at HLK HHF
  clear hU ht hx hn hj hg hf HK hi hfi hp
  go_enter Try.func39, Try.ntmps39
  have hlk := HLK.out _ (((Mod.refl (fun _ => False) w).alloc (.cells #[.int .u32 (id : Int), .bool there, .slice ap np cp, .slice ah nh ch] 31)).alloc (.cells #[.int .u32 (key : Int), .int .u8 (vk : Int), .int .i64 vn, .string vs] 96))
  go_wp2_with (go_at_call 63; refine (HHF.out _ (by repeat (first | exact Mod.refl _ w | apply Mod.alloc | apply Mod.drewN | apply Mod.drew))).mono ?_; rintro e w3 ⟨rfl, hm⟩; have M3 : Hid (Mod (fun _ => False) w w3) := Lib.hid (Mod.trans (by repeat (first | exact Mod.refl _ w | apply Mod.alloc | apply Mod.drewN | apply Mod.drew)) hm); clear hm)
  go_ret
  exact ⟨rfl, by repeat (first | exact M3.out | apply Mod.alloc | apply Mod.drewN | apply Mod.drew)⟩

set_option maxRecDepth 100000 in
set_option maxHeartbeats 1000000 in
theorem judge_hit_some (ps : List (Nat × Vs)) (es : Ents) (bm : Nat) (x : Vtx) (vp vh : Value) (h : Ent) (all : Bool) (w : World) (p : Nat × Vs) (hU : UMap Try.prog 27 .u32 w bm es) (ht : Tells ps es) (hx : VRd w vp vh x) (hp : VRd w p.2.vp p.2.vh p.2.x) (hf : h.key < 4294967296) (hn : seatF ps h.key = some p)
    (k : Nat) (y : Ent) (hi : idxE x.id p.2.x.halves 0 = (k : Int)) (hy : p.2.x.halves[k]? = some y) (hfi : p.2.x.halves.find? (fun e => e.key == x.id) = some y) :
    Calls Try.prog 39 #[.map (some bm), vtxV x vp vh, h.v .u32, .bool all] w fun e w' => e = .returned (.int .u8 (judgeN ps x.id h all : Int)) ∧ Mod (fun _ => False) w w' := by
  have hj : judgeN ps x.id h all = if y.val = h.val then 0 else 3 := by simp only [judgeN, hn, hfi]
  rw [hj]
  have hg : getL h.key es = some (seatV p) := by rw [ht, hn]; rfl
  have HK := Lib.hid (u32key hf)
  have HLK : Hid (∀ w', Mod (fun _ => False) w w' → (Instr.lookup 88 (.map (some bm)) (.int .u32 (h.key : Int)) true).run Try.prog w' = .ok (.tuple #[seatV p, .bool true]) w') := Lib.hid (by
    intro w' m
    have := (hU.keep m).getOk Try.underlying27 Try.underlying88 (zero_seat w') HK.out
    rw [hg] at this
    simpa using this)
  have HHF : Hid (∀ w', Mod (fun _ => False) w w' → Calls Try.prog 63 #[vtxV p.2.x p.2.vp p.2.vh, .int .u32 (x.id : Int)] w' fun e w'' => e = .returned (.tuple #[.agg #[.int .u8 (y.val.k : Int), .int .i64 y.val.n, .string y.val.s], .bool true]) ∧ Mod (fun _ => False) w' w'') := Lib.hid (fun w' m => half_some p.2.x p.2.vp p.2.vh x.id k y w' (hp.keep m) hy hi)
  obtain ⟨id, there, xs, ys⟩ := x
  obtain ⟨np, ap, cp, rfl⟩ : ∃ np ap cp, vp = .slice ap np cp := by
    obtain ⟨a, c, e, _⟩ := hx.props.shape
    exact ⟨_, _, _, e⟩
  obtain ⟨nh, ah, ch, rfl⟩ : ∃ np ap cp, vh = .slice ap np cp := by
    obtain ⟨a, c, e, _⟩ := hx.halves.shape
    exact ⟨_, _, _, e⟩
  obtain ⟨key, vk, vn, vs⟩ := h
  obtain ⟨ykey, yk, yn, ys'⟩ := y
  obtain ⟨pn, ⟨pid, pthere, pps, phs⟩, pvp, pvh⟩ := p
  simp only at hp
  obtain ⟨np', ap', cp', rfl⟩ : ∃ np ap cp, pvp = .slice ap np cp := by
    obtain ⟨a, c, e, _⟩ := hp.props.shape
    exact ⟨_, _, _, e⟩
  obtain ⟨nh', ah', ch', rfl⟩ : ∃ np ap cp, pvh = .slice ap np cp := by
    obtain ⟨a, c, e, _⟩ := hp.halves.shape
    exact ⟨_, _, _, e⟩
  show Calls _ _ #[.map (some bm), .agg #[.int .u32 (id : Int), .bool there, .slice ap np cp, .slice ah nh ch], .agg #[.int .u32 (key : Int), .int .u8 (vk : Int), .int .i64 vn, .string vs], .bool all] w _
  simp only [seatV, vtxV] at HLK HHF
  clear hU ht hx hn hj hg hf HK hi hy hfi hp
  go_enter Try.func39, Try.ntmps39
  have hlk := HLK.out _ (((Mod.refl (fun _ => False) w).alloc (.cells #[.int .u32 (id : Int), .bool there, .slice ap np cp, .slice ah nh ch] 31)).alloc (.cells #[.int .u32 (key : Int), .int .u8 (vk : Int), .int .i64 vn, .string vs] 96))
  go_wp2_with (go_at_call 63; refine (HHF.out _ (by repeat (first | exact Mod.refl _ w | apply Mod.alloc | apply Mod.drewN | apply Mod.drew))).mono ?_; rintro e w3 ⟨rfl, hm⟩; have M3 : Hid (Mod (fun _ => False) w w3) := Lib.hid (Mod.trans (by repeat (first | exact Mod.refl _ w | apply Mod.alloc | apply Mod.drewN | apply Mod.drew)) hm); have B3 : w3.heap[w.heap.size + 1]? = some (.cells #[.int .u32 (key : Int), .int .u8 (vk : Int), .int .i64 vn, .string vs] 96 (0, 0)) := hm.heap (heap_alloc_old (by simpa using heap_alloc_new' (w.alloc (.cells #[.int .u32 (id : Int), .bool there, .slice ap np cp, .slice ah nh ch] 31)) (.cells #[.int .u32 (key : Int), .int .u8 (vk : Int), .int .i64 vn, .string vs] 96))) (fun f => f); have q1 := cell_of_row B3 1; have q2 := cell_of_row B3 2; have q3 := cell_of_row B3 3; simp at q1 q2 q3; have zz3 : w.heap.size + 1 < w3.heap.size := lt_of_block B3; clear hm B3)
  all_goals
    go_ret
    refine ⟨?_, by repeat (first | exact M3.out | apply Mod.alloc | apply Mod.drewN | apply Mod.drew)⟩
    first
      | rfl
      | (simp; done)
      | (exfalso; simp_all; done)
      | (exfalso
         rename_i h1 h2 h3 h4
         exact h4 (by
           have e : ys' = vs := ByteArray.ext (Array.toList_inj.1 (by have h5 := h3; simp only [ByteArray.toList_eq] at h5; exact h5))
           have e2 : yk = vk := by omega
           rw [e, e2, h2]))
end Go.Proofs.Ytdblilhkojafgaa
