/- repair.seats: where each vertex is held first. -/
import Derived.Test.YtdblilhkojafgaaV12
namespace Go.Proofs.Ytdblilhkojafgaa
set_option linter.unusedVariables false
open Go.RowKit

theorem held_mem (up : List Bool) : ∀ (ls : List Ls) (n : Nat) (p : Nat × Vs), p ∈ held up n ls → ∃ s ∈ ls, p.2 ∈ s.l
  | [], n, p, h => by simp [held] at h
  | s :: r, n, p, h => by
    simp only [held, List.mem_append] at h
    rcases h with h | h
    · split at h
      · obtain ⟨y, hy, rfl⟩ := List.mem_map.1 h
        exact ⟨s, by simp, hy⟩
      · simp at h
    · obtain ⟨t, ht, hp⟩ := held_mem up r (n + 1) p h
      exact ⟨t, List.mem_cons_of_mem _ ht, hp⟩
theorem heldTo_rd {w : World} {v : Value} {ls : List Ls} (h : LLRd w v ls) (up : List Bool) (k : Nat) : ∀ p ∈ heldTo up ls k, VRd w p.2.vp p.2.vh p.2.x := fun p hp => by
  obtain ⟨s, hs, hm⟩ := held_mem up _ 0 p hp
  exact (h.each s (List.mem_of_mem_take hs)).each _ hm

theorem heldTo_le (up : List Bool) (ls : List Ls) (k : Nat) : (heldTo up ls k).length ≤ (held up 0 ls).length := by
  have := held_append up (ls.take k) (ls.drop k) 0
  rw [List.take_append_drop] at this
  rw [this, List.length_append]
  exact Nat.le_add_right _ _
/-- The pairs met so far, in the midst of list k. -/
def part (up : List Bool) (ls : List Ls) (k : Nat) (xl : List Vs) (j : Nat) : List (Nat × Vs) := heldTo up ls k ++ (xl.take j).map (fun x => (k, x))
theorem part_succ {up : List Bool} {ls : List Ls} {k j : Nat} {xl : List Vs} {y : Vs} (h : xl[j]? = some y) : part up ls k xl (j + 1) = part up ls k xl j ++ [(k, y)] := by
  obtain ⟨hn, rfl⟩ := List.getElem?_eq_some_iff.1 h
  unfold part
  rw [List.take_succ_eq_append_getElem hn, List.map_append, List.append_assoc]
  rfl
theorem part_le {up : List Bool} {ls : List Ls} {k j : Nat} {s : Ls} (h : ls[k]? = some s) (hu : up[k]? = some true) : (part up ls k s.l j).length ≤ (held up 0 ls).length := by
  refine Nat.le_trans ?_ (heldTo_le up ls (k + 1))
  rw [heldTo_succ up ls k s h, if_pos hu]
  simp only [part, List.length_append, List.length_map, List.length_take]
  omega
theorem part_rd {w : World} {v : Value} {ls : List Ls} (h : LLRd w v ls) {up : List Bool} {k : Nat} {s : Ls} (hs : ls[k]? = some s) (j : Nat) : ∀ p ∈ part up ls k s.l j, VRd w p.2.vp p.2.vh p.2.x := fun p hp => by
  rcases List.mem_append.1 hp with hp | hp
  · exact heldTo_rd h up k p hp
  · obtain ⟨y, hy, rfl⟩ := List.mem_map.1 hp
    exact (h.at hs).each y (List.mem_of_mem_take hy)

/-- The map of seats, under way: ps are the pairs met so far. -/
structure SAt (w : World) (ps : List (Nat × Vs)) (wr : World) : Prop where
  mod : Mod (fun _ => False) w wr
  map : ∃ es, UMap Try.prog 27 .u32 wr w.heap.size es ∧ Tells ps es ∧ es.length ≤ ps.length

set_option maxRecDepth 100000 in
set_option maxHeartbeats 2000000 in
theorem seats_any (v vu : Value) (ls : List Ls) (up : List Bool) (w : World) (hv : LLRd w v ls) (hu : FRd w vu up) (hl : ls.length ≤ up.length) (hs : (held up 0 ls).length < maxLen) :
    Calls Try.prog 37 #[v, vu] w fun e w' => e = .returned (.map (some w.heap.size)) ∧ SAt w (held up 0 ls) w' := by
  have HV := Lib.hid hv
  have HU := Lib.hid hu
  obtain ⟨a, c, rfl, hc1, hc2, -⟩ := hv.row.shape
  obtain ⟨au, cu, rfl, hcu1, hcu2, -⟩ := (show RdS _ _ _ _ _ from hu).shape
  have HS := Lib.hid hs
  clear hv hu hs
  obtain ⟨n, hn⟩ : ∃ n, n = ls.length := ⟨_, rfl⟩
  obtain ⟨nu, hnu⟩ : ∃ nu, nu = up.length := ⟨_, rfl⟩
  have HN := Lib.hid hn
  have HNU := Lib.hid hnu
  rw [← hn] at HV hc1 hl ⊢
  rw [← hnu] at HU hcu1 hl ⊢
  clear hn hnu
  have hmm := @run_makeMap Try.prog
  go_enter Try.func37, Try.ntmps37
  go_wp2_with fail
  go_loopw [15] (fun i wr => ∃ k : Nat, i = .int .i64 k ∧ k ≤ n ∧ SAt w (heldTo up ls k) wr) (fun i _ => n - (intOf i).toNat)
  case atStart =>
    exact ⟨0, rfl, Nat.zero_le _, (Mod.refl _ _).alloc _, [], UMap.made _ _ _ _, Tells.nil, Nat.le_refl _⟩
  case round =>
    obtain ⟨k, rfl, hk, hm⟩ := hrel
    have HM := Lib.hid hm
    clear hm
    by_cases hkn : k < n
    · obtain ⟨x, hx⟩ : ∃ x, ls[k]? = some x := ⟨_, List.getElem?_eq_getElem (by rw [← HN.out]; exact hkn)⟩
      obtain ⟨u, hu⟩ : ∃ u, up[k]? = some u := ⟨_, List.getElem?_eq_getElem (by rw [← HNU.out]; omega)⟩
      have HX := Lib.hid hx
      have HUX := Lib.hid hu
      obtain ⟨b, off, rfl, hb, p0⟩ := HV.out.ent hx rfl
      obtain ⟨bu, offu, rfl, hbu, q0⟩ := HU.out.ent hu rfl
      have p0 := HM.out.mod.cell p0
      have HL := Lib.hid (HV.out.at hx)
      obtain ⟨xv, xl⟩ := x
      simp only at p0 HL
      have HQ := Lib.hid q0
      obtain ⟨al, cl, rfl, hcl1, hcl2, -⟩ := HL.out.row.shape
      obtain ⟨m, hm⟩ : ∃ m, m = xl.length := ⟨_, rfl⟩
      have HML := Lib.hid hm
      rw [← hm] at p0 HL hcl1
      clear hx hu q0 hm
      go_wp2_with fail
      go_loopw [22] (fun i wr' => ∃ j : Nat, i = .int .i64 j ∧ j ≤ m ∧ SAt w (heldTo up ls k ++ (if u = true then (xl.take j).map (fun x => (k, x)) else [])) wr') (fun i _ => m - (intOf i).toNat)
      case atStart => exact ⟨0, rfl, Nat.zero_le _, by simpa using HM.out⟩
      case round =>
        obtain ⟨j, rfl, hj, hm⟩ := hrel
        have HJ := Lib.hid hm
        clear hm
        by_cases hjm : j < m
        · obtain ⟨y, hy⟩ : ∃ y, xl[j]? = some y := ⟨_, List.getElem?_eq_getElem (by rw [← HML.out]; exact hjm)⟩
          have HY := Lib.hid hy
          obtain ⟨bl, offl, rfl, hbl, r0, r1, r2, r3⟩ := HL.out.ent hy rfl
          have r0 := HJ.out.mod.cell r0
          have r1 := HJ.out.mod.cell r1
          have r2 := HJ.out.mod.cell r2
          have r3 := HJ.out.mod.cell r3
          have HVR := Lib.hid (HL.out.at hy)
          have q0 := HJ.out.mod.cell HQ.out
          obtain ⟨es, hU, hT, hEL⟩ := HJ.out.map
          have HUM := Lib.hid hU
          have HT := Lib.hid hT
          have HK := Lib.hid (u32key HVR.out.fits.id)
          clear hy hU hT
          cases u with
          | false =>
            have HHR : Hid (∀ p ∈ heldTo up ls k, VRd w p.2.vp p.2.vh p.2.x) := Lib.hid (heldTo_rd HV.out up k)
            cases hg : getL y.x.id es with
            | none =>
              have HLK : Hid (∀ w', Mod (fun _ => False) wr w' → (Instr.lookup 88 (.map (some w.heap.size)) (.int .u32 (y.x.id : Int)) true).run Try.prog w' = .ok (.tuple #[zseat, .bool false]) w') := Lib.hid (by
                intro w' m
                have := (HUM.out.keep m).getOk Try.underlying27 Try.underlying88 (zero_seat w') HK.out
                rw [hg] at this
                simpa using this)
              obtain ⟨⟨id, there, xs, ys⟩, vp, vh⟩ := y
              obtain ⟨np, ap, cp, rfl⟩ : ∃ np ap cp, vp = .slice ap np cp := by
                obtain ⟨a, c, e, _⟩ := HVR.out.props.shape
                exact ⟨_, _, _, e⟩
              obtain ⟨nh, ah, ch, rfl⟩ : ∃ np ap cp, vh = .slice ap np cp := by
                obtain ⟨a, c, e, _⟩ := HVR.out.halves.shape
                exact ⟨_, _, _, e⟩
              simp only at r0 r1 r2 r3 HLK hg
              have hlk := HLK.out _ ((Mod.refl (fun _ => False) wr).alloc (.cells #[.int .u32 (id : Int), .bool there, .slice ap np cp, .slice ah nh ch] 31))
              simp only [zseat] at hlk
              have zbu : bu < wr.heap.size := Nat.lt_of_lt_of_le hbu HJ.out.mod.size
              have zw : w.heap.size < wr.heap.size := HUM.out.lt
              go_wp2
              go_roundw
              case rel => exact ⟨j + 1, by go_num, by omega, (HJ.out.mod.alloc _).alloc _, es, HUM.out.keep (((Mod.refl _ wr).alloc _).alloc _), by simpa using HT.out, by simpa using hEL⟩
              case measure => simp [intOf]; omega
            | some z =>
              obtain ⟨p, hp, rfl⟩ : ∃ p, seatF (heldTo up ls k) y.x.id = some p ∧ seatV p = z := by
                have := HT.out y.x.id
                rw [hg] at this
                simpa using this.symm
              have HPR := Lib.hid (HHR.out p (List.mem_of_find?_eq_some hp))
              have HLK : Hid (∀ w', Mod (fun _ => False) wr w' → (Instr.lookup 88 (.map (some w.heap.size)) (.int .u32 (y.x.id : Int)) true).run Try.prog w' = .ok (.tuple #[seatV p, .bool true]) w') := Lib.hid (by
                intro w' m
                have := (HUM.out.keep m).getOk Try.underlying27 Try.underlying88 (zero_seat w') HK.out
                rw [hg] at this
                simpa using this)
              obtain ⟨⟨id, there, xs, ys⟩, vp, vh⟩ := y
              obtain ⟨pn, ⟨pid, pthere, pps, phs⟩, pvp, pvh⟩ := p
              simp only at HPR
              obtain ⟨np', ap', cp', rfl⟩ : ∃ np ap cp, pvp = .slice ap np cp := by
                obtain ⟨a, c, e, _⟩ := HPR.out.props.shape
                exact ⟨_, _, _, e⟩
              obtain ⟨nh', ah', ch', rfl⟩ : ∃ np ap cp, pvh = .slice ap np cp := by
                obtain ⟨a, c, e, _⟩ := HPR.out.halves.shape
                exact ⟨_, _, _, e⟩
              obtain ⟨np, ap, cp, rfl⟩ : ∃ np ap cp, vp = .slice ap np cp := by
                obtain ⟨a, c, e, _⟩ := HVR.out.props.shape
                exact ⟨_, _, _, e⟩
              obtain ⟨nh, ah, ch, rfl⟩ : ∃ np ap cp, vh = .slice ap np cp := by
                obtain ⟨a, c, e, _⟩ := HVR.out.halves.shape
                exact ⟨_, _, _, e⟩
              simp only at r0 r1 r2 r3 HLK hg
              have hlk := HLK.out _ ((Mod.refl (fun _ => False) wr).alloc (.cells #[.int .u32 (id : Int), .bool there, .slice ap np cp, .slice ah nh ch] 31))
              simp only [seatV] at hlk
              have zbu : bu < wr.heap.size := Nat.lt_of_lt_of_le hbu HJ.out.mod.size
              have zw : w.heap.size < wr.heap.size := HUM.out.lt
              go_wp2
              go_roundw
              case rel => exact ⟨j + 1, by go_num, by omega, (HJ.out.mod.alloc _).alloc _, es, HUM.out.keep (((Mod.refl _ wr).alloc _).alloc _), by simpa using HT.out, by simpa using hEL⟩
              case measure => simp [intOf]; omega
          | true =>
            have HHR : Hid (∀ p ∈ part up ls k xl j, VRd w p.2.vp p.2.vh p.2.x) := Lib.hid (part_rd HV.out HX.out j)
            have HPS : Hid (heldTo up ls k ++ (xl.take (j + 1)).map (fun x => (k, x)) = part up ls k xl j ++ [(k, y)]) := Lib.hid (part_succ HY.out)
            have HT : Hid (Tells (part up ls k xl j) es) := Lib.hid (by have := HT.out; rw [if_pos rfl] at this; exact this)
            have hEL : es.length ≤ (part up ls k xl j).length := by rw [if_pos rfl] at hEL; exact hEL
            cases hg : getL y.x.id es with
            | none =>
              have HLK : Hid (∀ w', Mod (fun _ => False) wr w' → (Instr.lookup 88 (.map (some w.heap.size)) (.int .u32 (y.x.id : Int)) true).run Try.prog w' = .ok (.tuple #[zseat, .bool false]) w') := Lib.hid (by
                intro w' m
                have := (HUM.out.keep m).getOk Try.underlying27 Try.underlying88 (zero_seat w') HK.out
                rw [hg] at this
                simpa using this)
              obtain ⟨⟨id, there, xs, ys⟩, vp, vh⟩ := y
              obtain ⟨np, ap, cp, rfl⟩ : ∃ np ap cp, vp = .slice ap np cp := by
                obtain ⟨a, c, e, _⟩ := HVR.out.props.shape
                exact ⟨_, _, _, e⟩
              obtain ⟨nh, ah, ch, rfl⟩ : ∃ np ap cp, vh = .slice ap np cp := by
                obtain ⟨a, c, e, _⟩ := HVR.out.halves.shape
                exact ⟨_, _, _, e⟩
              simp only at r0 r1 r2 r3 HLK hg
              have hlk := HLK.out _ ((Mod.refl (fun _ => False) wr).alloc (.cells #[.int .u32 (id : Int), .bool there, .slice ap np cp, .slice ah nh ch] 31))
              simp only [zseat] at hlk
              have zbu : bu < wr.heap.size := Nat.lt_of_lt_of_le hbu HJ.out.mod.size
              have zw : w.heap.size < wr.heap.size := HUM.out.lt
              obtain ⟨w5, hrun, hU5, hM5⟩ := ((HUM.out.keep (((Mod.refl (fun _ => False) wr).alloc (.cells #[.int .u32 (id : Int), .bool there, .slice ap np cp, .slice ah nh ch] 31)).alloc (.cells #[.int .i64 0, .int .u32 0, .bool false, .slice none 0 0, .slice none 0 0] 92)))).store Try.underlying27 Try.underlying88 (Nat.lt_of_le_of_lt hEL (Nat.lt_of_le_of_lt (part_le HX.out HUX.out) HS.out)) HK.out (seatV (k, ⟨⟨id, there, xs, ys⟩, .slice ap np cp, .slice ah nh ch⟩))
              have HU5 := Lib.hid hU5
              have M5 : Hid (Mod (fun _ => False) w w5) := Lib.hid (((HJ.out.mod.alloc _).alloc _).trans' hM5 (fun i hlt hi => absurd hlt (by rw [hi]; exact Nat.lt_irrefl _)))
              have HTN := Lib.hid (HT.out.new (k, ⟨⟨id, there, xs, ys⟩, .slice ap np cp, .slice ah nh ch⟩) hg)
              have HLN : Hid ((putL id (seatV (k, ⟨⟨id, there, xs, ys⟩, .slice ap np cp, .slice ah nh ch⟩)) es).length ≤ (part up ls k xl j ++ [((k, ⟨⟨id, there, xs, ys⟩, .slice ap np cp, .slice ah nh ch⟩) : Nat × Vs)]).length) := Lib.hid (by
                have := putL_length id (seatV (k, ⟨⟨id, there, xs, ys⟩, .slice ap np cp, .slice ah nh ch⟩)) es
                rw [List.length_append]
                simp only [List.length_singleton]
                omega)
              simp only [seatV] at hrun
              clear hU5 hM5
              go_wp2
              go_roundw
              case rel => exact ⟨j + 1, by go_num, by omega, by rw [HPS.out]; exact ⟨M5.out, _, HU5.out, HTN.out, HLN.out⟩⟩
              case measure => simp [intOf]; omega
            | some z =>
              obtain ⟨p, hp, rfl⟩ : ∃ p, seatF (part up ls k xl j) y.x.id = some p ∧ seatV p = z := by
                have := HT.out y.x.id
                rw [hg] at this
                simpa using this.symm
              have HPR := Lib.hid (HHR.out p (List.mem_of_find?_eq_some hp))
              have HTO := Lib.hid (HT.out.old (k, y) (by simp only; rw [hg]; exact fun h => by cases h))
              have HLO : Hid (es.length ≤ (part up ls k xl j ++ [(k, y)]).length) := Lib.hid (by rw [List.length_append]; omega)
              have HLK : Hid (∀ w', Mod (fun _ => False) wr w' → (Instr.lookup 88 (.map (some w.heap.size)) (.int .u32 (y.x.id : Int)) true).run Try.prog w' = .ok (.tuple #[seatV p, .bool true]) w') := Lib.hid (by
                intro w' m
                have := (HUM.out.keep m).getOk Try.underlying27 Try.underlying88 (zero_seat w') HK.out
                rw [hg] at this
                simpa using this)
              obtain ⟨⟨id, there, xs, ys⟩, vp, vh⟩ := y
              obtain ⟨pn, ⟨pid, pthere, pps, phs⟩, pvp, pvh⟩ := p
              simp only at HPR
              obtain ⟨np', ap', cp', rfl⟩ : ∃ np ap cp, pvp = .slice ap np cp := by
                obtain ⟨a, c, e, _⟩ := HPR.out.props.shape
                exact ⟨_, _, _, e⟩
              obtain ⟨nh', ah', ch', rfl⟩ : ∃ np ap cp, pvh = .slice ap np cp := by
                obtain ⟨a, c, e, _⟩ := HPR.out.halves.shape
                exact ⟨_, _, _, e⟩
              obtain ⟨np, ap, cp, rfl⟩ : ∃ np ap cp, vp = .slice ap np cp := by
                obtain ⟨a, c, e, _⟩ := HVR.out.props.shape
                exact ⟨_, _, _, e⟩
              obtain ⟨nh, ah, ch, rfl⟩ : ∃ np ap cp, vh = .slice ap np cp := by
                obtain ⟨a, c, e, _⟩ := HVR.out.halves.shape
                exact ⟨_, _, _, e⟩
              simp only at r0 r1 r2 r3 HLK hg
              have hlk := HLK.out _ ((Mod.refl (fun _ => False) wr).alloc (.cells #[.int .u32 (id : Int), .bool there, .slice ap np cp, .slice ah nh ch] 31))
              simp only [seatV] at hlk
              have zbu : bu < wr.heap.size := Nat.lt_of_lt_of_le hbu HJ.out.mod.size
              have zw : w.heap.size < wr.heap.size := HUM.out.lt
              go_wp2
              go_roundw
              case rel => exact ⟨j + 1, by go_num, by omega, by rw [HPS.out]; exact ⟨(HJ.out.mod.alloc _).alloc _, es, HUM.out.keep (((Mod.refl _ wr).alloc _).alloc _), HTO.out, HLO.out⟩⟩
              case measure => simp [intOf]; omega
        · have HF : Hid (heldTo up ls (k + 1) = heldTo up ls k ++ (if u = true then (xl.take j).map (fun x => (k, x)) else [])) := Lib.hid (by
            rw [heldTo_succ up ls k _ HX.out, HUX.out, List.take_of_length_le (by have := HML.out; omega)]
            simp)
          rw [← HF.out] at HJ
          go_wp2
          go_roundw
          case rel => exact ⟨k + 1, by go_num, by omega, HJ.out⟩
          case measure => simp [intOf]; omega
    · have HF : Hid (heldTo up ls k = held up 0 ls) := Lib.hid (heldTo_all up ls k (by have := HN.out; omega))
      go_wp2
      go_ret
      exact ⟨rfl, by rw [← HF.out]; exact HM.out⟩
end Go.Proofs.Ytdblilhkojafgaa
