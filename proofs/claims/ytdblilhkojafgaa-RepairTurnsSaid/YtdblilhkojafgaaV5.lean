/- graph.Put that lays a vertex. -/
import Derived.Test.YtdblilhkojafgaaV4
namespace Go.Proofs.Ytdblilhkojafgaa
set_option linter.unusedVariables false
open Go.RowKit

structure PutAt (w : World) (s : Nat) (o : Array Value) (ps hs : Ents) (wr : World) : Prop where
  mod : Mod (fun _ => False) w wr
  box : wr.heap[w.heap.size]? = some (.cells o 31 (0, 0))
  vert : wr.heap[s + 2]? = some (.cells #[.map (some s), .map (some (s + 1))] 148 (0, 0))
  props : UMap Try.prog 5 .u8 wr s ps
  edges : UMap Try.prog 27 .u32 wr (s + 1) hs
  lo : w.heap.size < s
theorem PutAt.more {w wx wy : World} {s : Nat} {o : Array Value} {ps hs : Ents} (h : PutAt w s o ps hs wx) (m : Mod (fun _ => False) wx wy) : PutAt w s o ps hs wy :=
  ⟨h.mod.trans m, m.heap h.box (fun f => f), m.heap h.vert (fun f => f), h.props.keep m, h.edges.keep m, h.lo⟩
theorem PutAt.prop {w wx wz wy : World} {s : Nat} {o : Array Value} {ps ps' hs : Ents} (h : PutAt w s o ps hs wx) (m0 : Mod (fun _ => False) wx wz) (hU : UMap Try.prog 5 .u8 wy s ps') (m : Mod (fun i => i = s) wz wy) : PutAt w s o ps' hs wy := by
  have h0 := h.more m0
  have hl := h.lo
  exact ⟨h0.mod.trans' m (fun i hi e => by omega), m.heap h0.box (by omega), m.heap h0.vert (by omega), hU, h0.edges.mod m (by omega), hl⟩
theorem PutAt.edge {w wx wz wy : World} {s : Nat} {o : Array Value} {ps hs hs' : Ents} (h : PutAt w s o ps hs wx) (m0 : Mod (fun _ => False) wx wz) (hU : UMap Try.prog 27 .u32 wy (s + 1) hs') (m : Mod (fun i => i = s + 1) wz wy) : PutAt w s o ps hs' wy := by
  have h0 := h.more m0
  have hl := h.lo
  exact ⟨h0.mod.trans' m (fun i hi e => by omega), m.heap h0.box (by omega), m.heap h0.vert (by omega), h0.props.mod m (by omega), hU, hl⟩
theorem PutAt.begin {w w3 : World} {o : Array Value} (m : Mod (fun _ => False) w w3) (hb : w3.heap[w.heap.size]? = some (.cells o 31 (0, 0))) :
    PutAt w w3.heap.size o [] [] (((w3.alloc (.map #[] 0)).alloc (.map #[] 0)).alloc (.cells #[.map (some w3.heap.size), .map (some (w3.heap.size + 1))] 148)) := by
  have hm : Mod (fun _ => False) w3 (((w3.alloc (.map #[] 0)).alloc (.map #[] 0)).alloc (.cells #[.map (some w3.heap.size), .map (some (w3.heap.size + 1))] 148)) := (((Mod.refl _ _).alloc _).alloc _).alloc _
  refine ⟨m.trans hm, hm.heap hb (fun f => f), ?_, (UMap.made Try.prog 5 .u8 w3).keep (((Mod.refl _ _).alloc _).alloc _), ?_, lt_of_block hb⟩
  · have h := heap_alloc_new' ((w3.alloc (.map #[] 0)).alloc (.map #[] 0)) (.cells #[.map (some w3.heap.size), .map (some (w3.heap.size + 1))] 148)
    simpa using h
  · have h := (UMap.made Try.prog 27 .u32 (w3.alloc (.map #[] 0))).keep ((Mod.refl _ _).alloc (.cells #[.map (some w3.heap.size), .map (some (w3.heap.size + 1))] 148))
    simpa using h
theorem putAll_snoc (l : List Ent) (k : Nat) (x : Ent) (h : l[k]? = some x) (es : Ents) : putAll es (l.take (k + 1)) = putL x.key x.val.v (putAll es (l.take k)) := by
  obtain ⟨hk, hx⟩ := List.getElem?_eq_some_iff.1 h
  rw [List.take_succ_eq_append_getElem hk, hx]
  simp [putAll]
theorem putAll_length (l : List Ent) : ∀ es : Ents, (putAll es l).length ≤ es.length + l.length := by
  induction l with
  | nil => intro es; simp [putAll]
  | cons x r ih =>
    intro es
    have h1 := ih (putL x.key x.val.v es)
    have h2 := putL_length x.key x.val.v es
    show (putAll (putL x.key x.val.v es) r).length ≤ _
    simp only [List.length_cons]; omega

/-- A vertex has been laid at a new place. -/
def Laid (w : World) (g bm : Nat) (x : Vtx) (es : Ents) (e : Ending) (w' : World) : Prop :=
  ∃ a, e = .returned (.int .i64 0) ∧ Mod (fun k => k = bm) w w' ∧ w.heap.size ≤ a ∧ GAt w' g bm (putL x.id (.pointer (some ⟨a, 0, none⟩)) es) ∧ VertAt w' a (putAll [] x.props) (putAll [] x.halves)

set_option maxRecDepth 100000 in
set_option maxHeartbeats 2000000 in
theorem put_good (x : Vtx) (vp vh : Value) (g bm : Nat) (es : Ents) (w : World) (hx : VRd w vp vh x) (hr : x.right = true) (ht : x.there = true) (hg : GAt w g bm es) (hes : es.length < 1000000) :
    Calls Try.prog 54 #[.pointer (some ⟨g, 0, none⟩), vtxV x vp vh] w (Laid w g bm x es) := by
  have HR := Lib.hid (right_call x vp vh w hx true hr)
  have HID := Lib.hid (u32key hx.fits.id)
  obtain ⟨id, there, ps, hs⟩ := x
  simp only at ht
  subst ht
  have HP := Lib.hid hx.props
  have HH := Lib.hid hx.halves
  have HF := Lib.hid hx.fits
  obtain ⟨ap, cp, rfl, hcp, hcp2, hap⟩ := hx.props.shape
  obtain ⟨ah, ch, rfl, hch, hch2, hah⟩ := hx.halves.shape
  simp only at hcp hch HP HH HID
  show Calls _ _ #[.pointer (some ⟨g, 0, none⟩), .agg #[.int .u32 (id : Int), .bool true, .slice ap ps.length cp, .slice ah hs.length ch]] w _
  simp only at HR
  have HG := Lib.hid hg
  have zg := lt_of_block hg.cell
  have zm := hg.map.lt
  have hne : bm ≠ g := by
    intro e
    obtain ⟨⟨es', clock, hb, _⟩⟩ := hg.map
    rw [e, hg.cell] at hb
    cases hb
  have HNE := Lib.hid hne
  clear hx hr hg hne hap hah
  obtain ⟨np, hnp⟩ : ∃ np, np = ps.length := ⟨_, rfl⟩
  obtain ⟨nh, hnh⟩ : ∃ nh, nh = hs.length := ⟨_, rfl⟩
  have HNP := Lib.hid hnp
  have HNH := Lib.hid hnh
  rw [← hnp] at hcp HP HR ⊢
  rw [← hnh] at hch HH HR ⊢
  clear hnp hnh
  go_enter Try.func54, Try.ntmps54
  have hmm := @run_makeMap Try.prog
  go_wp2_with fail
  refine (HR.out _ ((Mod.refl _ _).alloc _)).mono ?_
  rintro e w3 ⟨rfl, hm⟩
  have M3 : Hid (Mod (fun _ => False) w w3) := ((Mod.refl _ _).alloc _).trans hm
  have bx : w3.heap[w.heap.size]? = some (.cells #[.int .u32 (id : Int), .bool true, .slice ap np cp, .slice ah nh ch] 31 (0, 0)) := hm.heap (heap_alloc_new' w _) (fun f => f)
  have HPA := Lib.hid (PutAt.begin M3.out bx)
  have b0 := cell_of_row bx 0
  have b1 := cell_of_row bx 1
  have b2 := cell_of_row bx 2
  have b3 := cell_of_row bx 3
  simp at b0 b1 b2 b3
  have zz := lt_of_block bx
  clear hm bx
  go_upto_region 8 with fail
  go_cut [5] (fun v wx => v = .pointer (some ⟨w3.heap.size + 2, 0, none⟩) ∧ PutAt w w3.heap.size #[.int .u32 (id : Int), .bool true, .slice ap np cp, .slice ah nh ch] [] [] wx)
  case first =>
    clear b0 b1 b2 b3
    go_wp2_with fail
    go_meet
    exact ⟨rfl, HPA.out⟩
  case rest =>
    obtain ⟨rfl, hpa⟩ := hcut
    clear b0 b1 b2 b3 hmm HPA zz
    have HPA := Lib.hid hpa
    obtain ⟨s, hs0⟩ : ∃ s, s = w3.heap.size := ⟨_, rfl⟩
    rw [← hs0] at HPA ⊢
    clear hs0 hpa
    have b0 := cell_of_row HPA.out.box 0
    have b2 := cell_of_row HPA.out.box 2
    simp at b0 b2
    go_wp2_with fail
    clear b0 b2
    go_loopw [34] (fun i wr => ∃ k : Nat, i = .int .i64 k ∧ k ≤ np ∧ PutAt w s #[.int .u32 (id : Int), .bool true, .slice ap np cp, .slice ah nh ch] (putAll [] (ps.take k)) [] wr) (fun i _ => np - (intOf i).toNat)
    case atStart => exact ⟨0, rfl, Nat.zero_le _, HPA.out⟩
    case round =>
      obtain ⟨k, rfl, hk, hpk⟩ := hrel
      have HPK := Lib.hid hpk
      by_cases hkn : k < np
      · obtain ⟨x, hx⟩ : ∃ x, ps[k]? = some x := ⟨_, List.getElem?_eq_getElem (by rw [← HNP.out]; exact hkn)⟩
        have hfx := HF.out.props x (List.mem_of_getElem? hx)
        have HSN := Lib.hid (putAll_snoc ps k x hx [])
        obtain ⟨b, off, rfl, hb, p0, p1, p2, p3⟩ := HP.out.ent hx rfl
        have p0 := hpk.mod.cell p0
        have p1 := hpk.mod.cell p1
        have p2 := hpk.mod.cell p2
        have p3 := hpk.mod.cell p3
        have zc : b < wr.heap.size := Nat.lt_of_lt_of_le hb hpk.mod.size
        obtain ⟨key, vk, vn, vs⟩ := x
        simp only at p0 p1 p2 p3 hfx HSN
        have HKEY := Lib.hid (u8key hfx.1)
        have v0 := cell_of_row hpk.vert 0
        simp at v0
        have zv := lt_of_block hpk.vert
        have hlen : (putAll [] (ps.take k)).length < maxLen := by
          have h1 := putAll_length (ps.take k) []
          have h2 : (ps.take k).length ≤ k := by simp; omega
          simp at h1
          unfold maxLen; omega
        have m0 : Mod (fun _ => False) wr (wr.alloc (.cells #[.int .u8 (key : Int), .int .u8 (vk : Int), .int .i64 vn, .string vs] 116)).drew := ((Mod.refl _ _).alloc _).drew
        obtain ⟨w5, hrun, hU, hM⟩ := ((hpk.props.keep m0)).store Try.underlying5 Try.underlying145 hlen (u8key hfx.1) (.agg #[.int .u8 (vk : Int), .int .i64 vn, .string vs])
        have HN2 : Hid (PutAt w s #[.int .u32 (id : Int), .bool true, .slice (some ⟨b, off, none⟩) np cp, .slice ah nh ch] (putAll [] (ps.take (k + 1))) [] w5) := by
          show PutAt _ _ _ _ _ _
          rw [HSN.out]
          exact hpk.prop m0 hU hM
        clear hpk hx hfx hlen m0 hU hM HPA
        go_wp2_with fail
        go_region
        go_wp2
        go_roundw
        case rel => exact ⟨k + 1, by go_num, by omega, HN2.out⟩
        case measure => simp [intOf]; omega
      · have HA : Hid (PutAt w s #[.int .u32 (id : Int), .bool true, .slice ap np cp, .slice ah nh ch] (putAll [] ps) [] wr) := Lib.hid (by
          have e : ps.take k = ps := List.take_of_length_le (by have := HNP.out; omega)
          rw [e] at hpk
          exact hpk)
        obtain ⟨wo, rfl⟩ : ∃ wo : World, wo = wr := ⟨_, rfl⟩
        have b3 := cell_of_row HA.out.box 3
        simp at b3
        clear hpk HPK HPA
        go_wp2_with fail
        clear b3
        go_loopw [50] (fun i wr => ∃ k : Nat, i = .int .i64 k ∧ k ≤ nh ∧ PutAt w s #[.int .u32 (id : Int), .bool true, .slice ap np cp, .slice ah nh ch] (putAll [] ps) (putAll [] (hs.take k)) wr) (fun i _ => nh - (intOf i).toNat)
        case atStart => exact ⟨0, rfl, Nat.zero_le _, HA.out⟩
        case round =>
          obtain ⟨k, rfl, hk, hpk⟩ := hrel
          by_cases hkn2 : k < nh
          · obtain ⟨x, hx⟩ : ∃ x, hs[k]? = some x := ⟨_, List.getElem?_eq_getElem (by rw [← HNH.out]; exact hkn2)⟩
            have hfx := HF.out.halves x (List.mem_of_getElem? hx)
            have HSN := Lib.hid (putAll_snoc hs k x hx [])
            obtain ⟨b, off, rfl, hb, p0, p1, p2, p3⟩ := HH.out.ent hx rfl
            have p0 := hpk.mod.cell p0
            have p1 := hpk.mod.cell p1
            have p2 := hpk.mod.cell p2
            have p3 := hpk.mod.cell p3
            have zc : b < wr.heap.size := Nat.lt_of_lt_of_le hb hpk.mod.size
            obtain ⟨key, vk, vn, vs⟩ := x
            simp only at p0 p1 p2 p3 hfx HSN
            have v1 := cell_of_row hpk.vert 1
            simp at v1
            have zv := lt_of_block hpk.vert
            have hlen : (putAll [] (hs.take k)).length < maxLen := by
              have h1 := putAll_length (hs.take k) []
              have h2 : (hs.take k).length ≤ k := by simp; omega
              simp at h1
              unfold maxLen; omega
            have m0 : Mod (fun _ => False) wr (wr.alloc (.cells #[.int .u32 (key : Int), .int .u8 (vk : Int), .int .i64 vn, .string vs] 96)).drew := ((Mod.refl _ _).alloc _).drew
            obtain ⟨w5, hrun, hU, hM⟩ := ((hpk.edges.keep m0)).store Try.underlying27 Try.underlying146 hlen (u32key hfx.1) (.agg #[.int .u8 (vk : Int), .int .i64 vn, .string vs])
            have HN2 : Hid (PutAt w s #[.int .u32 (id : Int), .bool true, .slice ap np cp, .slice (some ⟨b, off, none⟩) nh ch] (putAll [] ps) (putAll [] (hs.take (k + 1))) w5) := by
              show PutAt _ _ _ _ _ _
              rw [HSN.out]
              exact hpk.edge m0 hU hM
            clear hpk hx hfx hlen m0 hU hM HA
            go_wp2_with fail
            go_region
            go_wp2
            go_roundw
            case rel => exact ⟨k + 1, by go_num, by omega, HN2.out⟩
            case measure => simp [intOf]; omega
          · have HA2 : Hid (PutAt w s #[.int .u32 (id : Int), .bool true, .slice ap np cp, .slice ah nh ch] (putAll [] ps) (putAll [] hs) wr) := Lib.hid (by
              have e : hs.take k = hs := List.take_of_length_le (by have := HNH.out; omega)
              rw [e] at hpk
              exact hpk)
            have gc := hpk.mod.heap HG.out.cell (fun f => f)
            have gc0 := cell_of_row gc 0
            simp at gc0
            have b0 := cell_of_row HA2.out.box 0
            simp at b0
            have m0 : Mod (fun _ => False) wr wr.drew := (Mod.refl _ _).drew
            obtain ⟨w5, hrun, hU, hM⟩ := ((HG.out.map.keep hpk.mod).keep m0).store Try.underlying27 Try.underlying141 (by unfold maxLen; omega) HID.out (.pointer (some ⟨s + 2, 0, none⟩))
            have HFIN : Hid (Laid w g bm ⟨id, true, ps, hs⟩ es (.returned (.int .i64 0)) w5) := by
              have hl := HA2.out.lo
              have hM2 : Mod (fun k => k = bm) wr w5 := ⟨hM.os, hM.tape, hM.output, hM.size, hM.block⟩
              refine ⟨s + 2, rfl, (hpk.mod.mono (fun _ _ f => f.elim)).trans hM2, by omega, ⟨hM2.heap gc (fun e => HNE.out e.symm), hU⟩, s, s + 1, hM2.heap HA2.out.vert (by omega), HA2.out.props.mod hM2 (by omega), HA2.out.edges.mod hM2 (by omega)⟩
            clear hpk hU hM m0 gc HA
            go_wp2_with fail
            go_region
            go_wp2
            go_ret
            exact HFIN.out
end Go.Proofs.Ytdblilhkojafgaa
