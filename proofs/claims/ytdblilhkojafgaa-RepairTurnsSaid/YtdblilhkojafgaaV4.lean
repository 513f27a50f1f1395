/- graph.New and Put. -/
import Derived.Test.YtdblilhkojafgaaV3
import Derived.Test.YtdblilhkojafgaaM
import Derived.StillTailTactics
import Derived.Maps.Own
namespace Go.Proofs.Ytdblilhkojafgaa
set_option linter.unusedVariables false
open Go.RowKit

theorem u32key {k : Nat} (h : k < 4294967296) : (Lit.int .u32 (k : Int)).wf = true := by go_wf
theorem u8key {k : Nat} (h : k < 256) : (Lit.int .u8 (k : Int)).wf = true := by go_wf

/-- A graph in memory: its cell, and its map. -/
structure GAt (w : World) (g bm : Nat) (es : Ents) : Prop where
  cell : w.heap[g]? = some (.cells #[.map (some bm)] 143 (0, 0))
  map : UMap Try.prog 27 .u32 w bm es
theorem GAt.mod {S : Nat → Prop} {w w' : World} {g bm : Nat} {es : Ents} (h : GAt w g bm es) (m : Mod S w w') (h1 : ¬ S g) (h2 : ¬ S bm) : GAt w' g bm es := ⟨m.heap h.cell h1, h.map.mod m h2⟩

theorem new_any (w : World) : Calls Try.prog 53 #[] w fun e w' => e = .returned (.pointer (some ⟨w.heap.size + 1, 0, none⟩)) ∧ Mod (fun _ => False) w w' ∧ GAt w' (w.heap.size + 1) w.heap.size [] := by
  have hmm := @run_makeMap Try.prog
  have HG : Hid (GAt ((w.alloc (.map #[] 0)).alloc (.cells #[.map (some w.heap.size)] 143)) (w.heap.size + 1) w.heap.size []) :=
    ⟨by have h := heap_alloc_new' (w.alloc (.map #[] 0)) (.cells #[.map (some w.heap.size)] 143); simpa using h,
     (UMap.made Try.prog 27 .u32 w).keep ((Mod.refl _ _).alloc _)⟩
  go_enter Try.func53, Try.ntmps53
  go_wp2
  go_ret
  exact ⟨rfl, ((Mod.refl _ _).alloc _).alloc _, HG.out⟩

def putAll (es : Ents) (l : List Ent) : Ents := l.foldl (fun m p => putL p.key p.val.v m) es
/-- A vertex in memory: its two maps. -/
structure VertAt (w : World) (a : Nat) (ps hs : Ents) : Prop where
  box : ∃ mp me, w.heap[a]? = some (.cells #[.map (some mp), .map (some me)] 148 (0, 0)) ∧ UMap Try.prog 5 .u8 w mp ps ∧ UMap Try.prog 27 .u32 w me hs

theorem put_bad (x : Vtx) (vp vh : Value) (gp : Option Addr) (w : World) (hx : VRd w vp vh x) (hr : x.right = false) : Calls Try.prog 54 #[.pointer gp, vtxV x vp vh] w fun e w' => e = .returned (.int .i64 3) ∧ Mod (fun _ => False) w w' := by
  have HR : Hid (∀ w', Mod (fun _ => False) w w' → Calls Try.prog 72 #[.agg #[.int .u32 (x.id : Int), .bool x.there, vp, vh]] w' fun e w'' => e = .returned (.bool false) ∧ Mod (fun _ => False) w' w'') := fun w' m => by
    have := right_any x vp vh w' (hx.keep m)
    rw [hr] at this
    exact this
  show Calls _ _ #[.pointer gp, .agg #[.int .u32 (x.id : Int), .bool x.there, vp, vh]] w _
  clear hx hr
  generalize (x.id : Int) = id at HR ⊢
  generalize x.there = there at HR ⊢
  go_enter Try.func54, Try.ntmps54
  go_wp2_with (go_at_call 72; refine (HR.out _ ((Mod.refl _ _).alloc _)).mono ?_; rintro e w3 ⟨rfl, hm⟩; have M3 : Hid (Mod (fun _ => False) w w3) := ((Mod.refl _ _).alloc _).trans hm; clear hm)
  go_ret
  exact ⟨rfl, M3.out⟩

theorem right_call (x : Vtx) (vp vh : Value) (w : World) (hx : VRd w vp vh x) (b : Bool) (hr : x.right = b) : ∀ w', Mod (fun _ => False) w w' → Calls Try.prog 72 #[.agg #[.int .u32 (x.id : Int), .bool x.there, vp, vh]] w' fun e w'' => e = .returned (.bool b) ∧ Mod (fun _ => False) w' w'' := fun w' m => by
  have := right_any x vp vh w' (hx.keep m)
  rw [hr] at this
  exact this
theorem put_del (x : Vtx) (vp vh : Value) (g bm : Nat) (es : Ents) (w : World) (hx : VRd w vp vh x) (hr : x.right = true) (ht : x.there = false) (hg : GAt w g bm es) :
    Calls Try.prog 54 #[.pointer (some ⟨g, 0, none⟩), vtxV x vp vh] w fun e w' => e = .returned (.int .i64 0) ∧ Mod (fun k => k = bm) w w' ∧ GAt w' g bm (delL x.id es) := by
  have HR := Lib.hid (right_call x vp vh w hx true hr)
  have hid := hx.fits.id
  have HID := Lib.hid (u32key hid)
  show Calls _ _ #[.pointer (some ⟨g, 0, none⟩), .agg #[.int .u32 (x.id : Int), .bool x.there, vp, vh]] w _
  rw [ht] at HR ⊢
  have HG := Lib.hid hg
  have zg := lt_of_block hg.cell
  have zm := hg.map.lt
  have hne : bm ≠ g := by
    intro e
    obtain ⟨⟨es', clock, hb, _⟩⟩ := hg.map
    rw [e, hg.cell] at hb
    cases hb
  have HNE := Lib.hid hne
  clear hx hr ht hg hid hne
  generalize x.id = id at HR HID ⊢
  go_enter Try.func54, Try.ntmps54
  go_wp2_with fail
  refine (HR.out _ ((Mod.refl _ _).alloc _)).mono ?_
  rintro e w3 ⟨rfl, hm⟩
  have M3 : Hid (Mod (fun _ => False) w w3) := ((Mod.refl _ _).alloc _).trans hm
  have bx : w3.heap[w.heap.size]? = some (.cells #[.int .u32 (id : Int), .bool false, vp, vh] 31 (0, 0)) := hm.heap (heap_alloc_new' w _) (fun f => f)
  have G3 := Lib.hid (HG.out.mod M3.out (fun f => f) (fun f => f))
  have b0 := cell_of_row bx 0
  have b1 := cell_of_row bx 1
  have gc := cell_of_row G3.out.cell 0
  simp at b0 b1 gc
  clear hm bx
  go_wp2_with fail
  go_region_law (refine step_delete_u rfl (.tmp 24) (.tmp 26) 141 rfl _ Try.underlying141 Try.underlying27 rfl G3.out.map.drew id rfl HID.out ?_; intro w5 hU hM)
  all_goals
    have HF : Hid (Mod (fun k => k = bm) w w5 ∧ GAt w5 g bm (delL id es)) := by
      have hM2 : Mod (fun k => k = bm) w3 w5 := ⟨hM.os, hM.tape, hM.output, hM.size, hM.block⟩
      refine ⟨(M3.out.mono (fun _ _ f => f.elim)).trans hM2, hM2.heap G3.out.cell (fun e => HNE.out e.symm), hU⟩
    clear hU hM
    go_wp2
    go_ret
    exact ⟨rfl, HF.out.1, HF.out.2⟩
end Go.Proofs.Ytdblilhkojafgaa
