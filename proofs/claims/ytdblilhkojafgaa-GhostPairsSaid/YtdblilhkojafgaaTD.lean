/- T14, T15 in one. -/
import Derived.Test.YtdblilhkojafgaaT13
import Derived.Test.YtdblilhkojafgaaVI

/- gussetref03.DocPut of no graph; gussetlaw12.GhostNil. -/
namespace Go.Proofs.Ytdblilhkojafgaa
set_option linter.unusedVariables false
open Go.RowKit

def nilC (b : Bool) : Int := if b then 6 else 3
set_option maxRecDepth 100000 in
theorem docput_nil (x : Vtx) (vp vh : Value) (w : World) (hx : VRd w vp vh x) (hz : x.props.length + x.halves.length < 4611686018427387904) :
    Calls Try.prog 30 #[.pointer none, vtxV x vp vh] w fun e w' => e = .returned (.int .i64 (nilC x.right)) ∧ Mod (fun _ => False) w w' := by
  have HR := Lib.hid (fun (w1 : World) (m : Mod (fun _ => False) w w1) => dright_any x vp vh w1 (hx.keep m) hz)
  clear hx hz
  simp only [vtxV] at HR ⊢
  generalize x.right = r at HR ⊢
  generalize x.id = id at HR ⊢
  generalize x.there = there at HR ⊢
  cases r
  · go_enter Try.func30, Try.ntmps30
    go_wp2_with (go_at_call 27; refine (HR.out _ (by first | exact Mod.refl _ _ | exact (Mod.refl _ _).alloc _)).mono ?_; (rintro e w1 ⟨rfl, hm1⟩); have M1 : Hid (Mod (fun _ => False) w w1) := (by first | exact hm1 | exact ((Mod.refl _ _).alloc _).trans hm1); clear hm1)
    go_ret
    exact ⟨rfl, M1.out⟩
  · go_enter Try.func30, Try.ntmps30
    go_wp2_with (go_at_call 27; refine (HR.out _ (by first | exact Mod.refl _ _ | exact (Mod.refl _ _).alloc _)).mono ?_; (rintro e w1 ⟨rfl, hm1⟩); have M1 : Hid (Mod (fun _ => False) w w1) := (by first | exact hm1 | exact ((Mod.refl _ _).alloc _).trans hm1); clear hm1)
    go_ret
    exact ⟨rfl, M1.out⟩

def boxV (id : Nat) (there : Bool) (vp vh : Value) : Array Value := #[.int .u32 (id : Int), .bool there, vp, vh]
theorem tput_nil_any (x : Vtx) (vp vh : Value) (w : World) (hx : VRd w vp vh x) :
    Calls Try.prog 26 #[.pointer none, vtxV x vp vh] w fun e w' => e = .returned (.int .i64 (nilC x.right)) ∧ Mod (fun _ => False) w w' := by
  cases hr : x.right with
  | false => exact tput_bad x vp vh none w hx hr
  | true => exact tput_nil x vp vh w hx hr
set_option maxRecDepth 100000 in
set_option maxHeartbeats 4000000 in
theorem nil_main (x : Vtx) (vp vh : Value) (w : World) (hx : VRd w vp vh x) (h1 : x.props.length * 40 ≤ 140737488355328) (h2 : x.halves.length * 40 ≤ 140737488355328) :
    Calls Try.prog 8 #[vtxV x vp vh] w fun e w' => e = .returned (.bool true) ∧ Mod (fun _ => False) w w' := by
  have HTW := Lib.hid (fun (w1 : World) (m : Mod (fun _ => False) w w1) => twinV_any x vp vh w1 (hx.keep m) h1 h2)
  have HDP := Lib.hid (fun (w1 : World) (m : Mod (fun _ => False) w w1) => docput_nil x vp vh w1 (hx.keep m) (by omega))
  have HPU := Lib.hid (fun (w1 w0 : World) (vp' vh' : Value) (h : VNew w0 w1 vp' vh' x) => tput_nil_any x vp' vh' w1 h.rd)
  obtain ⟨ap, cp, rfl, -⟩ := hx.props.shape
  obtain ⟨ah, ch, rfl, -⟩ := hx.halves.shape
  have HAW := Lib.hid (awake12_any)
  clear hx h1 h2
  obtain ⟨id, there, ps, hs⟩ := x
  simp only [vtxV] at HTW HDP HPU ⊢
  generalize ps.length = np at HTW HDP ⊢
  generalize hs.length = nh at HTW HDP ⊢
  generalize nilC (Vtx.right ⟨id, there, ps, hs⟩) = q at HDP HPU
  go_enter Try.func8, Try.ntmps8
  go_wp2_with fail
  go_region_law (first
    | (go_simp; go_at_call 13; refine (HAW.out _).mono ?_; (rintro e w1 ⟨rfl, hm1⟩); have HR1 : Hid (RightAt w #[.int .u32 (id : Int), .bool there, .slice ap np cp, .slice ah nh ch] w1) := Lib.hid ⟨((Mod.refl _ w).alloc _).drew.trans hm1, hm1.heap (heap_alloc_new' w _) (fun f => f)⟩; have c0 := cell_of_row HR1.out.box 0; have c1 := cell_of_row HR1.out.box 1; have c2 := cell_of_row HR1.out.box 2; have c3 := cell_of_row HR1.out.box 3; simp at c0 c1 c2 c3; clear hm1)
    | (go_simp; go_at_call 15; refine (HTW.out _ HR1.out.mod).mono ?_; (rintro e w2 ⟨vp2, vh2, rfl, hm2, hn2⟩); have HN2 := Lib.hid hn2; have HR2 := Lib.hid (HR1.out.more hm2); (obtain ⟨a5, c5, n5, rfl⟩ : ∃ a c n, vp2 = .slice a n c := (by obtain ⟨a, c, e, _⟩ := hn2.props.shape; exact ⟨_, _, _, e⟩)); (obtain ⟨a6, c6, n6, rfl⟩ : ∃ a c n, vh2 = .slice a n c := (by obtain ⟨a, c, e, _⟩ := hn2.halves.shape; exact ⟨_, _, _, e⟩)); have d0 := cell_of_row HR2.out.box 0; have d1 := cell_of_row HR2.out.box 1; have d2 := cell_of_row HR2.out.box 2; have d3 := cell_of_row HR2.out.box 3; simp at d0 d1 d2 d3; clear hm2 hn2)
    | (go_simp; go_at_call 26; refine (HPU.out w2 _ _ _ HN2.out).mono ?_; (rintro e w3 ⟨rfl, hm3⟩); have HR3 := Lib.hid (HR2.out.more hm3); have e0 := cell_of_row HR3.out.box 0; have e1 := cell_of_row HR3.out.box 1; have e2 := cell_of_row HR3.out.box 2; have e3 := cell_of_row HR3.out.box 3; simp at e0 e1 e2 e3; clear hm3)
    | (go_simp; go_at_call 30; refine (HDP.out _ HR3.out.mod).mono ?_; (rintro e w4 ⟨rfl, hm4⟩); have HR4 := Lib.hid (HR3.out.more hm4); have f0 := cell_of_row HR4.out.box 0; have f1 := cell_of_row HR4.out.box 1; have f2 := cell_of_row HR4.out.box 2; have f3 := cell_of_row HR4.out.box 3; simp at f0 f1 f2 f3; clear hm4)
    | (go_simp; go_at_call 28; refine (list_nil _).mono ?_; (rintro e w5 ⟨rfl, rfl⟩))
    | (go_simp; go_at_call 29; refine (of_nil _ _).mono ?_; (rintro e w5 ⟨rfl, rfl⟩)))
  all_goals
    go_wp2
    go_ret
    exact ⟨by first | rfl | simp, HR4.out.mod⟩
end Go.Proofs.Ytdblilhkojafgaa

/- A vertex that comes in, read; GhostNil on what comes in. -/
namespace Go.Proofs.Ytdblilhkojafgaa
set_option linter.unusedVariables false
open Go.ChangeShapes Go.WideShapes Go.ChangeAt Go.RowKit

def InVtx (W : World) (v : Value) : Prop := ∃ x vp vh, v = vtxV x vp vh ∧ VRd W vp vh x ∧ Slim x
section
variable {H : Type} {enc : TypeId × Value → H} {W : World} {base : Nat} {v : Value} {d : DataW H} {p : List MemPlace}
set_option maxRecDepth 100000 in
theorem in_vertex (hv : Value.okWide Try.prog W .any base 31 v) (h : DataW.Trod enc Try.prog W 0 (fun _ => true) true 31 v d p) (hs : okW 31 d) : InVtx W v := by
  obtain ⟨cs, rfl, hl⟩ := okWide_struct Try.underlying31 hv
  obtain ⟨fuel, hf⟩ := h
  have hc : Try.prog.cellsOf 31 = 4 := by kernel_rfl
  obtain ⟨s, e, g⟩ := in_vtx fuel cs.toList (d, p) (by have := hl; simp only [hc] at this; simpa using this) (by simpa [Value.cells] using hf) hs
  refine ⟨s.x, s.vp, s.vh, ?_, g.1, g.2⟩
  have : cs = s.cells.toArray := by rw [← e]
  rw [this]
  rfl
end
theorem nil_all (v0 : Value) (w : World) (h0 : InVtx w v0) : Calls Try.prog 8 #[v0] w fun e w' => e = .returned (.bool true) ∧ Below w.heap.size w w' := by
  obtain ⟨x, vp, vh, rfl, hv, hz⟩ := h0
  exact Calls.mono (R := fun e w' => e = .returned (.bool true) ∧ Mod (fun _ => False) w w') (nil_main x vp vh w hv hz.1 hz.2) (fun _ _ ⟨h, m⟩ => ⟨h, m.toBelow (Nat.le_refl _) (fun _ _ f => f)⟩)
end Go.Proofs.Ytdblilhkojafgaa
