/- What comes in, read: vertices, lists of vertices, lists of lists, flags: whole. -/
import Derived.Test.YtdblilhkojafgaaV28
namespace Go.Proofs.Ytdblilhkojafgaa
set_option linter.unusedVariables false
open Go.ChangeShapes Go.WideShapes Go.ChangeAt Go.RowKit

instance : Inhabited Ent := ⟨farE 0⟩
instance : Inhabited Vs := ⟨⟨va, .slice none 0 0, .slice none 0 0⟩⟩
instance : Inhabited Ls := ⟨⟨.slice none 0 0, []⟩⟩
section
variable {H : Type} {enc : TypeId × Value → H} {W : World}

set_option maxRecDepth 100000 in
theorem in_half (n : Nat) (cs : List Value) (y : DataW H × List MemPlace) (hl : cs.length = 4) (h : DataW.trod enc Try.prog W 0 (fun _ => true) true n 96 cs = some y) (hw : okW 96 y.1) : ∃ x : Ent, cs = x.cells .u32 ∧ x.key < 4294967296 ∧ x.val.Fits := by
  obtain ⟨xs, n', _, _, _, hlen, hf⟩ := DataW.trod_struct Try.underlying96 h
  match cs, hl with
  | [c0, c1, c2, c3], _ =>
    have cu : Try.prog.cellsOf 27 = 1 := by kernel_rfl
    have cv : Try.prog.cellsOf 94 = 3 := by kernel_rfl
    match xs, hlen with
    | [y0, y1], _ =>
      have h0 : DataW.trod enc Try.prog W 0 (fun _ => true) true n' 27 ((List.drop 0 [c0, c1, c2, c3]).take (Try.prog.cellsOf 27)) = some y0 := hf 0 _ rfl
      have h1 : DataW.trod enc Try.prog W 0 (fun _ => true) true n' 94 ((List.drop 1 [c0, c1, c2, c3]).take (Try.prog.cellsOf 94)) = some y1 := hf 1 _ rfl
      simp only [cu, cv, List.drop_zero, List.take_succ_cons, List.take_zero, List.drop_succ_cons] at h0 h1
      obtain ⟨a0, e0, _, w0⟩ := DataW.trod_int Try.underlying27 h0
      obtain ⟨v, e1, hv⟩ := in_val n' _ _ rfl h1
      simp only [List.cons.injEq, and_true] at e0 e1
      have b0 := bounds_u32 w0
      obtain ⟨k, rfl⟩ := Int.eq_ofNat_of_zero_le b0.1
      obtain ⟨rfl, rfl, rfl⟩ := e1
      subst e0
      exact ⟨⟨k, v⟩, rfl, by simp only; omega, hv⟩

set_option maxRecDepth 100000 in
theorem in_prop (n : Nat) (cs : List Value) (y : DataW H × List MemPlace) (hl : cs.length = 4) (h : DataW.trod enc Try.prog W 0 (fun _ => true) true n 116 cs = some y) (hw : okW 116 y.1) : ∃ x : Ent, cs = x.cells .u8 ∧ x.key < 256 ∧ x.val.Fits := by
  obtain ⟨xs, n', _, _, _, hlen, hf⟩ := DataW.trod_struct Try.underlying116 h
  match cs, hl with
  | [c0, c1, c2, c3], _ =>
    have cu : Try.prog.cellsOf 5 = 1 := by kernel_rfl
    have cv : Try.prog.cellsOf 94 = 3 := by kernel_rfl
    match xs, hlen with
    | [y0, y1], _ =>
      have h0 : DataW.trod enc Try.prog W 0 (fun _ => true) true n' 5 ((List.drop 0 [c0, c1, c2, c3]).take (Try.prog.cellsOf 5)) = some y0 := hf 0 _ rfl
      have h1 : DataW.trod enc Try.prog W 0 (fun _ => true) true n' 94 ((List.drop 1 [c0, c1, c2, c3]).take (Try.prog.cellsOf 94)) = some y1 := hf 1 _ rfl
      simp only [cu, cv, List.drop_zero, List.take_succ_cons, List.take_zero, List.drop_succ_cons] at h0 h1
      obtain ⟨a0, e0, _, w0⟩ := DataW.trod_int Try.underlying5 h0
      obtain ⟨v, e1, hv⟩ := in_val n' _ _ rfl h1
      simp only [List.cons.injEq, and_true] at e0 e1
      have b0 := bounds_u8 w0
      obtain ⟨k, rfl⟩ := Int.eq_ofNat_of_zero_le b0.1
      obtain ⟨rfl, rfl, rfl⟩ := e1
      subst e0
      exact ⟨⟨k, v⟩, rfl, by simp only; omega, hv⟩

def GoodV (W : World) (s : Vs) : Prop := VRd W s.vp s.vh s.x ∧ Slim s.x
set_option maxRecDepth 100000 in
theorem in_vtx (n : Nat) (cs : List Value) (y : DataW H × List MemPlace) (hl : cs.length = 4) (h : DataW.trod enc Try.prog W 0 (fun _ => true) true n 31 cs = some y) (hw : okW 31 y.1) : ∃ s : Vs, cs = s.cells ∧ GoodV W s := by
  obtain ⟨xs, n', _, hx, _, hlen, hf⟩ := DataW.trod_struct Try.underlying31 h
  match cs, hl with
  | [c0, c1, c2, c3], _ =>
    have cu : Try.prog.cellsOf 27 = 1 := by kernel_rfl
    have cb : Try.prog.cellsOf 4 = 1 := by kernel_rfl
    have cp : Try.prog.cellsOf 28 = 1 := by kernel_rfl
    have ch : Try.prog.cellsOf 29 = 1 := by kernel_rfl
    match xs, hlen with
    | [y0, y1, y2, y3], _ =>
      have h0 : DataW.trod enc Try.prog W 0 (fun _ => true) true n' 27 ((List.drop 0 [c0, c1, c2, c3]).take (Try.prog.cellsOf 27)) = some y0 := hf 0 _ rfl
      have h1 : DataW.trod enc Try.prog W 0 (fun _ => true) true n' 4 ((List.drop 1 [c0, c1, c2, c3]).take (Try.prog.cellsOf 4)) = some y1 := hf 1 _ rfl
      have h2 : DataW.trod enc Try.prog W 0 (fun _ => true) true n' 28 ((List.drop 2 [c0, c1, c2, c3]).take (Try.prog.cellsOf 28)) = some y2 := hf 2 _ rfl
      have h3 : DataW.trod enc Try.prog W 0 (fun _ => true) true n' 29 ((List.drop 3 [c0, c1, c2, c3]).take (Try.prog.cellsOf 29)) = some y3 := hf 3 _ rfl
      simp only [cu, cb, cp, ch, List.drop_zero, List.take_succ_cons, List.take_zero, List.drop_succ_cons] at h0 h1 h2 h3
      have hy : y.1 = .agg ([y0, y1, y2, y3].map (·.1)) := by rw [hx]
      rw [hy] at hw
      have w2 : okW 28 y2.1 := okW_part Try.underlying31 hw (j := 2) rfl rfl
      have w3 : okW 29 y3.1 := okW_part Try.underlying31 hw (j := 3) rfl rfl
      obtain ⟨a0, e0, _, w0⟩ := DataW.trod_int Try.underlying27 h0
      obtain ⟨bt, e1, _⟩ := DataW.trod_bool Try.underlying4 h1
      obtain ⟨ps, rp, gp, bp⟩ := in_slice Try.underlying28 (size := 4) (by kernel_rfl) (by omega) (Ent.cells .u8) (fun _ => rfl) (fun x => x.key < 256 ∧ x.val.Fits) in_prop h2 w2
      obtain ⟨hs, rh, gh, bh⟩ := in_slice Try.underlying29 (size := 4) (by kernel_rfl) (by omega) (Ent.cells .u32) (fun _ => rfl) (fun x => x.key < 4294967296 ∧ x.val.Fits) in_half h3 w3
      simp only [List.cons.injEq, and_true] at e0 e1
      have b0 := bounds_u32 w0
      obtain ⟨k, rfl⟩ := Int.eq_ofNat_of_zero_le b0.1
      subst e0 e1
      have q1 : Try.prog.bytesOf 116 = 40 := by kernel_rfl
      have q2 : Try.prog.bytesOf 96 = 40 := by kernel_rfl
      have q3 : reachBytes = 140737488351232 := rfl
      rw [q1, q3] at bp
      rw [q2, q3] at bh
      exact ⟨⟨⟨k, bt, ps, hs⟩, c2, c3⟩, rfl, ⟨⟨by simp only; omega, gp, gh⟩, rp, rh⟩, by show _ ≤ _; simp only; omega, by show _ ≤ _; simp only; omega⟩
def GoodL (W : World) (s : Ls) : Prop := LRd W s.v s.l ∧ ∀ x ∈ s.l, Slim x.x
theorem in_list (n : Nat) (cs : List Value) (y : DataW H × List MemPlace) (hl : cs.length = 1) (h : DataW.trod enc Try.prog W 0 (fun _ => true) true n 26 cs = some y) (hw : okW 26 y.1) : ∃ s : Ls, cs = [s.v] ∧ GoodL W s := by
  match cs, hl with
  | [u], _ =>
    obtain ⟨l, rl, gl, _⟩ := in_slice Try.underlying26 (size := 4) (by kernel_rfl) (by omega) Vs.cells (fun _ => rfl) (GoodV W) in_vtx h hw
    exact ⟨⟨u, l⟩, rfl, ⟨rl, fun s hs => (gl s hs).1⟩, fun s hs => (gl s hs).2⟩
theorem flat_one {α : Type} (f : α → Value) (l : List α) : (l.flatMap fun x => [f x]) = l.map f := by
  induction l with
  | nil => rfl
  | cons x r ih => rw [List.flatMap_cons, ih]; rfl
variable {base : Nat} {v : Value} {d : DataW H} {p : List MemPlace}
def InLists (W : World) (v : Value) : Prop := ∃ ls, LLRd W v ls ∧ ∀ s ∈ ls, ∀ x ∈ s.l, Slim x.x
set_option maxRecDepth 100000 in
theorem in_lists (hv : Value.okWide Try.prog W .any base 22 v) (h : DataW.Trod enc Try.prog W 0 (fun _ => true) true 22 v d p) (hs : okW 22 d) : InLists W v := by
  obtain ⟨a0, len0, cap0, rfl⟩ := okWide_slice Try.underlying22 hv
  obtain ⟨fuel, hf⟩ := h
  obtain ⟨ls, rl, gl, _⟩ := in_slice Try.underlying22 (size := 1) (by kernel_rfl) (by omega) (fun s : Ls => [s.v]) (fun _ => rfl) (GoodL W) in_list (u := .slice a0 len0 cap0) (y := (d, p)) (by simpa [Value.cells] using hf) hs
  rw [flat_one] at rl
  exact ⟨ls, ⟨rl, fun s hs => (gl s hs).1⟩, fun s hs => (gl s hs).2⟩
def InFlags (W : World) (v : Value) : Prop := ∃ up, FRd W v up
set_option maxRecDepth 100000 in
theorem in_flags (hv : Value.okWide Try.prog W .any base 23 v) (h : DataW.Trod enc Try.prog W 0 (fun _ => true) true 23 v d p) (hs : okW 23 d) : InFlags W v := by
  obtain ⟨a0, len0, cap0, rfl⟩ := okWide_slice Try.underlying23 hv
  obtain ⟨fuel, hf⟩ := h
  obtain ⟨up, rl, _, _⟩ := in_slice Try.underlying23 (size := 1) (by kernel_rfl) (by omega) (fun b : Bool => [Value.bool b]) (fun _ => rfl) (fun _ => True) (fun n cs y hl h _ => by
    obtain ⟨b, e, _⟩ := DataW.trod_bool Try.underlying4 h
    exact ⟨b, e, trivial⟩) (u := .slice a0 len0 cap0) (y := (d, p)) (by simpa [Value.cells] using hf) hs
  rw [flat_one] at rl
  exact ⟨up, rl⟩
def InU8 (W : World) (v : Value) : Prop := ∃ t : Nat, v = .int .u8 (t : Int) ∧ t < 256
set_option maxRecDepth 100000 in
theorem in_u8 (hv : Value.okWide Try.prog W .any base 5 v) (h : DataW.Trod enc Try.prog W 0 (fun _ => true) true 5 v d p) : InU8 W v := by
  obtain ⟨a, rfl, _, _, hw⟩ := open_int Try.underlying5 hv h
  have b := bounds_u8 hw
  obtain ⟨m, rfl⟩ := Int.eq_ofNat_of_zero_le b.1
  exact ⟨m, rfl, by omega⟩
end
theorem weights_at {H : Type} {P : Program} {ts : List TypeId} {ds : List (DataW H)} (h : (DataW.weightsEach P ts ds).all (· ≤ reachBytes) = true) {j : Nat} {t : TypeId} {d : DataW H} (ht : ts[j]? = some t) (hd : ds[j]? = some d) : (DataW.weights P t d).all (· ≤ reachBytes) = true :=
  List.all_eq_true.2 fun x hx => List.all_eq_true.1 h x (DataW.weights_mem_each ht hd x hx)

theorem turns_all (v0 v1 v2 : Value) (w : World) (h0 : InLists w v0) (h1 : InFlags w v1) (h2 : InU8 w v2) : Calls Try.prog 3 #[v0, v1, v2] w fun e w' => e = .returned (.bool true) ∧ Below w.heap.size w w' := by
  obtain ⟨ls, hv, hz⟩ := h0
  obtain ⟨up, hu⟩ := h1
  obtain ⟨t, rfl, ht⟩ := h2
  refine Calls.mono (R := fun e w' => e = .returned (.bool true) ∧ Mod (fun _ => False) w w') ?_ (fun _ _ ⟨h, m⟩ => ⟨h, m.toBelow (Nat.le_refl _) (fun _ _ f => f)⟩)
  by_cases hm : 0 < ls.length ∧ ls.length ≤ 4 ∧ up.length = ls.length
  · exact turns_main v0 v1 ls up t w hv hu hm.1 hm.2.1 hm.2.2 ht hz
  · obtain ⟨a, c, rfl, hc, hc2, _⟩ := hv.row.shape
    obtain ⟨au, cu, rfl, hcu, hcu2, _⟩ := (show RdS _ _ _ _ _ from hu).shape
    generalize ls.length = n at *
    generalize up.length = nu at *
    clear hv hu hz
    by_cases h0 : n = 0
    · subst h0
      exact turns_zero a au c cu nu t w
    · by_cases h4 : 4 < n
      · exact turns_many a au n c cu nu t w h4 (by omega)
      · exact turns_unlike a au n c cu nu t w (by omega) (by omega) (by omega) (by omega)
end Go.Proofs.Ytdblilhkojafgaa
