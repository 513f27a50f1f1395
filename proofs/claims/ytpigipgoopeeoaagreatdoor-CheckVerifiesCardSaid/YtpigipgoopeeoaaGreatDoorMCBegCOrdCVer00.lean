import Derived.Test.YtpigipgoopeeoaaGreatDoorMAll29
set_option linter.unusedVariables false
set_option linter.unusedSimpArgs false
namespace Go.Proofs.YtpigipgoopeeoaaGreatDoor
open Go.RowKit Go.ChangeShapes Go.WideShapes Go.ChangeAt
section
variable {H : Type} {enc : TypeId × Value → H} {W : World} {base : Nat} {v : Value} {d : DataW H} {p : List MemPlace}
structure AnI (W : World) where
 e : Int
 p : Int
 vals : List Val
 list : List Nat
 vv : Value
 vl : Value
 hv : RdS W 3 vv vals.length (vvcells vals)
 hl : RdS W 1 vl list.length (list.map (keyV .u32))
 sv : vals.length * 32 ≤ 140737488355328
 sl : list.length * 4 ≤ 140737488355328
set_option maxRecDepth 100000 in
theorem in_ans (n : Nat) (cs : List Value) (y : DataW H × List MemPlace) (hl : cs.length = 4) (h : DataW.trod enc Tryz.prog W 0 (fun _ => true) true n 39 cs = some y) (hw : okW 39 y.1) : ∃ x : AnI W, cs = [.int .i64 x.e, .int .i64 x.p, x.vv, x.vl] := by
 obtain ⟨xs, n', _, hx, _, hlen, hf⟩ := DataW.trod_struct Tryz.underlying39 h
 match cs, hl with
 | [c0, c1, c2, c3], _ =>
   have ce : Tryz.prog.cellsOf 35 = 1 := by kernel_rfl
   have ci : Tryz.prog.cellsOf 3 = 1 := by kernel_rfl
   have cv : Tryz.prog.cellsOf 36 = 1 := by kernel_rfl
   have cl : Tryz.prog.cellsOf 37 = 1 := by kernel_rfl
   match xs, hlen with
   | [y0, y1, y2, y3], _ =>
     have h0 : DataW.trod enc Tryz.prog W 0 (fun _ => true) true n' 35 ((List.drop 0 [c0, c1, c2, c3]).take (Tryz.prog.cellsOf 35)) = some y0 := hf 0 _ rfl
     have h1 : DataW.trod enc Tryz.prog W 0 (fun _ => true) true n' 3 ((List.drop 1 [c0, c1, c2, c3]).take (Tryz.prog.cellsOf 3)) = some y1 := hf 1 _ rfl
     have h2 : DataW.trod enc Tryz.prog W 0 (fun _ => true) true n' 36 ((List.drop 2 [c0, c1, c2, c3]).take (Tryz.prog.cellsOf 36)) = some y2 := hf 2 _ rfl
     have h3 : DataW.trod enc Tryz.prog W 0 (fun _ => true) true n' 37 ((List.drop 3 [c0, c1, c2, c3]).take (Tryz.prog.cellsOf 37)) = some y3 := hf 3 _ rfl
     simp only [ce, ci, cv, cl, List.drop_zero, List.take_succ_cons, List.take_zero, List.drop_succ_cons] at h0 h1 h2 h3
     have hy : y.1 = .agg ([y0, y1, y2, y3].map (·.1)) := by rw [hx]
     rw [hy] at hw
     have w2 : okW 36 y2.1 := okW_part Tryz.underlying39 hw (j := 2) rfl rfl
     have w3 : okW 37 y3.1 := okW_part Tryz.underlying39 hw (j := 3) rfl rfl
     obtain ⟨a0, e0, _, u0⟩ := DataW.trod_int Tryz.underlying35 h0
     obtain ⟨a1, e1, _, u1⟩ := DataW.trod_int Tryz.underlying3 h1
     obtain ⟨vs, rv, -, zv⟩ := in_slice (α := Val) Tryz.underlying36 (size := 3) (by kernel_rfl) (by omega) Val.cells (fun _ => rfl) (fun _ => True) (fun n cs y hl h _ => by
       obtain ⟨x, hx, _⟩ := in_val n cs y hl h
       exact ⟨x, hx, trivial⟩) h2 w2
     obtain ⟨ls, rl, -, zl⟩ := in_slice (α := Nat) Tryz.underlying37 (size := 1) (by kernel_rfl) (by omega) (fun x : Nat => [keyV .u32 x]) (fun _ => rfl) (fun _ => True) (fun n cs y hl h _ => by
       obtain ⟨a, e, _, w⟩ := DataW.trod_int Tryz.underlying32 h
       have b := bounds_u32 w
       obtain ⟨k, rfl⟩ := Int.eq_ofNat_of_zero_le b.1
       exact ⟨k, e, trivial⟩) h3 w3
     rw [flat_one] at rl
     have bv : Tryz.prog.bytesOf 77 = 32 := by kernel_rfl
     have bl : Tryz.prog.bytesOf 32 = 4 := by kernel_rfl
     rw [bv] at zv
     rw [bl] at zl
     simp only [List.cons.injEq, and_true] at e0 e1
     subst e0 e1
     exact ⟨⟨a0, a1, vs, ls, c2, c3, rv, rl, Nat.le_trans zv (by decide), Nat.le_trans zl (by decide)⟩, rfl⟩
set_option maxRecDepth 100000 in
theorem in_reply (n : Nat) (cs : List Value) (y : DataW H × List MemPlace) (hl : cs.length = 13) (h : DataW.trod enc Tryz.prog W 0 (fun _ => true) true n 44 cs = some y) (hw : okW 44 y.1) : ∃ x : Cm, cs = x.c13 ∧ x.Rd W ∧ x.Small := by
 obtain ⟨xs, n', _, hx, _, hlen, hf⟩ := DataW.trod_struct Tryz.underlying44 h
 match cs, hl with
 | [c0, c1, c2, c3, c4, c5, c6, c7, c8, c9, c10, c11, c12], _ =>
   have k8 : Tryz.prog.cellsOf 5 = 1 := by kernel_rfl
   have ku : Tryz.prog.cellsOf 32 = 1 := by kernel_rfl
   have kr : Tryz.prog.cellsOf 34 = 5 := by kernel_rfl
   have ka : Tryz.prog.cellsOf 39 = 4 := by kernel_rfl
   have ki : Tryz.prog.cellsOf 3 = 1 := by kernel_rfl
   match xs, hlen with
   | [y0, y1, y2, y3, y4, y5], _ =>
     have h0 : DataW.trod enc Tryz.prog W 0 (fun _ => true) true n' 5 ((List.drop 0 [c0, c1, c2, c3, c4, c5, c6, c7, c8, c9, c10, c11, c12]).take (Tryz.prog.cellsOf 5)) = some y0 := hf 0 _ rfl
     have h1 : DataW.trod enc Tryz.prog W 0 (fun _ => true) true n' 32 ((List.drop 1 [c0, c1, c2, c3, c4, c5, c6, c7, c8, c9, c10, c11, c12]).take (Tryz.prog.cellsOf 32)) = some y1 := hf 1 _ rfl
     have h2 : DataW.trod enc Tryz.prog W 0 (fun _ => true) true n' 34 ((List.drop 2 [c0, c1, c2, c3, c4, c5, c6, c7, c8, c9, c10, c11, c12]).take (Tryz.prog.cellsOf 34)) = some y2 := hf 2 _ rfl
     have h3 : DataW.trod enc Tryz.prog W 0 (fun _ => true) true n' 39 ((List.drop 7 [c0, c1, c2, c3, c4, c5, c6, c7, c8, c9, c10, c11, c12]).take (Tryz.prog.cellsOf 39)) = some y3 := hf 3 _ rfl
     have h4 : DataW.trod enc Tryz.prog W 0 (fun _ => true) true n' 3 ((List.drop 11 [c0, c1, c2, c3, c4, c5, c6, c7, c8, c9, c10, c11, c12]).take (Tryz.prog.cellsOf 3)) = some y4 := hf 4 _ rfl
     have h5 : DataW.trod enc Tryz.prog W 0 (fun _ => true) true n' 3 ((List.drop 12 [c0, c1, c2, c3, c4, c5, c6, c7, c8, c9, c10, c11, c12]).take (Tryz.prog.cellsOf 3)) = some y5 := hf 5 _ rfl
     simp only [k8, ku, kr, ka, ki, List.drop_zero, List.take_succ_cons, List.take_zero, List.drop_succ_cons] at h0 h1 h2 h3 h4 h5
     have hy : y.1 = .agg ([y0, y1, y2, y3, y4, y5].map (·.1)) := by rw [hx]
     rw [hy] at hw
     have w2 : okW 34 y2.1 := okW_part Tryz.underlying44 hw (j := 2) rfl rfl
     have w3 : okW 39 y3.1 := okW_part Tryz.underlying44 hw (j := 3) rfl rfl
     obtain ⟨a0, e0, _, u0⟩ := DataW.trod_int Tryz.underlying5 h0
     obtain ⟨a1, e1, _, u1⟩ := DataW.trod_int Tryz.underlying32 h1
     obtain ⟨q, hq, ro, sq⟩ := in_req n' _ y2 rfl h2 w2
     obtain ⟨x, hxa⟩ := in_ans n' _ y3 rfl h3 w3
     obtain ⟨a4, e4, _, u4⟩ := DataW.trod_int Tryz.underlying3 h4
     obtain ⟨a5, e5, _, u5⟩ := DataW.trod_int Tryz.underlying3 h5
     have b0 := bounds_u8 u0
     have b1 := bounds_u32 u1
     obtain ⟨k0, rfl⟩ := Int.eq_ofNat_of_zero_le b0.1
     obtain ⟨k1, rfl⟩ := Int.eq_ofNat_of_zero_le b1.1
     simp only [List.cons.injEq, and_true, Qs.cells] at e0 e1 e4 e5 hq hxa
     obtain ⟨rfl, rfl, rfl, rfl, rfl⟩ := hq
     obtain ⟨rfl, rfl, rfl, rfl⟩ := hxa
     subst e0 e1 e4 e5
     exact ⟨⟨⟨k0, k1, q.r, x.e, x.p, x.vals, x.list, a4, a5⟩, q.vo, x.vv, x.vl⟩, rfl, ⟨⟨by show k0 < 256; omega, by show k1 < 4294967296; omega⟩, sq.fits.v, ro, x.hv, x.hl⟩, ⟨sq.size, x.sv, x.sl⟩⟩
end
end Go.Proofs.YtpigipgoopeeoaaGreatDoor
