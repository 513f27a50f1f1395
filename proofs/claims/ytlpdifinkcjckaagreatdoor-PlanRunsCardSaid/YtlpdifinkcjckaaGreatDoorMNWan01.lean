import Derived.Test.YtlpdifinkcjckaaGreatDoorMFw27
import Derived.Test.YtlpdifinkcjckaaGreatDoorMNWan00
set_option linter.unusedVariables false
set_option linter.unusedSimpArgs false
namespace Go.Proofs.YtlpdifinkcjckaaGreatDoor
def dputS (w : Wt) (s : List Wt × Bool) (x : Wt) : List Wt × Bool :=
 if !(s.2 || x.1 == w.1) && decide (w.1 < x.1) then (s.1 ++ [w] ++ [x], true) else (s.1 ++ [x], s.2 || x.1 == w.1)
def dputT (w : Wt) (l : List Wt) : List Wt × Bool := l.foldl (dputS w) ([], false)
def dput (w : Wt) (l : List Wt) : List Wt := if (dputT w l).2 then (dputT w l).1 else (dputT w l).1 ++ [w]
def dstepV (ops : List Opr) (l : List Wt) (v : Nat) : List Wt := if v = 0 ∨ modeL ops v = 0 then l else dput (v, modeL ops v) l
def dstep (ops : List Opr) (l : List Wt) (o : Opr) : List Wt := dstepV ops (dstepV ops l o.a) o.b
def docW (ops : List Opr) : List Wt := ops.foldl (dstep ops) []
theorem dputT_snoc (w : Wt) (l : List Wt) (x : Wt) : dputT w (l ++ [x]) = dputS w (dputT w l) x := by simp [dputT]
theorem dput_all (w : Wt) (l : List Wt) (hr : Rising Prod.fst l) :
   Rising Prod.fst (dputT w l).1 ∧ (∀ y, y ∈ (dputT w l).1 ↔ y ∈ l ∨ ((dputT w l).2 = true ∧ y = w ∧ ∀ x ∈ l, x.1 ≠ w.1)) ∧ ((dputT w l).2 = false → (dputT w l).1 = l ∧ ∀ x ∈ l, x.1 < w.1) ∧ ((dputT w l).2 = true → ∃ x ∈ l, w.1 ≤ x.1) := by
 induction l using esnoc_ind with
 | h0 => exact ⟨List.Pairwise.nil, by simp [dputT], by simp [dputT], by simp [dputT]⟩
 | hs l x ih =>
   have hr1 : Rising Prod.fst l := (List.pairwise_append.1 hr).1
   have hlast : ∀ y ∈ l, y.1 < x.1 := fun y hy => (List.pairwise_append.1 hr).2.2 y hy x (by simp)
   obtain ⟨i1, i2, i3, i4⟩ := ih hr1
   rw [dputT_snoc]
   unfold dputS
   generalize dputT w l = s at *
   obtain ⟨out, d⟩ := s
   simp only at *
   cases d with
   | true =>
     obtain ⟨z, hz, hzw⟩ := i4 rfl
     have hzx := hlast z hz
     simp only [Bool.true_or, Bool.not_true, Bool.false_and, Bool.false_eq_true, if_false]
     refine ⟨?_, fun y => ?_, by simp, fun _ => ⟨x, by simp, by omega⟩⟩
     · rw [Rising, List.pairwise_append]
       refine ⟨i1, by simp, fun a ha b hb => ?_⟩
       rw [List.mem_singleton] at hb; subst hb
       rcases (i2 a).1 ha with h | ⟨_, h, _⟩
       · exact hlast a h
       · subst h; omega
     · rw [List.mem_append, List.mem_append, i2]
       simp only [List.mem_singleton, true_and, List.mem_append]
       constructor
       · rintro ((h | ⟨h1, h2⟩) | h)
         · exact .inl (.inl h)
         · refine .inr ⟨h1, fun a ha => ?_⟩
           rcases ha with ha | ha
           · exact h2 a ha
           · subst ha; omega
         · exact .inl (.inr h)
       · rintro ((h | h) | ⟨h1, h2⟩)
         · exact .inl (.inl h)
         · exact .inr h
         · exact .inl (.inr ⟨h1, fun a ha => h2 a (.inl ha)⟩)
   | false =>
     obtain ⟨rfl, hlow⟩ := i3 rfl
     simp only [Bool.false_or]
     by_cases e : x.1 = w.1
     · have : (x.1 == w.1) = true := by simpa using e
       simp only [this, Bool.not_true, Bool.false_and, Bool.false_eq_true, if_false]
       refine ⟨hr, fun y => ?_, by simp, fun _ => ⟨x, by simp, by omega⟩⟩
       constructor
       · exact .inl
       · rintro (h | ⟨_, _, h⟩)
         · exact h
         · exact absurd e (h x (by simp))
     · have : (x.1 == w.1) = false := by simpa using e
       simp only [this, Bool.not_false, Bool.true_and]
       by_cases hlt : w.1 < x.1
       · simp only [hlt, decide_true, if_true]
         refine ⟨?_, fun y => ?_, by simp, fun _ => ⟨x, by simp, by omega⟩⟩
         · rw [Rising, List.append_assoc, List.pairwise_append]
           refine ⟨hr1, by simpa using hlt, fun a ha b hb => ?_⟩
           rcases List.mem_append.1 hb with hb | hb
           · rw [List.mem_singleton] at hb; subst hb; exact hlow a ha
           · rw [List.mem_singleton] at hb; subst hb; exact hlast a ha
         · simp only [List.mem_append, List.mem_singleton, true_and]
           constructor
           · rintro ((h | h) | h)
             · exact .inl (.inl h)
             · refine .inr ⟨h, fun a ha => ?_⟩
               rcases ha with ha | ha
               · have := hlow a ha; omega
               · subst ha; omega
             · exact .inl (.inr h)
           · rintro ((h | h) | ⟨h, _⟩)
             · exact .inl (.inl h)
             · exact .inr h
             · exact .inl (.inr h)
       · have hd : decide (w.1 < x.1) = false := by simpa using hlt
         simp only [hd, Bool.false_eq_true, if_false]
         refine ⟨hr, fun y => by simp, fun _ => ⟨by simp, fun a ha => ?_⟩, by simp⟩
         rcases List.mem_append.1 ha with ha | ha
         · exact hlow a ha
         · rw [List.mem_singleton] at ha; subst ha; omega
theorem dput_ok (w : Wt) (l : List Wt) (hr : Rising Prod.fst l) : Rising Prod.fst (dput w l) ∧ ∀ y, y ∈ dput w l ↔ y ∈ l ∨ (y = w ∧ ∀ x ∈ l, x.1 ≠ w.1) := by
 obtain ⟨h1, h2, h3, h4⟩ := dput_all w l hr
 unfold dput
 cases hd : (dputT w l).2 with
 | true =>
   rw [if_pos rfl]
   refine ⟨h1, fun y => ?_⟩
   rw [h2, hd]; simp
 | false =>
   rw [if_neg (by simp)]
   obtain ⟨e, hl⟩ := h3 hd
   rw [e]
   refine ⟨?_, fun y => ?_⟩
   · rw [Rising, List.pairwise_append]
     refine ⟨hr, by simp, fun a ha b hb => ?_⟩
     rw [List.mem_singleton] at hb; subst hb; exact hl a ha
   · rw [List.mem_append, List.mem_singleton]
     constructor
     · rintro (h | h)
       · exact .inl h
       · exact .inr ⟨h, fun a ha => by have := hl a ha; omega⟩
     · rintro (h | h)
       · exact .inl h
       · exact .inr h.1
theorem dput_len (w : Wt) (l : List Wt) : (dput w l).length ≤ l.length + 1 := by
 have key : ∀ l, (dputT w l).1.length + (if (dputT w l).2 then 0 else 1) ≤ l.length + 1 := by
   intro l
   induction l using esnoc_ind with
   | h0 => simp [dputT]
   | hs l x ih =>
     rw [dputT_snoc]
     unfold dputS
     generalize dputT w l = s at *
     obtain ⟨out, d⟩ := s
     simp only at *
     split
     · rename_i h
       simp at h
       simp [h.1.1] at ih
       simp; omega
     · cases d <;> by_cases e : x.1 == w.1 <;> simp [e] at ih ⊢ <;> omega
 have := key l
 unfold dput
 split
 · rename_i h; simp [h] at this; omega
 · rename_i h; simp [h] at this; simp; omega
structure DW (ops : List Opr) (S : Nat → Prop) (l : List Wt) : Prop where
 rise : Rising Prod.fst l
 mem : ∀ x : Wt, x ∈ l ↔ x.2 = modeL ops x.1 ∧ x.2 ≠ 0 ∧ x.1 ≠ 0 ∧ S x.1
theorem DW.stepV {ops : List Opr} {S S' : Nat → Prop} {l : List Wt} (h : DW ops S l) (v : Nat) (hS : ∀ k, S' k ↔ S k ∨ k = v) : DW ops S' (dstepV ops l v) := by
 unfold dstepV
 by_cases hv : v = 0 ∨ modeL ops v = 0
 · rw [if_pos hv]
   refine ⟨h.rise, fun x => ?_⟩
   rw [h.mem, hS]
   constructor
   · rintro ⟨a, b, c, d⟩; exact ⟨a, b, c, .inl d⟩
   · rintro ⟨a, b, c, d | d⟩
     · exact ⟨a, b, c, d⟩
     · rw [d] at a c; omega
 · rw [if_neg hv]
   obtain ⟨h1, h2⟩ := dput_ok (v, modeL ops v) l h.rise
   refine ⟨h1, fun x => ?_⟩
   rw [h2, h.mem, hS]
   constructor
   · rintro (⟨a, b, c, d⟩ | ⟨a, _⟩)
     · exact ⟨a, b, c, .inl d⟩
     · subst a; exact ⟨rfl, by omega, by omega, .inr rfl⟩
   · rintro ⟨a, b, c, d⟩
     by_cases hs : S x.1
     · exact .inl ⟨a, b, c, hs⟩
     · have e : x.1 = v := by rcases d with d | d; exact absurd d hs; exact d
       refine .inr ⟨Prod.ext e (by rw [a, e]), fun y hy hye => ?_⟩
       have := (h.mem y).1 hy
       rw [show y.1 = v from hye, ← e] at this
       exact hs this.2.2.2
theorem docW_ok (ops : List Opr) : ∀ l : List Opr, DW ops (fun k => ∃ o ∈ l, k = o.a ∨ k = o.b) (l.foldl (dstep ops) []) := by
 intro l
 induction l using esnoc_ind with
 | h0 => exact ⟨List.Pairwise.nil, by simp⟩
 | hs l o ih =>
   rw [List.foldl_append, List.foldl_cons, List.foldl_nil]
   refine (ih.stepV (S' := fun k => (∃ o ∈ l, k = o.a ∨ k = o.b) ∨ k = o.a) o.a (fun k => Iff.rfl)).stepV o.b (fun k => ?_)
   constructor
   · rintro ⟨p, hp, h⟩
     rcases List.mem_append.1 hp with hp | hp
     · exact .inl (.inl ⟨p, hp, h⟩)
     · rw [List.mem_singleton] at hp; subst hp
       rcases h with h | h
       · exact .inl (.inr h)
       · exact .inr h
   · rintro ((⟨p, hp, h⟩ | h) | h)
     · exact ⟨p, by simp [hp], h⟩
     · exact ⟨o, by simp, .inl h⟩
     · exact ⟨o, by simp, .inr h⟩
theorem docW_eq {ops : List Opr} (h : ∀ o ∈ ops, opOK o = true) : docW ops = wantsP ops := by
 have h1 := wantsP_ok h
 have h2 := docW_ok ops ops
 refine rising_extE h2.rise h1.rise (fun x => ?_)
 unfold docW
 rw [h2.mem, h1.mem]
 constructor
 · rintro ⟨a, b, _⟩; exact ⟨a, b⟩
 · rintro ⟨a, b⟩
   have h3 := modeL_num h (v := x.1) (by omega)
   exact ⟨a, b, by omega, h3.2.2⟩
theorem docW_len (ops : List Opr) : ∀ l : List Opr, (l.foldl (dstep ops) []).length ≤ 2 * l.length := by
 intro l
 induction l using esnoc_ind with
 | h0 => simp
 | hs l o ih =>
   rw [List.foldl_append, List.foldl_cons, List.foldl_nil, List.length_append, List.length_singleton]
   have key : ∀ m v, (dstepV ops m v).length ≤ m.length + 1 := fun m v => by
     unfold dstepV; split
     · omega
     · exact dput_len _ _
   have h1 := key (l.foldl (dstep ops) []) o.a
   have h2 := key (dstepV ops (l.foldl (dstep ops) []) o.a) o.b
   show (dstepV ops (dstepV ops (l.foldl (dstep ops) []) o.a) o.b).length ≤ _
   omega
open Go.RowKit
theorem infoOp : (Tryz.prog.info? 82).map (fun i => (i.zero, i.size, i.bytes)) = some (some (.agg #[.int .u8 0, .int .u32 0, .int .u32 0, .int .u8 0, .int .u8 0, .int .i64 0, zval]), 7, 48) := by kernel_rfl
theorem fresh_segG {w w2 : World} {t : TypeId} {size : Nat} {v : Value} {n n0 : Nat} {xs : List Value} (hn : w.heap.size = n0)
   (hs : Seg w2 t size v (0 + n) ([] ++ xs)) (hg : (w.alloc (.cells #[] t)).grownBy w2 (Value.ownBlock (.slice (some ⟨n0, 0, none⟩) 0 0)))
   (ho : v.ownBlock = Value.ownBlock (.slice (some ⟨n0, 0, none⟩) 0 0) ∨ v.ownBlock = some (w.alloc (.cells #[] t)).heap.size) : Seg w2 t size v n xs ∧ Mod (fun _ => False) w w2 ∧ ∀ b, v.ownBlock = some b → n0 ≤ b := by
 subst hn
 refine ⟨by simpa using hs, ((Mod.refl _ w).alloc _).grown hg (fun b hb hlt => ?_), fun b hb => ?_⟩
 · simp [Value.ownBlock] at hb; omega
 · rcases ho with e | e
   · rw [e] at hb; simp [Value.ownBlock] at hb; omega
   · rw [e] at hb; simp at hb; omega
open Go.RowKit Go.ChangeShapes Go.WideShapes Go.ChangeAt
section
variable {H : Type} {enc : TypeId × Value → H} {W : World} {base : Nat} {v : Value} {d : DataW H} {p : List MemPlace}
set_option maxRecDepth 100000 in
theorem in_op (n : Nat) (cs : List Value) (y : DataW H × List MemPlace) (hl : cs.length = 7) (h : DataW.trod enc Tryz.prog W 0 (fun _ => true) true n 82 cs = some y) (hw : okW 82 y.1) : ∃ x : Opr, cs = x.cells ∧ x.Fits := by
 obtain ⟨xs, n', _, _, _, hlen, hf⟩ := DataW.trod_struct Tryz.underlying82 h
 match cs, hl with
 | [c0, c1, c2, c3, c4, c5, c6], _ =>
   have c8 : Tryz.prog.cellsOf 5 = 1 := by kernel_rfl
   have cu : Tryz.prog.cellsOf 27 = 1 := by kernel_rfl
   have cv : Tryz.prog.cellsOf 68 = 3 := by kernel_rfl
   match xs, hlen with
   | [y0, y1, y2, y3, y4], _ =>
     have h0 : DataW.trod enc Tryz.prog W 0 (fun _ => true) true n' 5 ((List.drop 0 [c0, c1, c2, c3, c4, c5, c6]).take (Tryz.prog.cellsOf 5)) = some y0 := hf 0 _ rfl
     have h1 : DataW.trod enc Tryz.prog W 0 (fun _ => true) true n' 27 ((List.drop 1 [c0, c1, c2, c3, c4, c5, c6]).take (Tryz.prog.cellsOf 27)) = some y1 := hf 1 _ rfl
     have h2 : DataW.trod enc Tryz.prog W 0 (fun _ => true) true n' 27 ((List.drop 2 [c0, c1, c2, c3, c4, c5, c6]).take (Tryz.prog.cellsOf 27)) = some y2 := hf 2 _ rfl
     have h3 : DataW.trod enc Tryz.prog W 0 (fun _ => true) true n' 5 ((List.drop 3 [c0, c1, c2, c3, c4, c5, c6]).take (Tryz.prog.cellsOf 5)) = some y3 := hf 3 _ rfl
     have h4 : DataW.trod enc Tryz.prog W 0 (fun _ => true) true n' 68 ((List.drop 4 [c0, c1, c2, c3, c4, c5, c6]).take (Tryz.prog.cellsOf 68)) = some y4 := hf 4 _ rfl
     simp only [c8, cu, cv, List.drop_zero, List.take_succ_cons, List.take_zero, List.drop_succ_cons] at h0 h1 h2 h3 h4
     obtain ⟨a0, e0, _, w0⟩ := DataW.trod_int Tryz.underlying5 h0
     obtain ⟨a1, e1, _, w1⟩ := DataW.trod_int Tryz.underlying27 h1
     obtain ⟨a2, e2, _, w2⟩ := DataW.trod_int Tryz.underlying27 h2
     obtain ⟨a3, e3, _, w3⟩ := DataW.trod_int Tryz.underlying5 h3
     obtain ⟨v, e4, hv⟩ := in_val n' _ _ rfl h4
     simp only [List.cons.injEq, and_true] at e0 e1 e2 e3 e4
     have b0 := bounds_u8 w0
     have b1 := bounds_u32 w1
     have b2 := bounds_u32 w2
     have b3 := bounds_u8 w3
     obtain ⟨k0, rfl⟩ := Int.eq_ofNat_of_zero_le b0.1
     obtain ⟨k1, rfl⟩ := Int.eq_ofNat_of_zero_le b1.1
     obtain ⟨k2, rfl⟩ := Int.eq_ofNat_of_zero_le b2.1
     obtain ⟨k3, rfl⟩ := Int.eq_ofNat_of_zero_le b3.1
     obtain ⟨rfl, rfl, rfl⟩ := e4
     subst e0 e1 e2 e3
     exact ⟨⟨k0, k1, k2, k3, v⟩, rfl, by simp only; omega, by simp only; omega, by simp only; omega, by simp only; omega, hv⟩
def InBytes (W : World) (v : Value) : Prop := ∃ l : List Nat, RdS W 1 v l.length (l.map (keyV .u8)) ∧ ∀ x ∈ l, x < 256
set_option maxRecDepth 100000 in
theorem in_bytes (hv : Value.okWide Tryz.prog W .any base 72 v) (h : DataW.Trod enc Tryz.prog W 0 (fun _ => true) true 72 v d p) (hs : okW 72 d) : InBytes W v := by
 obtain ⟨a0, len0, cap0, rfl⟩ := okWide_slice Tryz.underlying72 hv
 obtain ⟨fuel, hf⟩ := h
 obtain ⟨l, rl, gl, _⟩ := in_slice Tryz.underlying72 (size := 1) (by kernel_rfl) (by omega) (fun x : Nat => [keyV .u8 x]) (fun _ => rfl) (fun x => x < 256) (fun n cs y hl h _ => by
   obtain ⟨a, e, _, w⟩ := DataW.trod_int Tryz.underlying5 h
   have b := bounds_u8 w
   obtain ⟨k, rfl⟩ := Int.eq_ofNat_of_zero_le b.1
   exact ⟨k, e, by omega⟩) (u := .slice a0 len0 cap0) (y := (d, p)) (by simpa [Value.cells] using hf) hs
 rw [flat_one] at rl
 exact ⟨l, rl, gl⟩
end
open Go.RowKit Go.Maps
def InOps (W : World) (v : Value) : Prop := ∃ l : List Opr, ORd W v l ∧ l.length * 48 ≤ 140737488355328
section
open Go.ChangeShapes Go.WideShapes Go.ChangeAt
variable {H : Type} {enc : TypeId × Value → H} {W : World} {base : Nat} {v : Value} {d : DataW H} {p : List MemPlace}
set_option maxRecDepth 100000 in
theorem in_ops (hv : Value.okWide Tryz.prog W .any base 23 v) (h : DataW.Trod enc Tryz.prog W 0 (fun _ => true) true 23 v d p) (hs : okW 23 d) : InOps W v := by
 obtain ⟨a0, len0, cap0, rfl⟩ := okWide_slice Tryz.underlying23 hv
 obtain ⟨fuel, hf⟩ := h
 obtain ⟨l, rl, gl, zl⟩ := in_slice Tryz.underlying23 (size := 7) (by kernel_rfl) (by omega) Opr.cells opr_cells Opr.Fits in_op (u := .slice a0 len0 cap0) (y := (d, p)) (by simpa [Value.cells] using hf) hs
 have bo : Tryz.prog.bytesOf 82 = 48 := by kernel_rfl
 rw [bo] at zl
 exact ⟨l, ⟨rl, gl⟩, Nat.le_trans zl (by decide)⟩
end
open Go.RowKit
theorem emptyN (w : World) (t : TypeId) (size : Nat) : Seg (w.alloc (.cells #[] t)) t size (.slice (some ⟨w.heap.size, 0, none⟩) 0 0) 0 [] := ⟨by simp, by simp, .inr ⟨_, 0, 0, #[], rfl, heap_alloc_new' w _, Nat.le_refl _, Nat.zero_le _, by simp, by simp⟩⟩
theorem infoB : (Tryz.prog.info? 5).map (fun i => (i.zero, i.size, i.bytes)) = some (some (.int .u8 0), 1, 1) := by kernel_rfl
set_option maxRecDepth 100000 in
set_option maxHeartbeats 2000000 in
theorem opsc_any (n : Nat) (v : Value) (us : List Value) (w : World) (hv : RdS w 7 v n us) (h1 : ∀ u ∈ us, u.oneCell' = true) (hn : n * 48 ≤ 140737488355328) :
   Calls Tryz.prog 13 #[v] w fun e w' => ∃ a c, e = .returned (.slice a n c) ∧ Mod (fun _ => False) w w' ∧ Seg w' 82 7 (.slice a n c) n us ∧ ∀ b, (Value.slice a n c).ownBlock = some b → w.heap.size ≤ b := by
 have HR := Lib.hid hv
 have H1 := Lib.hid h1
 obtain ⟨a, c, rfl, -⟩ := hv.shape
 have HB := Lib.hid hn
 obtain ⟨i0, hi, hz0, hz1, hz2⟩ := info_parts infoOp
 have HI : Hid (Tryz.prog.info? 82 = some i0 ∧ i0.zero = some (.agg #[.int .u8 0, .int .u32 0, .int .u32 0, .int .u8 0, .int .u8 0, .int .i64 0, zval]) ∧ i0.size = 7 ∧ i0.bytes = 48) := ⟨hi, hz0, hz1, hz2⟩
 clear hi hz0 hz1 hz2 hv h1 hn
 go_enter Tryz.func13, Tryz.ntmps13
 have HE := Lib.hid (emptyN w 82 7)
 have HR0 := Lib.hid (HR.out.keep ((Mod.refl _ _).alloc (.cells #[] 82)))
 go_wp2_with (at_builtin; go_loud (refine wpList_append_seg rfl (.tmp 3) (.tmp 4) 23 rfl i0 _ 7 48 Tryz.underlying23 HI.out.1 HI.out.2.1 HI.out.2.2.1 HI.out.2.2.2 rfl (by decide) rfl HE.out _ n _ rfl (HR0.out.src H1.out) (by have := HB.out; unfold maxLen; omega) (by have := HB.out; omega) ?_; intro v3 w3 hs3 hg3 ho3; (obtain ⟨hsg, hmd, hown⟩ := fresh_segG rfl hs3 hg3 ho3); (obtain ⟨a3, c3, rfl, -⟩ := hsg.shape); have HS3 := Lib.hid (And.intro hsg (And.intro hmd hown)); clear hs3 hg3 ho3 hsg hmd hown))
 go_ret
 exact ⟨a3, c3, rfl, HS3.out.2.1, HS3.out.1, HS3.out.2.2⟩
set_option maxRecDepth 100000 in
set_option maxHeartbeats 2000000 in
theorem btwin_any (n : Nat) (v : Value) (us : List Value) (w : World) (hv : RdS w 1 v n us) (h1 : ∀ u ∈ us, u.oneCell' = true) (hn : n * 1 ≤ 140737488355328) :
   Calls Tryz.prog 31 #[v] w fun e w' => ∃ a c, e = .returned (.slice a n c) ∧ Mod (fun _ => False) w w' ∧ Seg w' 5 1 (.slice a n c) n us ∧ ∀ b, (Value.slice a n c).ownBlock = some b → w.heap.size ≤ b := by
 have HR := Lib.hid hv
 have H1 := Lib.hid h1
 obtain ⟨a, c, rfl, -⟩ := hv.shape
 have HB := Lib.hid hn
 obtain ⟨i0, hi, hz0, hz1, hz2⟩ := info_parts infoB
 have HI : Hid (Tryz.prog.info? 5 = some i0 ∧ i0.zero = some (.int .u8 0) ∧ i0.size = 1 ∧ i0.bytes = 1) := ⟨hi, hz0, hz1, hz2⟩
 clear hi hz0 hz1 hz2 hv h1 hn
 go_enter Tryz.func31, Tryz.ntmps31
 have HE := Lib.hid (emptyN w 5 1)
 have HR0 := Lib.hid (HR.out.keep ((Mod.refl _ _).alloc (.cells #[] 5)))
 go_wp2_with (at_builtin; go_loud (refine wpList_append_seg rfl (.tmp 3) (.tmp 4) 72 rfl i0 _ 1 1 Tryz.underlying72 HI.out.1 HI.out.2.1 HI.out.2.2.1 HI.out.2.2.2 rfl (by decide) rfl HE.out _ n _ rfl (HR0.out.src H1.out) (by have := HB.out; unfold maxLen; omega) (by have := HB.out; omega) ?_; intro v3 w3 hs3 hg3 ho3; (obtain ⟨hsg, hmd, hown⟩ := fresh_segG rfl hs3 hg3 ho3); (obtain ⟨a3, c3, rfl, -⟩ := hsg.shape); have HS3 := Lib.hid (And.intro hsg (And.intro hmd hown)); clear hs3 hg3 ho3 hsg hmd hown))
 go_ret
 exact ⟨a3, c3, rfl, HS3.out.2.1, HS3.out.1, HS3.out.2.2⟩
theorem ops18_any (ops : List Opr) (vo : Value) (w : World) (ho : ORd w vo ops) (hn : ops.length * 48 ≤ 140737488355328) :
   Calls Tryz.prog 13 #[vo] w fun e w' => ∃ a c, e = .returned (.slice a ops.length c) ∧ Mod (fun _ => False) w w' ∧ ORd w' (.slice a ops.length c) ops :=
 (opsc_any ops.length vo _ w ho.row (ocells_ones _) hn).mono (fun _ _ ⟨a, c, he, hm, hs, _⟩ => ⟨a, c, he, hm, hs.rdS, ho.fits⟩)
end Go.Proofs.YtlpdifinkcjckaaGreatDoor
