import Derived.Test.YtpigipgoopeeoaaGreatDoorMCBegCHol00
import Derived.Test.YtpigipgoopeeoaaGreatDoorMCHolCVer09
set_option linter.unusedVariables false
set_option linter.unusedSimpArgs false
namespace Go.Proofs.YtpigipgoopeeoaaGreatDoor
open Go.RowKit Go.ChangeShapes Go.WideShapes Go.ChangeAt
structure QRd (w : World) (v : Value) (l : List Qs) : Prop where
 row : RdS w 5 v l.length (l.flatMap Qs.cells)
 each : ∀ q ∈ l, ORd w q.vo q.r.ops
 small : ∀ q ∈ l, q.Small
theorem QRd.keep {w w' : World} {v : Value} {l : List Qs} (h : QRd w v l) (m : Mod (fun _ => False) w w') : QRd w' v l := ⟨h.row.keep m, fun q hq => (h.each q hq).keep m, h.small⟩
theorem QRd.ent {w : World} {v : Value} {l : List Qs} (h : QRd w v l) {i : Nat} {x : Qs} (hi : l[i]? = some x) {a : Option Addr} {n c : Nat} (e : v = .slice a n c) :
   ∃ b off, a = some ⟨b, off, none⟩ ∧ b < w.heap.size ∧ w.cell? ⟨b, off + i * 5, none⟩ = some (.int .u8 (x.r.kind : Int)) ∧ w.cell? ⟨b, off + i * 5 + 1, none⟩ = some x.vo ∧ w.cell? ⟨b, off + i * 5 + 2, none⟩ = some (.int .u32 (x.r.v : Int)) ∧ w.cell? ⟨b, off + i * 5 + 3, none⟩ = some (.int .i64 x.r.k) ∧ w.cell? ⟨b, off + i * 5 + 4, none⟩ = some (.int .i64 x.r.dest) := by
 have g := fun j hj => flat_get Qs.cells (fun _ => rfl) l i j x hi (show j < 5 from hj)
 obtain ⟨a', c', e', -⟩ := h.row.shape
 rw [e] at e'
 injection e' with e1 e2 e3
 rw [e2] at e
 have k : ∀ j u, j < 5 → x.cells[j]? = some u → ∃ b off, a = some ⟨b, off, none⟩ ∧ b < w.heap.size ∧ w.cell? ⟨b, off + (i * 5 + j), none⟩ = some u := fun j u hj hu => h.row.cell a c e (i * 5 + j) u (by rw [g j hj]; exact hu)
 obtain ⟨b, off, ea, hb, h0⟩ := k 0 _ (by omega) rfl
 have r : ∀ j u, j < 5 → x.cells[j]? = some u → w.cell? ⟨b, off + (i * 5 + j), none⟩ = some u := fun j u hj hu => by
   obtain ⟨b1, off1, ea1, _, h1⟩ := k j u hj hu
   rw [ea] at ea1
   injection ea1 with e1; injection e1 with e1 e2
   subst e1 e2
   exact h1
 refine ⟨b, off, ea, hb, h0, ?_, ?_, ?_, ?_⟩
 · rw [Nat.add_assoc]; exact r 1 _ (by omega) rfl
 · rw [Nat.add_assoc]; exact r 2 _ (by omega) rfl
 · rw [Nat.add_assoc]; exact r 3 _ (by omega) rfl
 · rw [Nat.add_assoc]; exact r 4 _ (by omega) rfl
section
variable {H : Type} {enc : TypeId × Value → H} {W : World} {base : Nat} {v : Value} {d : DataW H} {p : List MemPlace}
def InReqs (W : World) (v : Value) : Prop := ∃ l, QRd W v l
set_option maxRecDepth 100000 in
theorem in_reqs (hv : Value.okWide Tryz.prog W .any base 22 v) (h : DataW.Trod enc Tryz.prog W 0 (fun _ => true) true 22 v d p) (hs : okW 22 d) : InReqs W v := by
 obtain ⟨a0, len0, cap0, rfl⟩ := okWide_slice Tryz.underlying22 hv
 obtain ⟨fuel, hf⟩ := h
 obtain ⟨l, rl, gl, _⟩ := in_slice Tryz.underlying22 (size := 5) (by kernel_rfl) (by omega) Qs.cells (fun _ => rfl) (fun q => ORd W q.vo q.r.ops ∧ q.Small) in_req (u := .slice a0 len0 cap0) (y := (d, p)) (by simpa [Value.cells] using hf) hs
 exact ⟨l, rl, fun q hq => (gl q hq).1, fun q hq => (gl q hq).2⟩
def InBytes (W : World) (v : Value) : Prop := ∃ l : List Nat, RdS W 1 v l.length (l.map (keyV .u8)) ∧ ∀ x ∈ l, x < 256
set_option maxRecDepth 100000 in
theorem in_bytes (hv : Value.okWide Tryz.prog W .any base 23 v) (h : DataW.Trod enc Tryz.prog W 0 (fun _ => true) true 23 v d p) (hs : okW 23 d) : InBytes W v := by
 obtain ⟨a0, len0, cap0, rfl⟩ := okWide_slice Tryz.underlying23 hv
 obtain ⟨fuel, hf⟩ := h
 obtain ⟨l, rl, gl, _⟩ := in_slice Tryz.underlying23 (size := 1) (by kernel_rfl) (by omega) (fun x : Nat => [keyV .u8 x]) (fun _ => rfl) (fun x => x < 256) (fun n cs y hl h _ => by
   obtain ⟨a, e, _, w⟩ := DataW.trod_int Tryz.underlying5 h
   have b := bounds_u8 w
   obtain ⟨k, rfl⟩ := Int.eq_ofNat_of_zero_le b.1
   exact ⟨k, e, by omega⟩) (u := .slice a0 len0 cap0) (y := (d, p)) (by simpa [Value.cells] using hf) hs
 rw [flat_one] at rl
 exact ⟨l, rl, gl⟩
end
open Go.RowKit Go.Maps
theorem runG_good {L : Gr} (h : Good L) : ∀ rs : List Rqt, Good (runG L rs)
 | [] => h
 | r :: t => runG_good (Good.do h r) t
open Go.RowKit Go.Maps
theorem oneG_e (L : Gr) (o : Opr) : (oneG L o).e ≤ 10 := by
 unfold oneG
 repeat' split
 all_goals simp
theorem failG_le : ∀ (ops : List Opr) (L : Gr) (i : Nat), (failG L i ops).1 ≤ 10 ∧ (failG L i ops).2 ≤ i + ops.length
 | [], L, i => by simp [failG]
 | o :: r, L, i => by
   unfold failG
   split
   · have h := failG_le r (oneG L o).g (i + 1)
     exact ⟨h.1, by have := h.2; simp only [List.length_cons]; omega⟩
   · exact ⟨oneG_e L o, by simp only [List.length_cons]; omega⟩
theorem checkR_le (r : Rqt) : checkR r ≤ 3 := by
 unfold checkR
 repeat' split
 all_goals omega
theorem doG_e (L : Gr) (r : Rqt) : (doG L r).2.e ≤ 10 ∧ (doG L r).2.at_ ≤ r.ops.length := by
 unfold doG
 split
 · exact ⟨Nat.le_trans (checkR_le r) (by decide), Nat.zero_le _⟩
 · split
   · split
     · exact ⟨by show 0 ≤ 10; decide, Nat.zero_le _⟩
     · have h := failG_le r.ops L 0
       exact ⟨h.1, by have := h.2; simp only at this ⊢; omega⟩
   · split
     · exact ⟨by show 6 ≤ 10; decide, Nat.zero_le _⟩
     · split
       · exact ⟨by show 0 ≤ 10; decide, Nat.zero_le _⟩
       · exact ⟨by show 0 ≤ 10; decide, Nat.zero_le _⟩
theorem okRun_vals (L : Gr) : ∀ (ops : List Opr) (p : Gr × List Val), okRun L ops = some p → p.2.length ≤ ops.length := by
 have key : ∀ (ops : List Opr) (L' : Gr) (us : List Val) (p : Gr × List Val), ops.foldl okStep (some (L', us)) = some p → p.2.length ≤ us.length + ops.length := by
   intro ops
   induction ops with
   | nil => intro L' us p h; simp at h; subst h; simp
   | cons o r ih =>
     intro L' us p h
     rw [List.foldl_cons] at h
     by_cases he : (oneG L' o).e = 0
     · have e : okStep (some (L', us)) o = some ((oneG L' o).g, us ++ (oneG L' o).vals) := by simp [okStep, he]
       rw [e] at h
       have := ih _ _ p h
       have h1 := one_vals L' o
       rw [List.length_append] at this
       simp only [List.length_cons]; omega
     · have e : okStep (some (L', us)) o = none := by simp [okStep, he]
       rw [e, okStep_none] at h
       cases h
 intro ops p h
 have := key ops L [] p h
 simpa using this
theorem doG_sizes {L : Gr} (hL : Good L) (r : Rqt) : (doG L r).2.vals.length ≤ 6 ∧ (doG L r).2.list.length ≤ 40 := by
 unfold doG
 split
 · exact ⟨by show 0 ≤ 6; decide, by show 0 ≤ 40; decide⟩
 · rename_i hc
   split
   · rename_i hk
     split
     · rename_i p hp
       have h1 := okRun_vals L r.ops p hp
       have h2 := checkR_tx (r := r) (by simpa using hc) hk
       exact ⟨Nat.le_trans h1 h2.2.2, by show 0 ≤ 40; decide⟩
     · exact ⟨by show 0 ≤ 6; decide, by show 0 ≤ 40; decide⟩
   · split
     · exact ⟨by show 0 ≤ 6; decide, by show 0 ≤ 40; decide⟩
     · split
       · refine ⟨by show 0 ≤ 6; decide, ?_⟩
         show (withinG L r.v r.k.toNat).length ≤ 40
         unfold withinG
         rw [List.length_map]
         exact Nat.le_trans (List.length_filter_le _ _) hL.short
       · exact ⟨by show 0 ≤ 6; decide, by show 0 ≤ 40; decide⟩
def HistOK (C : List Cx) : Prop := ∀ i x, C[i]? = some x → x.sq = i + 1 ∧ ansBad C i = false ∧ x.given = false ∧ 0 ≤ x.p ∧ x.p ≤ 20
theorem HistOK.nil : HistOK [] := fun i x h => by simp at h
theorem ansBad_app {C : List Cx} {x : Cx} {i : Nat} (h : i < C.length) : ansBad (C ++ [x]) i = ansBad C i := by
 have e : C = (C ++ [x]).take C.length := by simp
 conv => rhs; rw [e]
 exact (ansBad_take h).symm
theorem graphTo_app {C : List Cx} {x : Cx} : graphTo (C ++ [x]) C.length = graphTo C C.length := by
 unfold graphTo
 simp
theorem HistOK.snoc {C : List Cx} (h : HistOK C) {x : Cx} (hs : x.sq = C.length + 1) (ha : x.ansIs (doG (graphTo C C.length) x.r).2 = true) (hg : x.given = false) (hp : 0 ≤ x.p ∧ x.p ≤ 20) : HistOK (C ++ [x]) := by
 intro i y hy
 by_cases hi : i < C.length
 · rw [List.getElem?_append_left hi] at hy
   obtain ⟨h1, h2, h3⟩ := h i y hy
   exact ⟨h1, (ansBad_app hi).trans h2, h3⟩
 · have hlt := (List.getElem?_eq_some_iff.1 hy).1
   rw [List.length_append, List.length_singleton] at hlt
   obtain rfl : i = C.length := by omega
   have hy2 : (C ++ [x])[C.length]? = some x := by simp
   rw [hy2] at hy
   injection hy with hy
   subst hy
   exact ⟨hs, by rw [ansBad_at hy2, graphTo_app, ha]; rfl, hg, hp⟩
theorem lastOf_le {l : List Cx} {k : Nat} (h : ∀ y ∈ l, y.sq ≤ k) : ∀ {c s : Nat}, lastOf l c = some s → s ≤ k := by
 have key : ∀ (l : List Cx) (o : Option Nat) (c s : Nat), (∀ y ∈ l, y.sq ≤ k) → (∀ s, o = some s → s ≤ k) → l.foldl (fun o x => if x.cl = c then some x.sq else o) o = some s → s ≤ k := by
   intro l
   induction l with
   | nil => intro o c s _ ho h; exact ho s h
   | cons x r ih =>
     intro o c s hl ho h
     rw [List.foldl_cons] at h
     refine ih _ c s (fun y hy => hl y (by simp [hy])) ?_ h
     intro t ht
     split at ht
     · injection ht with ht; rw [← ht]; exact hl x (by simp)
     · exact ho t ht
 intro c s hs
 exact key l none c s h (by simp) hs
theorem HistOK.num {C : List Cx} (h : HistOK C) {i : Nat} : numBad C i = false := by
 unfold numBad
 cases hx : C[i]? with
 | none => rfl
 | some x =>
   simp only
   cases hl : lastOf (C.take i) x.cl with
   | none => rfl
   | some s =>
     simp only
     have := lastOf_le (l := C.take i) (k := i) (fun y hy => by
       obtain ⟨j, hj⟩ := List.getElem?_of_mem hy
       have hji : j < i := by have := (List.getElem?_eq_some_iff.1 hj).1; rw [List.length_take] at this; omega
       rw [take_get hji] at hj
       have := (h j y hj).1; omega) hl
     have := (h i x hx).1
     simp; omega
theorem HistOK.place {C : List Cx} (h : HistOK C) {i : Nat} {x : Cx} (hx : C[i]? = some x) : placeOf C x.nm = some i := by
 refine firstR_some (p := fun c => c.nm == x.nm) hx (by simp) (fun j hj y hy => ?_)
 have h1 := (h j y hy).1
 have h2 := (h i x hx).1
 rw [beq_eq_false_iff_ne]
 intro e
 have := congrArg Prod.snd e
 simp only [Cx.nm] at this
 omega
structure TellsOf (y x : Cx) (j : Nat) : Prop where
 nm : x.nm = y.nm
 r : x.r = y.r
 same : sameC y x = true
 given : x.given = y.given
 fr : x.fr ≤ (j : Int)
 to_ : (j : Int) < x.to_
theorem holds_law {C R : List Cx} (hC : HistOK C) (hR : ∀ j x, R[j]? = some x → ∃ y, C[j]? = some y ∧ TellsOf y x j) : verdict C R = none := by
 rw [verdict_none]
 refine ⟨fun i hi => ?_, fun i hi => hC.num, fun x hx => ?_, fun x hx => ?_⟩
 · exact (hC i _ (List.getElem?_eq_getElem hi)).2.1
 · obtain ⟨j, hj⟩ := List.getElem?_of_mem hx
   obtain ⟨y, hy, t⟩ := hR j x hj
   have hm : meets C x = true := by
     unfold meets
     rw [t.nm, hC.place hy]
     simp only
     rw [hy]
     simp only [Bool.and_eq_true, decide_eq_true_eq]
     exact ⟨t.fr, t.to_, t.r.symm, t.same⟩
   unfold repA
   rw [hm]; simp
 · obtain ⟨j, hj⟩ := List.getElem?_of_mem hx
   obtain ⟨y, hy, t⟩ := hR j x hj
   unfold repB
   rw [t.given, (hC j y hy).2.2.1]; rfl
theorem bad_law {C R : List Cx} (hC : HistOK C) {k : Nat} {x : Cx} (hx : C[k]? = some x) : verdict (C.set k { x with p := x.p + 1 }) R = some (1, k) := by
 have hk := (List.getElem?_eq_some_iff.1 hx).1
 have hlow : ∀ i, i < k → ansBad (C.set k { x with p := x.p + 1 }) i = false := fun i hi => by
   have h1 := (hC i _ (List.getElem?_eq_getElem (by omega))).2.1
   rw [← h1]
   unfold ansBad
   rw [List.getElem?_set_ne (by omega), List.take_set_of_le (by omega)]
 have hat : ansBad (C.set k { x with p := x.p + 1 }) k = true := by
   have h1 := (hC k x hx).2.1
   rw [ansBad_at hx] at h1
   have hg : (C.set k { x with p := x.p + 1 })[k]? = some { x with p := x.p + 1 } := by rw [List.getElem?_set_self hk]
   unfold ansBad
   rw [hg, List.take_set_of_le (Nat.le_refl _)]
   unfold graphTo at h1
   have h2 : x.ansIs (doG (runG [] ((C.take k).map Cx.r)) x.r).2 = true := by simpa using h1
   unfold Cx.ansIs at h2
   have h3 := (of_decide_eq_true h2).2.1
   show (!Cx.ansIs _ _) = true
   rw [Bool.not_eq_true']
   unfold Cx.ansIs
   refine decide_eq_false (fun h => ?_)
   have h4 := h.2.1
   simp only at h4
   omega
 unfold verdict
 rw [firstI_some (by rw [List.length_set]; exact hk) hlow hat]
 rfl
end Go.Proofs.YtpigipgoopeeoaaGreatDoor
