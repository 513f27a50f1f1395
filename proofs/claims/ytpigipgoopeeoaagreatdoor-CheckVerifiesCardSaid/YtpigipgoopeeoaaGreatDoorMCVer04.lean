import Derived.Test.YtpigipgoopeeoaaGreatDoorMCBegCVer00
import Derived.Test.YtpigipgoopeeoaaGreatDoorMCVer03
set_option linter.unusedVariables false
set_option linter.unusedSimpArgs false
namespace Go.Proofs.YtpigipgoopeeoaaGreatDoor
open Go.RowKit Go.ChangeShapes Go.WideShapes Go.ChangeAt
theorem do_any (g : Nat) (gv : Value) (l : List Vs) (r : Rqt) (vo : Value) (w : World) (hg : GrAt w g gv l) (hgood : Good (l.map Vs.x)) (ho : ORd w vo r.ops) :
   Calls Tryz.prog 9 #[.pointer (some ⟨g, 0, none⟩), rqV r vo] w (DoP g l r w) := by
 by_cases hc : checkR r = 0
 · by_cases hk : r.kind = 1
   · exact do_1 g gv l r vo w hg hgood ho hc hk
   · cases hf : findV (l.map Vs.x) r.v with
     | none => exact do_none g gv l r vo w hg ho hc hk hf
     | some x =>
       by_cases h2 : r.kind = 2
       · exact do_2 g gv l r vo w hg hgood.tame ho hc h2 x hf
       · have h3 : r.kind = 3 := by
           unfold checkR at hc
           split at hc
           · cases hc
           · omega
         exact do_3 g gv l r vo w hg ho hc h3 x hf
 · refine (do_bad (.pointer (some ⟨g, 0, none⟩)) r vo w ho hc).mono ?_
   rintro e w' ⟨rfl, m⟩
   exact DoP.stay hg m (by unfold doG; rw [if_pos hc]) (RdS.none _ _)
section
variable {H : Type} {enc : TypeId × Value → H} {W : World} {base : Nat} {v : Value} {d : DataW H} {p : List MemPlace}
end
theorem VOwn.off_seg {w : World} {s : Vs} (h : VOwn w s) {v : Value} {size n : Nat} {xs : List Value} (hs : Seg w 104 size v n xs) : VOff (fun k => v.ownBlock = some k) s := by
 have key : ∀ b, v.ownBlock = some b → ∃ cur, w.heap[b]? = some (.cells cur 104 (0, 0)) := by
   intro b hb
   rcases hs.2.2 with ⟨rfl, _⟩ | ⟨g, off, cap, cur, rfl, hg, _⟩
   · simp [Value.ownBlock] at hb
   · simp [Value.ownBlock] at hb; subst hb; exact ⟨_, hg⟩
 have two : ∀ {t : TypeId} {u : Value} {m : Nat} {ys : List Value}, Seg w t 4 u m ys → t ≠ 104 → ∀ b, u.ownBlock = some b → ¬ v.ownBlock = some b := by
   intro t u m ys hu ht b hb e
   obtain ⟨cur, hc⟩ := key b e
   rcases hu.2.2 with ⟨rfl, _⟩ | ⟨g, off, cap, cur2, rfl, hg, _⟩
   · simp [Value.ownBlock] at hb
   · simp [Value.ownBlock] at hb
     subst hb
     rw [hc] at hg
     injection hg with hg
     injection hg with _ h2
     exact ht h2.symm
 exact ⟨two h.props (by decide), two h.halves (by decide)⟩
theorem own_snoc {w wy : World} {v v' : Value} {l : List Vs} {s : Vs} (h : LOwn w v l) (hv : VOwn w s) (hs : Seg wy 104 4 v' (l.length + 1) (vcells l ++ s.cells)) (hg : w.grownBy wy v.ownBlock) : LOwn wy v' (l ++ [s]) := by
 have hm := mod_grown hg
 have he : ∀ t ∈ l ++ [s], VOwn wy t := fun t ht => by
   rcases List.mem_append.1 ht with ht | ht
   · exact (h.each t ht).mod hm (h.apart t ht)
   · rw [List.mem_singleton] at ht; subst ht; exact hv.mod hm (hv.off_seg h.row)
 have hs' : Seg wy 104 4 v' (l ++ [s]).length (vcells (l ++ [s])) := by rw [vcells_snoc, List.length_append]; exact hs
 exact ⟨hs', he, fun t ht => (he t ht).off_seg hs'⟩
open Go.RowKit Go.Maps
theorem slist_any (g bm : Nat) (L : Gr) (w wr : World) (h : GSt w g bm L wr) :
   Calls Tryz.prog 42 #[.pointer (some ⟨g, 0, none⟩)] wr fun e w' => ∃ v, e = .returned v ∧ SegN wr w' v (L.map Vtx.id) := by
 obtain ⟨ns, hp, hx, hlo⟩ := h.ex
 have hL : Good (ns.map Node.x) := by rw [hx]; exact h.good
 have := list_any g bm ns wr hp hL
 rwa [hx] at this
theorem svertex_any (g bm : Nat) (L : Gr) (id : Nat) (w wr : World) (h : GSt w g bm L wr) (hid : id < 4294967296) :
   Calls Tryz.prog 43 #[.pointer (some ⟨g, 0, none⟩), .int .u32 (id : Int)] wr (Twins wr (tellV L id)) := by
 obtain ⟨ns, hp, hx, hlo⟩ := h.ex
 have hL : Good (ns.map Node.x) := by rw [hx]; exact h.good
 have := gvertex_any g bm ns id wr hp hL hid
 rwa [hx] at this
theorem tellV_mem {L : Gr} (hr : Rising Vtx.id L) {x : Vtx} (hx : x ∈ L) : tellV L x.id = x := by
 unfold tellV
 rw [(findV_iff hr).2 ⟨hx, rfl⟩]
 rfl
open Go.RowKit Go.Maps
def numBad2 (l : List Cx) (i : Nat) : Bool := match l[i]? with
 | none => false
 | some x => (l.take i).any fun y => decide (y.cl = x.cl) && decide (x.sq ≤ y.sq)
theorem firstI_eq_some {n k : Nat} {p : Nat → Bool} : firstI n p = some k ↔ k < n ∧ p k = true ∧ ∀ j, j < k → p j = false := by
 unfold firstI
 rw [List.find?_range_eq_some]
 constructor
 · rintro ⟨h1, h2, h3⟩
   exact ⟨List.mem_range.1 h2, h1, fun j hj => by simpa using h3 j hj⟩
 · rintro ⟨h1, h2, h3⟩
   exact ⟨h2, List.mem_range.2 h1, fun j hj => by simpa using h3 j hj⟩
theorem firstI_congr {n : Nat} {p q : Nat → Bool} (h : ∀ i, i < n → (∀ j, j < i → p j = false) → p i = q i) : firstI n p = firstI n q := by
 have all : ∀ i, i ≤ n → (∀ j, j < i → p j = false) → ∀ j, j < i → q j = false := fun i hi hp j hj => by
   rw [← h j (by omega) (fun t ht => hp t (by omega))]; exact hp j hj
 cases hp : firstI n p with
 | none =>
   rw [firstI_eq_none] at hp
   exact (firstI_eq_none.2 (all n (Nat.le_refl _) hp)).symm
 | some k =>
   rw [firstI_eq_some] at hp
   obtain ⟨h1, h2, h3⟩ := hp
   exact (firstI_eq_some.2 ⟨h1, by rw [← h k h1 h3]; exact h2, all k (by omega) h3⟩).symm
theorem last_greatest (l : List Cx) : ∀ k, k ≤ l.length → (∀ j, j < k → numBad l j = false) → ∀ c, match lastOf (l.take k) c with
   | none => ∀ y ∈ l.take k, y.cl ≠ c
   | some s => (∃ y ∈ l.take k, y.cl = c ∧ y.sq = s) ∧ ∀ y ∈ l.take k, y.cl = c → y.sq ≤ s := by
 intro k
 induction k with
 | zero => intro _ _ c; simp [lastOf]
 | succ k ih =>
   intro hk hb c
   have ih := ih (by omega) (fun j hj => hb j (by omega))
   obtain ⟨x, hx⟩ : ∃ x, l[k]? = some x := ⟨_, List.getElem?_eq_getElem (by omega)⟩
   have ht : l.take (k + 1) = l.take k ++ [x] := by
     obtain ⟨h1, h2⟩ := List.getElem?_eq_some_iff.1 hx
     rw [List.take_succ_eq_append_getElem h1, h2]
   rw [ht, lastOf_snoc]
   have hbk := hb k (by omega)
   unfold numBad at hbk
   rw [hx] at hbk
   simp only at hbk
   by_cases hc : x.cl = c
   · subst hc
     rw [if_pos rfl]
     have ih := ih x.cl
     cases hl : lastOf (l.take k) x.cl with
     | none =>
       rw [hl] at ih
       refine ⟨⟨x, by simp, rfl, rfl⟩, fun y hy e => ?_⟩
       rcases List.mem_append.1 hy with hy | hy
       · exact absurd e (ih y hy)
       · rw [List.mem_singleton] at hy; subst hy; exact Nat.le_refl _
     | some s =>
       rw [hl] at ih hbk
       simp only [decide_eq_false_iff_not] at hbk
       refine ⟨⟨x, by simp, rfl, rfl⟩, fun y hy e => ?_⟩
       rcases List.mem_append.1 hy with hy | hy
       · have := ih.2 y hy e; omega
       · rw [List.mem_singleton] at hy; subst hy; exact Nat.le_refl _
   · rw [if_neg hc]
     have ih := ih c
     cases hl : lastOf (l.take k) c with
     | none =>
       rw [hl] at ih
       intro y hy
       rcases List.mem_append.1 hy with hy | hy
       · exact ih y hy
       · rw [List.mem_singleton] at hy; subst hy; exact hc
     | some s =>
       rw [hl] at ih
       obtain ⟨⟨y, hy, h1⟩, h2⟩ := ih
       refine ⟨⟨y, by simp [hy], h1⟩, fun y hy e => ?_⟩
       rcases List.mem_append.1 hy with hy | hy
       · exact h2 y hy e
       · rw [List.mem_singleton] at hy; subst hy; exact absurd e hc
theorem numBad_eq (l : List Cx) (k : Nat) (hk : k < l.length) (hb : ∀ j, j < k → numBad l j = false) : numBad l k = numBad2 l k := by
 obtain ⟨x, hx⟩ : ∃ x, l[k]? = some x := ⟨_, List.getElem?_eq_getElem hk⟩
 have h := last_greatest l k (by omega) hb x.cl
 unfold numBad numBad2
 rw [hx]
 simp only
 cases hl : lastOf (l.take k) x.cl with
 | none =>
   rw [hl] at h
   simp only
   rw [eq_comm, List.any_eq_false]
   intro y hy
   simp [h y hy]
 | some s =>
   rw [hl] at h
   obtain ⟨⟨y, hy, h1, h2⟩, h3⟩ := h
   simp only
   rw [Bool.eq_iff_iff, List.any_eq_true]
   constructor
   · intro hs
     have hs : x.sq ≤ s := by simpa using hs
     exact ⟨y, hy, by simp [h1]; omega⟩
   · rintro ⟨z, hz, e⟩
     simp only [Bool.and_eq_true, decide_eq_true_eq] at e
     have := h3 z hz e.1
     simp; omega
theorem num_first (l : List Cx) : firstI l.length (numBad l) = firstI l.length (numBad2 l) := firstI_congr (fun i hi hb => numBad_eq l i hi hb)
open Go.RowKit Go.Maps
set_option maxRecDepth 100000 in
set_option maxHeartbeats 4000000 in
theorem find_any (v : Value) (l : List Cm) (c0 s0 : Nat) (w : World) (hv : CRd Cm.c11 11 w v l) :
   Calls Tryz.prog 39 #[v, .int .u8 (c0 : Int), .int .u32 (s0 : Int)] w fun e w' => e = .returned (.int .i64 (placeZ (placeOf (l.map Cm.x) (c0, s0)))) ∧ Mod (fun _ => False) w w' := by
 have HV := Lib.hid hv
 obtain ⟨a, c, rfl, hc1, hc2, -⟩ := hv.row.shape
 obtain ⟨m, hm⟩ : ∃ m, m = l.length := ⟨_, rfl⟩
 have HML := Lib.hid hm
 rw [← hm] at HV hc1 ⊢
 clear hv hm
 go_enter Tryz.func39, Tryz.ntmps39
 go_wp2
 go_loopw [11] (fun i wr => ∃ k : Nat, i = .int .i64 (k : Int) ∧ k ≤ m ∧ Mod (fun _ => False) w wr ∧ ∀ j, j < k → ∀ y, (l.map Cm.x)[j]? = some y → (y.nm == (c0, s0)) = false) (fun i _ => m - (intOf i).toNat)
 case atStart => exact ⟨0, rfl, Nat.zero_le _, Mod.refl _ _, fun j hj => by omega⟩
 case round =>
   obtain ⟨k, rfl, hk, hkp, hok⟩ := hrel
   have HK := Lib.hid hkp
   have HOK := Lib.hid hok
   clear hkp hok
   by_cases hkm : k < m
   · skip
     obtain ⟨x, hx⟩ : ∃ x, l[k]? = some x := ⟨_, List.getElem?_eq_getElem (by rw [← HML.out]; exact hkm)⟩
     obtain ⟨b, off, e1, hb, hcs⟩ := CRd.ent (cells := Cm.c11) (size := 11) (fun _ => rfl) (by decide) HV.out hx rfl
     obtain rfl := e1
     have hxx : (l.map Cm.x)[k]? = some x.x := by rw [List.getElem?_map, hx]; rfl
     have HXX := Lib.hid hxx
     have HRX := Lib.hid ((HV.out.at hx).keep HK.out)
     have hcs : ∀ j, j < 11 → ∀ u, x.c11[j]? = some u → wr.cell? ⟨b, off + (k * 11 + j), none⟩ = some u := fun j hj u hu => HK.out.cell ((hcs j hj).trans hu)
     obtain ⟨ao, co, hvo⟩ := HRX.out.vo_eq
     obtain ⟨av, cv, hvv⟩ := HRX.out.vv_eq
     obtain ⟨al, cl, hvl⟩ := HRX.out.vl_eq
     clear hx hxx
     obtain ⟨⟨xc, xq, ⟨kind, ops, rv, rk, rd⟩, ae, ap, vals, list, fr, to_⟩, vo, vv, vl⟩ := x
     simp only at hvo hvv hvl
     subst hvo hvv hvl
     obtain ⟨no, hno⟩ : ∃ n, n = ops.length := ⟨_, rfl⟩
     obtain ⟨nv, hnv⟩ : ∃ n, n = vals.length := ⟨_, rfl⟩
     obtain ⟨nl, hnl⟩ : ∃ n, n = list.length := ⟨_, rfl⟩
     simp only [Cm.c11, ← hno, ← hnv, ← hnl] at hcs
     have p0 := hcs 0 (by omega) _ rfl
     have p1 := hcs 1 (by omega) _ rfl
     have p2 := hcs 2 (by omega) _ rfl
     have p3 := hcs 3 (by omega) _ rfl
     have p4 := hcs 4 (by omega) _ rfl
     have p5 := hcs 5 (by omega) _ rfl
     have p6 := hcs 6 (by omega) _ rfl
     have p7 := hcs 7 (by omega) _ rfl
     have p8 := hcs 8 (by omega) _ rfl
     have p9 := hcs 9 (by omega) _ rfl
     have p10 := hcs 10 (by omega) _ rfl
     simp only [← Nat.add_assoc, Nat.add_zero] at p0 p1 p2 p3 p4 p5 p6 p7 p8 p9 p10
     have zb := Nat.lt_of_lt_of_le hb HK.out.size
     clear hcs hb
     clear hno hnv hnl HRX
     have HBW : Hid (Mod (fun _ => False) w (wr.alloc (.cells #[.int .u8 (xc : Int), .int .u32 (xq : Int), .int .u8 (kind : Int), .slice ao no co, .int .u32 (rv : Int), .int .i64 rk, .int .i64 rd, .int .i64 ae, .int .i64 ap, .slice av nv cv, .slice al nl cl] 42))) := Lib.hid (HK.out.alloc _)
     have HNX : Hid ((xc, xq) ≠ (c0, s0) → ∀ j, j < k + 1 → ∀ y, (l.map Cm.x)[j]? = some y → (y.nm == (c0, s0)) = false) := Lib.hid (fun hne j hj y hy => by
       by_cases e : j < k
       · exact HOK.out j e y hy
       · obtain rfl : j = k := by omega
         rw [HXX.out] at hy
         injection hy with hy
         rw [← hy]
         exact beq_eq_false_iff_ne.2 hne)
     by_cases h1 : xc = c0
     · by_cases h2 : xq = s0
       · have HFI : Hid (placeOf (l.map Cm.x) (c0, s0) = some k) := Lib.hid (firstR_some (p := fun c => c.nm == (c0, s0)) HXX.out (by rw [← h1, ← h2]; exact beq_self_eq_true _) HOK.out)
         subst h1 h2
         go_wp2
         go_ret
         exact ⟨by rw [HFI.out]; rfl, HBW.out⟩
       · have HN := Lib.hid (HNX.out (fun e => h2 (congrArg Prod.snd e)))
         have g1 : ((xq : Int) == (s0 : Int)) = false := by simp; omega
         have g2 : ¬ (xq : Int) = (s0 : Int) := by omega
         subst h1
         go_wp2
         go_roundw
         case rel => exact ⟨k + 1, by go_num, by omega, HBW.out, HN.out⟩
         case measure => simp [intOf]; omega
     · have HN := Lib.hid (HNX.out (fun e => h1 (congrArg Prod.fst e)))
       have g1 : ((xc : Int) == (c0 : Int)) = false := by simp; omega
       have g2 : ¬ (xc : Int) = (c0 : Int) := by omega
       go_wp2
       go_roundw
       case rel => exact ⟨k + 1, by go_num, by omega, HBW.out, HN.out⟩
       case measure => simp [intOf]; omega
   · have HFI : Hid (placeOf (l.map Cm.x) (c0, s0) = none) := Lib.hid (firstR_none (p := fun c => c.nm == (c0, s0)) (fun j y hy => HOK.out j (by have := (List.getElem?_eq_some_iff.1 hy).1; rw [List.length_map, ← HML.out] at this; omega) y hy))
     go_wp2
     go_ret
     exact ⟨by rw [HFI.out]; rfl, HK.out⟩
open Go.RowKit
structure BoAt (w : World) (o o' : Array Value) (wr : World) : Prop where
 mod : Mod (fun _ => False) w wr
 one : wr.heap[w.heap.size]? = some (.cells o 104 (0, 0))
 two : wr.heap[w.heap.size + 1]? = some (.cells o' 104 (0, 0))
theorem BoAt.more {w wx wy : World} {o o' : Array Value} (h : BoAt w o o' wx) (m : Mod (fun _ => False) wx wy) : BoAt w o o' wy := ⟨h.mod.trans m, m.heap h.one (fun f => f), m.heap h.two (fun f => f)⟩
theorem BoAt.begin (w : World) (o o' : Array Value) : BoAt w o o' ((w.alloc (.cells o 104)).alloc (.cells o' 104)) :=
 ⟨((Mod.refl _ w).alloc _).alloc _, heap_alloc_old (heap_alloc_new' w _), by have := heap_alloc_new' (w.alloc (.cells o 104)) (.cells o' 104); simpa using this⟩
set_option maxRecDepth 100000 in
set_option maxHeartbeats 2000000 in
theorem vsame_yes (x : Vtx) (vp vh vp' vh' : Value) (w : World) (h1 : VRd w vp vh x) (h2 : VRd w vp' vh' x) :
   Calls Tryz.prog 44 #[vtxV x vp vh, vtxV x vp' vh'] w fun e w' => e = .returned (.bool true) ∧ Mod (fun _ => False) w w' := by
 obtain ⟨id, there, ps, hs⟩ := x
 have HP := Lib.hid h1.props
 have HH := Lib.hid h1.halves
 have HP2 := Lib.hid h2.props
 have HH2 := Lib.hid h2.halves
 simp only at HP HH HP2 HH2
 obtain ⟨ap, cp, rfl, hcp, hcp2, -⟩ := h1.props.shape
 obtain ⟨ah, ch, rfl, hch, hch2, -⟩ := h1.halves.shape
 obtain ⟨ap', cp', rfl, hcp', hcp2', -⟩ := h2.props.shape
 obtain ⟨ah', ch', rfl, hch', hch2', -⟩ := h2.halves.shape
 clear h1 h2
 simp only [vtxV] at *
 obtain ⟨np, hnp⟩ : ∃ n, n = ps.length := ⟨_, rfl⟩
 have HNP := Lib.hid hnp
 rw [← hnp] at HP HP2 hcp hcp' ⊢
 obtain ⟨nh, hnh⟩ : ∃ n, n = hs.length := ⟨_, rfl⟩
 have HNH := Lib.hid hnh
 rw [← hnh] at HH HH2 hch hch' ⊢
 clear hnp hnh
 have HB := Lib.hid (BoAt.begin w #[.int .u32 (id : Int), .bool there, .slice ap np cp, .slice ah nh ch] #[.int .u32 (id : Int), .bool there, .slice ap' np cp', .slice ah' nh ch'])
 go_enter Tryz.func44, Tryz.ntmps44
 go_wp2
 go_loopw [40] (fun i wr => ∃ k : Nat, i = .int .i64 k ∧ k ≤ np ∧ BoAt w #[.int .u32 (id : Int), .bool there, .slice ap np cp, .slice ah nh ch] #[.int .u32 (id : Int), .bool there, .slice ap' np cp', .slice ah' nh ch'] wr) (fun i _ => np - (intOf i).toNat)
 case atStart => exact ⟨0, rfl, Nat.zero_le _, HB.out⟩
 case round =>
   obtain ⟨k, rfl, hk, hm⟩ := hrel
   have HM := Lib.hid hm
   clear hm HB
   by_cases hkn : k < np
   · obtain ⟨x, hx⟩ : ∃ x, ps[k]? = some x := ⟨_, List.getElem?_eq_getElem (by rw [← HNP.out]; exact hkn)⟩
     obtain ⟨b, off, e1, hb, p0, p1, p2, p3⟩ := HP.out.ent2 hx rfl
     obtain ⟨b', off', e2, hb', q0, q1, q2, q3⟩ := HP2.out.ent2 hx rfl
     have d0 := cell_of_row HM.out.one 2
     have d1 := cell_of_row HM.out.two 2
     simp at d0 d1
     subst e1 e2
     have p0 : ∀ x : MW wr, x.w.cell? _ = some _ := fun x => x.cell (HM.out.mod.cell p0)
     have p1 : ∀ x : MW wr, x.w.cell? _ = some _ := fun x => x.cell (HM.out.mod.cell p1)
     have p2 : ∀ x : MW wr, x.w.cell? _ = some _ := fun x => x.cell (HM.out.mod.cell p2)
     have p3 : ∀ x : MW wr, x.w.cell? _ = some _ := fun x => x.cell (HM.out.mod.cell p3)
     have q0 : ∀ x : MW wr, x.w.cell? _ = some _ := fun x => x.cell (HM.out.mod.cell q0)
     have q1 : ∀ x : MW wr, x.w.cell? _ = some _ := fun x => x.cell (HM.out.mod.cell q1)
     have q2 : ∀ x : MW wr, x.w.cell? _ = some _ := fun x => x.cell (HM.out.mod.cell q2)
     have q3 : ∀ x : MW wr, x.w.cell? _ = some _ := fun x => x.cell (HM.out.mod.cell q3)
     have d0 : ∀ x : MW wr, x.w.cell? _ = some _ := fun x => x.cell d0
     have d1 : ∀ x : MW wr, x.w.cell? _ = some _ := fun x => x.cell d1
     clear hx hb hb'
     obtain ⟨key, ⟨vk, vn, vs⟩⟩ := x
     simp only at p0 p1 p2 p3 q0 q1 q2 q3
     go_wp2_with fail
     refine wp_region_quietM (by kernel_rfl) (by kernel_rfl) ?_
     repeat (go_big_quiet_step (fail))
     refine wpQuiet_nil ?_
     intro w3 hm3
     have M3 := Lib.hid (HM.out.more (MW.mod_of hm3))
     clear hm3 p0 p1 p2 p3 q0 q1 q2 q3 d0 d1
     go_wp2
     go_roundw
     case rel => exact ⟨k + 1, by go_num, by omega, M3.out⟩
     case measure => simp [intOf]; omega
   · have HB := Lib.hid HM.out
     have g3 := cell_of_row HM.out.one 3
     have g4 := cell_of_row HM.out.two 3
     simp at g3 g4
     go_wp2
     go_loopw [58] (fun i wr => ∃ k : Nat, i = .int .i64 k ∧ k ≤ nh ∧ BoAt w #[.int .u32 (id : Int), .bool there, .slice ap np cp, .slice ah nh ch] #[.int .u32 (id : Int), .bool there, .slice ap' np cp', .slice ah' nh ch'] wr) (fun i _ => nh - (intOf i).toNat)
     case atStart => exact ⟨0, rfl, Nat.zero_le _, HB.out⟩
     case round =>
       obtain ⟨k, rfl, hk, hm⟩ := hrel
       have HM := Lib.hid hm
       clear hm HB
       by_cases hkn : k < nh
       · obtain ⟨x, hx⟩ : ∃ x, hs[k]? = some x := ⟨_, List.getElem?_eq_getElem (by rw [← HNH.out]; exact hkn)⟩
         obtain ⟨b, off, e1, hb, p0, p1, p2, p3⟩ := HH.out.ent2 hx rfl
         obtain ⟨b', off', e2, hb', q0, q1, q2, q3⟩ := HH2.out.ent2 hx rfl
         have d0 := cell_of_row HM.out.one 3
         have d1 := cell_of_row HM.out.two 3
         simp at d0 d1
         subst e1 e2
         have p0 : ∀ x : MW wr, x.w.cell? _ = some _ := fun x => x.cell (HM.out.mod.cell p0)
         have p1 : ∀ x : MW wr, x.w.cell? _ = some _ := fun x => x.cell (HM.out.mod.cell p1)
         have p2 : ∀ x : MW wr, x.w.cell? _ = some _ := fun x => x.cell (HM.out.mod.cell p2)
         have p3 : ∀ x : MW wr, x.w.cell? _ = some _ := fun x => x.cell (HM.out.mod.cell p3)
         have q0 : ∀ x : MW wr, x.w.cell? _ = some _ := fun x => x.cell (HM.out.mod.cell q0)
         have q1 : ∀ x : MW wr, x.w.cell? _ = some _ := fun x => x.cell (HM.out.mod.cell q1)
         have q2 : ∀ x : MW wr, x.w.cell? _ = some _ := fun x => x.cell (HM.out.mod.cell q2)
         have q3 : ∀ x : MW wr, x.w.cell? _ = some _ := fun x => x.cell (HM.out.mod.cell q3)
         have d0 : ∀ x : MW wr, x.w.cell? _ = some _ := fun x => x.cell d0
         have d1 : ∀ x : MW wr, x.w.cell? _ = some _ := fun x => x.cell d1
         clear hx hb hb'
         obtain ⟨key, ⟨vk, vn, vs⟩⟩ := x
         simp only at p0 p1 p2 p3 q0 q1 q2 q3
         go_wp2_with fail
         refine wp_region_quietM (by kernel_rfl) (by kernel_rfl) ?_
         repeat (go_big_quiet_step (fail))
         refine wpQuiet_nil ?_
         intro w3 hm3
         have M3 := Lib.hid (HM.out.more (MW.mod_of hm3))
         clear hm3 p0 p1 p2 p3 q0 q1 q2 q3 d0 d1
         go_wp2
         go_roundw
         case rel => exact ⟨k + 1, by go_num, by omega, M3.out⟩
         case measure => simp [intOf]; omega
       · have HB := Lib.hid HM.out
         have g3 := cell_of_row HM.out.one 3
         have g4 := cell_of_row HM.out.two 3
         simp at g3 g4
         go_wp2
         go_ret
         exact ⟨rfl, HM.out.mod⟩
open Go.RowKit Go.Maps
structure BfAt (w2 : World) (v : Value) (bl : List Vs) (wr : World) : Prop where
 mod : Mod (fun _ => False) w2 wr
 la : LOwn wr v bl
 oa : ∀ b, v.ownBlock = some b → w2.heap.size ≤ b
theorem BfAt.start (w2 : World) : BfAt w2 (.slice none 0 0) [] w2 := ⟨Mod.refl _ _, LOwn.nil _, fun b hb => by simp [Value.ownBlock] at hb⟩
theorem BfAt.keep {w2 wr wx : World} {v : Value} {bl : List Vs} (h : BfAt w2 v bl wr) (m : Mod (fun _ => False) wr wx) : BfAt w2 v bl wx := ⟨h.mod.trans m, h.la.mod m ⟨fun _ _ f => f, fun _ _ => ⟨fun _ _ f => f, fun _ _ f => f⟩⟩, h.oa⟩
theorem bf_snoc {w wy : World} {v v' : Value} {l : List Vs} {s : Vs} (h : LOwn w v l) (hv : VOwn w s) (hs : Seg wy 104 4 v' (l.length + 1) (vcells l ++ s.cells)) (hg : w.grownBy wy v.ownBlock) : LOwn wy v' (l ++ [s]) := own_snoc h hv hs hg
theorem BfAt.next {w2 w5 w3 : World} {v v3 : Value} {bl : List Vs} {s : Vs} (h : BfAt w2 v bl w5) (hv : VOwn w5 s) (hs : Seg w3 104 4 v3 (bl.length + 1) (vcells bl ++ s.cells)) (hg : w5.grownBy w3 v.ownBlock) (ho : v3.ownBlock = v.ownBlock ∨ v3.ownBlock = some w5.heap.size) : BfAt w2 v3 (bl ++ [s]) w3 := by
 refine ⟨h.mod.grown hg (fun b hb hlt => by have := h.oa b hb; omega), bf_snoc h.la hv hs hg, fun b hb => ?_⟩
 rcases ho with e | e
 · exact h.oa b (e ▸ hb)
 · rw [e] at hb; injection hb with hb
   have := h.mod.size; omega
section
open Go.ChangeShapes Go.WideShapes Go.ChangeAt
variable {H : Type} {enc : TypeId × Value → H} {W : World} {base : Nat} {v : Value} {d : DataW H} {p : List MemPlace}
end
open Go.RowKit
def DoS (g : Nat) (l : List Vs) (r : Rqt) (w : World) (e : Ending) (w' : World) : Prop := DoP g l r w e w' ∧ Mod (fun _ => False) w w'
theorem DoS.stay {g : Nat} {v vl : Value} {l : List Vs} {r : Rqt} {w w' : World} {z i : Nat} {li : List Nat} (hg : GrAt w g v l) (m : Mod (fun _ => False) w w') (he : doG (l.map Vs.x) r = (l.map Vs.x, ⟨z, i, [], li⟩)) (hl : RdS w' 1 vl li.length (li.map (keyV .u32))) :
   DoS g l r w (.returned (.agg #[.int .i64 (z : Int), .int .i64 (i : Int), .slice none 0 0, vl])) w' := ⟨DoP.stay hg m he hl, m⟩
set_option maxRecDepth 100000 in
set_option maxHeartbeats 4000000 in
theorem do_noneS (g : Nat) (gv : Value) (l : List Vs) (r : Rqt) (vo : Value) (w : World) (hg : GrAt w g gv l) (ho : ORd w vo r.ops) (hc : checkR r = 0) (hk : r.kind ≠ 1) (hf : findV (l.map Vs.x) r.v = none) :
   Calls Tryz.prog 9 #[.pointer (some ⟨g, 0, none⟩), rqV r vo] w (DoS g l r w) := by
 obtain ⟨kind, ops, v, k, d⟩ := r
 have HE : Hid (doG (l.map Vs.x) ⟨kind, ops, v, k, d⟩ = (l.map Vs.x, ⟨6, 0, [], []⟩)) := Lib.hid (by unfold doG; rw [if_neg (by simpa using hc), if_neg hk, hf]; rfl)
 have HO := Lib.hid ho
 have HG := Lib.hid hg
 obtain ⟨a, c, rfl, -⟩ := ho.row.shape
 obtain ⟨n, hn⟩ : ∃ n, n = ops.length := ⟨_, rfl⟩
 simp only [rqV, ← hn] at HO hk hf ⊢
 have HS := Lib.hid (DoAt.start w (.int .u8 (kind : Int)) (.slice a n c) (.int .u32 (v : Int)) (.int .i64 k) (.int .i64 d))
 have HCK := Lib.hid (dcheck_any ⟨kind, ops, v, k, d⟩ (.slice a n c) _ (HO.out.keep HS.out.mod))
 simp only [rqV] at HCK
 rw [hc] at HCK
 have HAT : Hid (∀ w', Mod (fun _ => False) w w' → Calls Tryz.prog 23 #[.pointer (some ⟨g, 0, none⟩), .int .u32 (v : Int)] w' fun e w'' => e = .returned (.int .i64 (-1)) ∧ Mod (fun _ => False) w' w'') := Lib.hid (fun w' m => by
   have h := at_any g gv l v w' (HG.out.keep m)
   rw [find_none hf] at h
   exact h)
 have hk1 : ((kind : Int) != 1) = true := by simp; omega
 clear hn ho hc hg hf hk
 go_enter Tryz.func9, Tryz.ntmps9
 go_wp2_with (first
   | (go_at_call 23; refine (HAT.out _ HD1.out.mod).mono ?_; (rintro e w2 ⟨rfl, hm2⟩); have HD2 := Lib.hid (HD1.out.next hm2 (fun _ f => f.elim)); replace r0 := hm2.cell r0; replace r1 := hm2.cell r1; replace r2 := hm2.cell r2; replace r3 := hm2.cell r3; obtain ⟨-, -, -, -, f0, f1, f2, f3, zr⟩ := HD2.out.retf; clear hm2)
   | (go_at_call 20; refine HCK.out.mono ?_; (rintro e w1 ⟨rfl, hm1⟩); have HD1 := Lib.hid (HS.out.next hm1 (fun _ f => f.elim)); obtain ⟨r0, r1, r2, r3, -⟩ := HD1.out.retf; obtain ⟨b0, b1, b2, b3, b4, zb⟩ := HD1.out.boxf; clear hm1))
 refine bodyPost_ret (v := .agg #[.int .i64 6, .int .i64 0, .slice none 0 0, .slice none 0 0]) (by simp [results, Tryz.results9, go_sem, r0, r1, r2, r3]) rfl ?_
 exact DoS.stay HG.out (HD2.out.finish _ _ _ _).1 HE.out (RdS.none _ _)
set_option maxRecDepth 100000 in
set_option maxHeartbeats 4000000 in
theorem do_3S (g : Nat) (gv : Value) (l : List Vs) (r : Rqt) (vo : Value) (w : World) (hg : GrAt w g gv l) (ho : ORd w vo r.ops) (hc : checkR r = 0) (hk : r.kind = 3) (x : Vtx) (hf : findV (l.map Vs.x) r.v = some x) :
   Calls Tryz.prog 9 #[.pointer (some ⟨g, 0, none⟩), rqV r vo] w (DoS g l r w) := by
 obtain ⟨kind, ops, v, k, d⟩ := r
 simp only at hk hf
 subst hk
 have HE : Hid (doG (l.map Vs.x) ⟨3, ops, v, k, d⟩ = (l.map Vs.x, ⟨0, 0, [], []⟩)) := Lib.hid (by unfold doG; rw [if_neg (by simpa using hc), hf]; simp)
 have HO := Lib.hid ho
 have HG := Lib.hid hg
 obtain ⟨a, c, rfl, -⟩ := ho.row.shape
 obtain ⟨n, hn⟩ : ∃ n, n = ops.length := ⟨_, rfl⟩
 simp only [rqV, ← hn] at HO ⊢
 have HS := Lib.hid (DoAt.start w (.int .u8 3) (.slice a n c) (.int .u32 (v : Int)) (.int .i64 k) (.int .i64 d))
 have HCK := Lib.hid (dcheck_any ⟨3, ops, v, k, d⟩ (.slice a n c) _ (HO.out.keep HS.out.mod))
 simp only [rqV] at HCK
 rw [hc] at HCK
 obtain ⟨i, s, hi, -, -, -⟩ := find_some hf
 have HAT : Hid (∀ w', Mod (fun _ => False) w w' → Calls Tryz.prog 23 #[.pointer (some ⟨g, 0, none⟩), .int .u32 (v : Int)] w' fun e w'' => e = .returned (.int .i64 (i : Int)) ∧ Mod (fun _ => False) w' w'') := Lib.hid (fun w' m => by
   have h := at_any g gv l v w' (HG.out.keep m)
   rw [hi] at h
   exact h)
 clear hn ho hc hg hf hi
 go_enter Tryz.func9, Tryz.ntmps9
 go_wp2_with (first
   | (go_at_call 23; refine (HAT.out _ HD1.out.mod).mono ?_; (rintro e w2 ⟨rfl, hm2⟩); have HD2 := Lib.hid (HD1.out.next hm2 (fun _ f => f.elim)); replace r0 := hm2.cell r0; replace r1 := hm2.cell r1; replace r2 := hm2.cell r2; replace r3 := hm2.cell r3; replace b0 := hm2.cell b0; obtain ⟨-, -, -, -, f0, f1, f2, f3, zr⟩ := HD2.out.retf; clear hm2)
   | (go_at_call 20; refine HCK.out.mono ?_; (rintro e w1 ⟨rfl, hm1⟩); have HD1 := Lib.hid (HS.out.next hm1 (fun _ f => f.elim)); obtain ⟨r0, r1, r2, r3, -⟩ := HD1.out.retf; obtain ⟨b0, b1, b2, b3, b4, zb⟩ := HD1.out.boxf; clear hm1))
 refine bodyPost_ret (v := .agg #[.int .i64 0, .int .i64 0, .slice none 0 0, .slice none 0 0]) (by simp [results, Tryz.results9, go_sem, r0, r1, r2, r3]) rfl ?_
 exact DoS.stay HG.out (HD2.out.finish _ _ _ _).1 HE.out (RdS.none _ _)
set_option maxRecDepth 100000 in
set_option maxHeartbeats 4000000 in
theorem do_2S (g : Nat) (gv : Value) (l : List Vs) (r : Rqt) (vo : Value) (w : World) (hg : GrAt w g gv l) (ht : Tame l) (ho : ORd w vo r.ops) (hc : checkR r = 0) (hk : r.kind = 2) (x : Vtx) (hf : findV (l.map Vs.x) r.v = some x) :
   Calls Tryz.prog 9 #[.pointer (some ⟨g, 0, none⟩), rqV r vo] w (DoS g l r w) := by
 obtain ⟨kind, ops, v, k, d⟩ := r
 simp only at hk hf
 subst hk
 obtain ⟨K, rfl, hK⟩ : ∃ K : Nat, k = (K : Int) ∧ K ≤ 8 := by
   have h := hc
   rw [checkR_2] at h
   unfold checkO at h
   split at h
   · cases h
   · exact ⟨k.toNat, by omega, by omega⟩
 obtain ⟨i, s, hi, his, -, -⟩ := find_some hf
 have hil : i < l.length := (List.getElem?_eq_some_iff.1 his).1
 have HE : Hid (doG (l.map Vs.x) ⟨2, ops, v, (K : Int), d⟩ = (l.map Vs.x, ⟨0, 0, [], withU l v K⟩)) := Lib.hid (by
   unfold doG
   rw [if_neg (by simpa using hc), hf, withU_near ht.rise ⟨i, hi, hil⟩]
   simp)
 have HO := Lib.hid ho
 have HG := Lib.hid hg
 obtain ⟨a, c, rfl, -⟩ := ho.row.shape
 obtain ⟨n, hn⟩ : ∃ n, n = ops.length := ⟨_, rfl⟩
 simp only [rqV, ← hn] at HO ⊢
 have HS := Lib.hid (DoAt.start w (.int .u8 2) (.slice a n c) (.int .u32 (v : Int)) (.int .i64 (K : Int)) (.int .i64 d))
 have HCK := Lib.hid (dcheck_any ⟨2, ops, v, (K : Int), d⟩ (.slice a n c) _ (HO.out.keep HS.out.mod))
 simp only [rqV] at HCK
 rw [hc] at HCK
 have HAT : Hid (∀ w', Mod (fun _ => False) w w' → Calls Tryz.prog 23 #[.pointer (some ⟨g, 0, none⟩), .int .u32 (v : Int)] w' fun e w'' => e = .returned (.int .i64 (i : Int)) ∧ Mod (fun _ => False) w' w'') := Lib.hid (fun w' m => by
   have h := at_any g gv l v w' (HG.out.keep m)
   rw [hi] at h
   exact h)
 have HWI : Hid (∀ w', Mod (fun _ => False) w w' → Calls Tryz.prog 24 #[.pointer (some ⟨g, 0, none⟩), .int .u32 (v : Int), .int .i64 (K : Int)] w' fun e w'' => ∃ vo, e = .returned vo ∧ SegN w' w'' vo (withU l v K)) := Lib.hid (fun w' m => within_any g gv l v K w' (HG.out.keep m) ht.len hK ⟨i, hi, hil⟩)
 clear hn ho hc hg hf hi hK his hil ht
 go_enter Tryz.func9, Tryz.ntmps9
 go_wp2_with (first
   | (go_at_call 24; refine (HWI.out _ HD2.out.mod).mono ?_; (rintro e w3 ⟨vo, rfl, hs3⟩); have HS3 := Lib.hid hs3; have HD3 := Lib.hid (HD2.out.next hs3.mod (fun _ f => f.elim)); replace r0 := hs3.mod.cell r0; replace r1 := hs3.mod.cell r1; replace r2 := hs3.mod.cell r2; replace r3 := hs3.mod.cell r3; obtain ⟨-, -, -, -, f0, f1, f2, f3, zr⟩ := HD3.out.retf; (obtain ⟨a3, c3, n3, rfl⟩ : ∃ a c n, vo = .slice a n c := (by obtain ⟨a, c, e, _⟩ := hs3.seg.shape; exact ⟨_, _, _, e⟩)); clear hs3)
   | (go_at_call 23; refine (HAT.out _ HD1.out.mod).mono ?_; (rintro e w2 ⟨rfl, hm2⟩); have HD2 := Lib.hid (HD1.out.next hm2 (fun _ f => f.elim)); replace r0 := hm2.cell r0; replace r1 := hm2.cell r1; replace r2 := hm2.cell r2; replace r3 := hm2.cell r3; replace b0 := hm2.cell b0; replace b2 := hm2.cell b2; replace b3 := hm2.cell b3; clear hm2)
   | (go_at_call 20; refine HCK.out.mono ?_; (rintro e w1 ⟨rfl, hm1⟩); have HD1 := Lib.hid (HS.out.next hm1 (fun _ f => f.elim)); obtain ⟨r0, r1, r2, r3, -⟩ := HD1.out.retf; obtain ⟨b0, b1, b2, b3, b4, zb⟩ := HD1.out.boxf; clear hm1))
 refine bodyPost_ret (v := .agg #[.int .i64 0, .int .i64 0, .slice none 0 0, .slice a3 n3 c3]) (by simp [results, Tryz.results9, go_sem, r0, r1, r2, r3]) rfl ?_
 exact DoS.stay HG.out (HD3.out.finish _ _ _ _).1 HE.out ((HD3.out.list _ _ _ _ HS3.out.seg (by decide)).rdS)
theorem do_still (g : Nat) (gv : Value) (l : List Vs) (r : Rqt) (vo : Value) (w : World) (hg : GrAt w g gv l) (hgood : Good (l.map Vs.x)) (ho : ORd w vo r.ops) (hk : r.kind ≠ 1) :
   Calls Tryz.prog 9 #[.pointer (some ⟨g, 0, none⟩), rqV r vo] w (DoS g l r w) := by
 by_cases hc : checkR r = 0
 · cases hf : findV (l.map Vs.x) r.v with
   | none => exact do_noneS g gv l r vo w hg ho hc hk hf
   | some x =>
     by_cases h2 : r.kind = 2
     · exact do_2S g gv l r vo w hg hgood.tame ho hc h2 x hf
     · have h3 : r.kind = 3 := by
         unfold checkR at hc
         split at hc
         · cases hc
         · omega
       exact do_3S g gv l r vo w hg ho hc h3 x hf
 · refine (do_bad (.pointer (some ⟨g, 0, none⟩)) r vo w ho hc).mono ?_
   rintro e w' ⟨rfl, m⟩
   exact DoS.stay hg m (by unfold doG; rw [if_pos hc]) (RdS.none _ _)
open Go.RowKit Go.Maps
structure RDo (gr : Nat) (L : Gr) (r : Rqt) (vv vl : Value) (wB w4 : World) : Prop where
 mod : Mod (fun k => k = gr) wB w4
 rf : ∃ gv l, GrAt w4 gr gv l ∧ l.map Vs.x = (doG L r).1
 vals : RdS w4 3 vv (doG L r).2.vals.length (vvcells (doG L r).2.vals)
 list : RdS w4 1 vl (doG L r).2.list.length ((doG L r).2.list.map (keyV .u32))
 still : r.kind ≠ 1 → Mod (fun _ => False) wB w4
theorem rdo_any (gr : Nat) (L : Gr) (r : Rqt) (vo : Value) (w : World) (h : ∃ gv l, GrAt w gr gv l ∧ l.map Vs.x = L) (hL : Good L) (ho : ORd w vo r.ops) :
   Calls Tryz.prog 9 #[.pointer (some ⟨gr, 0, none⟩), rqV r vo] w fun e w' => ∃ vv vl, e = .returned (.agg #[.int .i64 ((doG L r).2.e : Nat), .int .i64 ((doG L r).2.at_ : Nat), vv, vl]) ∧ RDo gr L r vv vl w w' := by
 obtain ⟨gv, l, h1, h2⟩ := h
 subst h2
 by_cases hk : r.kind = 1
 · refine (do_any gr gv l r vo w h1 hL ho).mono ?_
   rintro e w' ⟨m, vv, vl, v', l', rfl, hg, hl, hv, hli⟩
   exact ⟨vv, vl, rfl, m, ⟨v', l', hg, hl⟩, hv, hli, fun c => absurd hk c⟩
 · refine (do_still gr gv l r vo w h1 hL ho hk).mono ?_
   rintro e w' ⟨⟨m, vv, vl, v', l', rfl, hg, hl, hv, hli⟩, hm⟩
   exact ⟨vv, vl, rfl, m, ⟨v', l', hg, hl⟩, hv, hli, fun _ => hm⟩
end Go.Proofs.YtpigipgoopeeoaaGreatDoor
