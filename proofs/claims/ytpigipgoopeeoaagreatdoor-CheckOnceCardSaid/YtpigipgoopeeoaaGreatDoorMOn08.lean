import Derived.Test.YtpigipgoopeeoaaGreatDoorMOn07
set_option linter.unusedVariables false
set_option linter.unusedSimpArgs false
namespace Go.Proofs.YtpigipgoopeeoaaGreatDoor
open Go.RowKit
theorem RdS.box1 {w w' : World} {g : Nat} {u : Value} {t : TypeId} {size n : Nat} {v : Value} {xs : List Value} (hg : w.heap[g]? = some (.cells #[u] t (0, 0))) (h : RdS w size v n xs) (h2 : 2 ≤ size) (m : Mod (fun k => k = g) w w') : RdS w' size v n xs := by
 refine ⟨h.len, h.shape, fun a c e j u' hu => ?_⟩
 obtain ⟨b, off, ea, hb, hc⟩ := h.cell a c e j u' hu
 refine ⟨b, off, ea, Nat.lt_of_lt_of_le hb m.size, m.cellS hc (fun hbg => ?_)⟩
 have hbg : b = g := hbg
 have hj : j < n * size := by rw [← h.len]; exact (List.getElem?_eq_some_iff.1 hu).1
 have hn : 1 ≤ n := by
   rcases Nat.eq_zero_or_pos n with rfl | h0
   · omega
   · exact h0
 have h1 : 1 < xs.length := by
   rw [h.len]
   have := Nat.mul_le_mul hn h2
   omega
 obtain ⟨b1, off1, ea1, _, hc1⟩ := h.cell a c e 1 _ (List.getElem?_eq_getElem h1)
 rw [ea] at ea1
 injection ea1 with e1; injection e1 with e1 e2
 subst e1 e2 hbg
 rw [cell_of_row hg] at hc1
 simp at hc1
theorem VRd.box1 {w w' : World} {g : Nat} {u : Value} {t : TypeId} {vp vh : Value} {x : Vtx} (hg : w.heap[g]? = some (.cells #[u] t (0, 0))) (h : VRd w vp vh x) (m : Mod (fun k => k = g) w w') : VRd w' vp vh x :=
 ⟨h.fits, h.props.box1 hg (by decide) m, h.halves.box1 hg (by decide) m⟩
theorem LRd.box1 {w w' : World} {g : Nat} {u : Value} {t : TypeId} {v : Value} {l : List Vs} (hg : w.heap[g]? = some (.cells #[u] t (0, 0))) (h : LRd w v l) (m : Mod (fun k => k = g) w w') : LRd w' v l :=
 ⟨h.row.box1 hg (by decide) m, fun s hs => (h.each s hs).box1 hg m⟩
theorem GrAt.put {w : World} {g : Nat} {u v : Value} {ls : List Vs} (hg : w.heap[g]? = some (.cells #[u] 28 (0, 0))) (hl : LRd w v ls) :
   GrAt (w.setCell ⟨g, 0, none⟩ v) g v ls ∧ Mod (fun k => k = g) w (w.setCell ⟨g, 0, none⟩ v) := by
 have m : Mod (fun k => k = g) w (w.setCell ⟨g, 0, none⟩ v) := (Mod.refl (fun k => k = g) w).setCell (p := ⟨g, 0, none⟩) (fun _ => rfl) v
 exact ⟨⟨by simpa using row_setCell hg 0 v, hl.box1 hg m⟩, m⟩
structure NSeg (w : World) (t : TypeId) (size : Nat) (v : Value) (n : Nat) (xs : List Value) (wx : World) : Prop where
 seg : Seg wx t size v n xs
 own : ∀ b, v.ownBlock = some b → w.heap.size ≤ b
 mod : Mod (fun _ => False) w wx
theorem NSeg.start {t : TypeId} {size : Nat} {w wx : World} (m : Mod (fun _ => False) w wx) : NSeg w t size (.slice none 0 0) 0 [] wx := ⟨Seg.nil _ _ _, fun b hb => by simp [Value.ownBlock] at hb, m⟩
theorem NSeg.keep {w wx wy : World} {t : TypeId} {size n : Nat} {v : Value} {xs : List Value} (h : NSeg w t size v n xs wx) (m : Mod (fun _ => False) wx wy) : NSeg w t size v n xs wy :=
 ⟨h.seg.mod m (fun _ _ f => f), h.own, h.mod.trans m⟩
theorem NSeg.snoc {w wx w3 : World} {t : TypeId} {size n m : Nat} {v v3 : Value} {xs ys : List Value} (h : NSeg w t size v n xs wx) (hs : Seg w3 t size v3 (n + m) (xs ++ ys)) (hg : wx.grownBy w3 v.ownBlock) (ho : v3.ownBlock = v.ownBlock ∨ v3.ownBlock = some wx.heap.size) :
   NSeg w t size v3 (n + m) (xs ++ ys) w3 := by
 refine ⟨hs, fun b hb => ?_, h.mod.grown hg (fun b hb hlt => by have := h.own b hb; omega)⟩
 rcases ho with e | e
 · exact h.own b (e ▸ hb)
 · have := h.mod.size
   rw [e] at hb; simp at hb; omega
theorem grown_heap {wx w3 : World} {r : Option Nat} (hg : wx.grownBy w3 r) {k : Nat} {o : Obj} (h : wx.heap[k]? = some o) (hne : ∀ b, r = some b → b ≠ k) : w3.heap[k]? = some o :=
 ((hg.block k (lt_of_block h) (fun e => hne k e.symm rfl))).trans h
abbrev keyS (s : Vs) : Nat := s.x.id
structure LayAt (w : World) (l : List Vs) (s : Vs) (k : Nat) (v : Value) (d : Bool) (wx : World) : Prop where
 flag : (layT keyS s (!s.x.there) (l.take k)).2 = d
 seg : NSeg w 104 4 v (layT keyS s (!s.x.there) (l.take k)).1.length (vcells (layT keyS s (!s.x.there) (l.take k)).1) wx
theorem layG_sub {α : Type} {key : α → Nat} {x : α} : ∀ {t : List α} {d : Bool} {y : α}, y ∈ layG key x d t → y = x ∨ y ∈ t
 | [], d, y, h => by
   unfold layG at h
   split at h
   · cases h
   · rw [List.mem_singleton] at h; exact .inl h
 | z :: r, d, y, h => by
   unfold layG at h
   simp only [List.mem_append] at h
   rcases h with (h | h) | h
   · split at h
     · rw [List.mem_singleton] at h; exact .inl h
     · cases h
   · split at h
     · cases h
     · rw [List.mem_singleton] at h; exact .inr (by simp [h])
   · rcases layG_sub h with h | h
     · exact .inl h
     · exact .inr (by simp [h])
theorem layG_length {α : Type} {key : α → Nat} {x : α} : ∀ {t : List α} {d : Bool}, (layG key x d t).length ≤ t.length + 1 := by
 intro t d
 have h := layT_length key x d t
 rw [← layT_end key x d t]
 split
 · rename_i h2; rw [if_pos h2] at h; omega
 · rename_i h2; rw [if_neg h2] at h; simp only [List.length_append, List.length_singleton]; omega
set_option maxRecDepth 100000 in
set_option maxHeartbeats 4000000 in
theorem lay_any (g : Nat) (v : Value) (l : List Vs) (s : Vs) (w : World) (hg : GrAt w g v l) (hs : VRd w s.vp s.vh s.x) (hn : l.length ≤ 1000) :
   Calls Tryz.prog 50 #[.pointer (some ⟨g, 0, none⟩), vtxV s.x s.vp s.vh] w fun e w' => e = .returned (.tuple #[]) ∧ Mod (fun k => k = g) w w' ∧ ∃ v', GrAt w' g v' (layG keyS s (!s.x.there) l) := by
 have HV := Lib.hid hg.lst
 have HG := Lib.hid hg.box
 have HVS := Lib.hid hs
 obtain ⟨s, hse⟩ : ∃ s', s' = s := ⟨_, rfl⟩
 subst hse
 obtain ⟨i0, hi, hz0, hz1, hz2⟩ := info_parts infoVtx
 have HI : Hid (Tryz.prog.info? 104 = some i0 ∧ i0.zero = some (.agg #[.int .u32 0, .bool false, .slice none 0 0, .slice none 0 0]) ∧ i0.size = 4 ∧ i0.bytes = 56) := ⟨hi, hz0, hz1, hz2⟩
 clear hi hz0 hz1 hz2
 obtain ⟨a, c, rfl, hc1, hc2, -⟩ := hg.lst.row.shape
 have g0 := cell_of_row hg.box 0
 have gf := free_of_row hg.box 0
 simp at g0
 have zg := lt_of_block hg.box
 obtain ⟨n, hnl⟩ : ∃ n, n = l.length := ⟨_, rfl⟩
 have HN := Lib.hid hnl
 rw [← hnl] at HV HG hc1 g0 hn
 clear hnl hg
 obtain ⟨⟨id, there, ps, hh⟩, vp, vh⟩ := s
 obtain ⟨ap, cp, hvp, -⟩ := hs.props.shape
 obtain ⟨ah, ch, hvh, -⟩ := hs.halves.shape
 simp only at hvp hvh
 subst hvp hvh
 clear hs
 simp only [vtxV] at *
 generalize hpl : ps.length = np at *
 generalize hhl : hh.length = nh at *
 obtain ⟨sV, hsV⟩ : ∃ sV : Vs, sV = ⟨⟨id, there, ps, hh⟩, .slice ap np cp, .slice ah nh ch⟩ := ⟨_, rfl⟩
 have HSV := Lib.hid hsV
 rw [← hsV]
 have HTH : Hid (sV.x.there = there ∧ keyS sV = id ∧ sV.cells = [.int .u32 (id : Int), .bool there, .slice ap np cp, .slice ah nh ch]) := Lib.hid (by rw [hsV]; exact ⟨rfl, rfl, rfl⟩)
 clear hsV hpl hhl
 have HB : Hid (LayAt (w.alloc (.cells #[.int .u32 (id : Int), .bool there, .slice ap np cp, .slice ah nh ch] 104)) l sV 0 (.slice none 0 0) (!there) (w.alloc (.cells #[.int .u32 (id : Int), .bool there, .slice ap np cp, .slice ah nh ch] 104))) := Lib.hid ⟨by simp [layT, HTH.out.1], NSeg.start (Mod.refl _ _)⟩
 obtain ⟨w0, hw0⟩ : ∃ w0, w0 = w.alloc (.cells #[.int .u32 (id : Int), .bool there, .slice ap np cp, .slice ah nh ch] 104) := ⟨_, rfl⟩
 have HW0 : Hid (Mod (fun _ => False) w w0 ∧ w0.heap[w.heap.size]? = some (.cells #[.int .u32 (id : Int), .bool there, .slice ap np cp, .slice ah nh ch] 104 (0, 0))) := Lib.hid (by rw [hw0]; exact ⟨(Mod.refl _ _).alloc _, heap_alloc_new' _ _⟩)
 rw [← hw0] at HB
 have HW1 := Lib.hid hw0
 clear hw0
 go_enter Tryz.func50, Tryz.ntmps50
 go_wp2
 go_loopw [16, 4, 5] (fun i o d wr => ∃ (k : Nat) (b : Bool), i = .int .i64 k ∧ k ≤ n ∧ d = .bool b ∧ LayAt w0 l sV k o b wr) (fun i _ _ _ => n - (intOf i).toNat)
 case atStart => exact ⟨0, _, rfl, Nat.zero_le _, rfl, HW1.out ▸ HB.out⟩
 case round =>
   obtain ⟨k, d, rfl, hk, rfl, hla⟩ := hrel
   have HLA := Lib.hid hla
   clear hla HB
   have HM : Hid (Mod (fun _ => False) w wr) := Lib.hid (HW0.out.1.trans HLA.out.seg.mod)
   have hbox := HLA.out.seg.mod.heap HW0.out.2 (fun f => f)
   have b0 := cell_of_row hbox 0
   have b1 := cell_of_row hbox 1
   have b2 := cell_of_row hbox 2
   have b3 := cell_of_row hbox 3
   have zb := lt_of_block hbox
   simp at b0 b1 b2 b3
   have hgr := HM.out.heap HG.out (fun f => f)
   have g0 := cell_of_row hgr 0
   have gf := free_of_row hgr 0
   simp at g0
   clear hbox hgr
   obtain ⟨os, hos⟩ : ∃ os, os = (layT keyS sV (!sV.x.there) (l.take k)).1 := ⟨_, rfl⟩
   have HOS : Hid (layT keyS sV (!sV.x.there) (l.take k) = (os, d)) := Lib.hid (by rw [hos, ← HLA.out.flag])
   have HLE : Hid (os.length ≤ 1001) := Lib.hid (by
     have := layT_length keyS sV (!sV.x.there) (l.take k)
     rw [List.length_take] at this
     rw [hos]
     have := HN.out
     omega)
   have HSG : Hid (NSeg w0 104 4 u4 os.length (vcells os) wr) := Lib.hid (by have h := HLA.out.seg; rwa [← hos] at h)
   clear hos HLA
   obtain ⟨ao, co, hvv⟩ : ∃ ao co, u4 = .slice ao os.length co := by
     obtain ⟨a, c, e, _⟩ := HSG.out.seg.rdS.shape
     exact ⟨_, _, e⟩
   subst hvv
   obtain ⟨no, hno⟩ : ∃ no, no = os.length := ⟨_, rfl⟩
   rw [← hno] at HLE HSG
   have HNO := Lib.hid hno
   rw [← hno]
   clear hno
   have HSS := Lib.hid (fun (w1 : World) (n0 : Nat) (h : w1.heap.size = n0) => src_cells (w := w1) h (size := 4) 104 #[.int .u32 (id : Int), .bool there, .slice ap np cp, .slice ah nh ch] rfl (by simp [Value.oneCell']))
   by_cases hkn : k < n
   · obtain ⟨y, hy⟩ : ∃ x, l[k]? = some x := ⟨_, List.getElem?_eq_getElem (by rw [← HN.out]; exact hkn)⟩
     obtain ⟨bl, offl, e0, hbl, r0, r1, r2, r3⟩ := HV.out.ent hy rfl
     have r0 := HM.out.cell r0
     have r1 := HM.out.cell r1
     have r2 := HM.out.cell r2
     have r3 := HM.out.cell r3
     have zbl : bl < wr.heap.size := Nat.lt_of_lt_of_le hbl HM.out.size
     have HTK : Hid (layT keyS sV (!sV.x.there) (l.take (k + 1)) = layS keyS sV (os, d) y) := Lib.hid (by rw [take_snoc hy, layT_snoc, HOS.out])
     have HVY := Lib.hid (HV.out.at hy)
     clear hy hbl
     subst e0
     obtain ⟨⟨id', there', xs, ys⟩, vp', vh'⟩ := y
     obtain ⟨ap', cp', hvp', -⟩ := HVY.out.props.shape
     obtain ⟨ah', ch', hvh', -⟩ := HVY.out.halves.shape
     simp only at hvp' hvh' r0 r1 r2 r3
     subst hvp' hvh'
     generalize hpl' : xs.length = np' at *
     generalize hhl' : ys.length = nh' at *
     clear HVY hpl' hhl'
     obtain ⟨yV, hyV⟩ : ∃ yV : Vs, yV = ⟨⟨id', there', xs, ys⟩, .slice ap' np' cp', .slice ah' nh' ch'⟩ := ⟨_, rfl⟩
     rw [← hyV] at HTK
     have HYV : Hid (keyS yV = id' ∧ yV.cells = [.int .u32 (id' : Int), .bool there', .slice ap' np' cp', .slice ah' nh' ch']) := Lib.hid (by rw [hyV]; exact ⟨rfl, rfl⟩)
     clear hyV
     have HSY := Lib.hid (fun (w1 : World) (n0 : Nat) (h : w1.heap.size = n0) => src_cells (w := w1) h (size := 4) 104 #[.int .u32 (id' : Int), .bool there', .slice ap' np' cp', .slice ah' nh' ch'] rfl (by simp [Value.oneCell']))
     obtain ⟨wa, hwa⟩ : ∃ wa, wa = wr.alloc (.cells #[.int .u32 (id' : Int), .bool there', .slice ap' np' cp', .slice ah' nh' ch'] 104) := ⟨_, rfl⟩
     have HWA := Lib.hid hwa
     have HSGA : Hid (NSeg w0 104 4 (.slice ao no co) no (vcells os) wa) := Lib.hid (HSG.out.keep (by rw [hwa]; exact (Mod.refl _ _).alloc _))
     clear hwa
     by_cases hput : d = false ∧ id < id'
     · obtain ⟨rfl, hlt⟩ := hput
       have hlt' : (id : Int) < (id' : Int) := by omega
       have hne' : (id' : Int) ≠ (id : Int) := by omega
       have HSG1 : Hid (NSeg w0 104 4 (.slice ao no co) no (vcells os) (wa.alloc (.cells #[.int .u32 (id : Int), .bool there, .slice ap np cp, .slice ah nh ch] 104))) := Lib.hid (HSGA.out.keep ((Mod.refl _ _).alloc _))
       have HRES : Hid (layT keyS sV (!sV.x.there) (l.take (k + 1)) = (os ++ [sV] ++ [yV], true)) := Lib.hid (by
         rw [HTK.out]; unfold layS; rw [HYV.out.1, HTH.out.2.1]
         have : ¬ id' = id := by omega
         simp [hlt, this])
       have HS1 := Lib.hid (HSS.out wa (wr.heap.size + 1) (by rw [HWA.out]; simp))
       have HEL : Hid ((wa.alloc (.cells #[.int .u32 (id : Int), .bool there, .slice ap np cp, .slice ah nh ch] 104)).heap[wr.heap.size]? = some (.cells #[.int .u32 (id' : Int), .bool there', .slice ap' np' cp', .slice ah' nh' ch'] 104 (0, 0))) := Lib.hid (by rw [HWA.out]; exact heap_alloc_old (heap_alloc_new' _ _))
       have HLT : Hid (∀ b, Value.ownBlock (.slice ao no co) = some b → b ≠ wr.heap.size) := Lib.hid (fun b hb => Nat.ne_of_lt (HSG.out.seg.lt b hb))
       rw [HWA.out] at HSG1 HS1 HEL
       go_wp2_with (first
         | (at_builtin; refine wpList_append_seg rfl (.tmp 29) (.tmp 31) 26 rfl i0 _ 4 56 Tryz.underlying26 HI.out.1 HI.out.2.1 HI.out.2.2.1 HI.out.2.2.2 rfl (by decide) rfl HSG1.out.seg _ 1 _ rfl HS1.out (by have := HLE.out; unfold maxLen; omega) (by have := HLE.out; omega) ?_; intro v3 w3 hs3 hg3 ho3; have H3 := Lib.hid (HSG1.out.snoc hs3 hg3 ho3); have hb3 := H3.out.mod.heap HW0.out.2 (fun f => f); have p0 := cell_of_row hb3 0; have p1 := cell_of_row hb3 1; have p2 := cell_of_row hb3 2; have p3 := cell_of_row hb3 3; have he3 := grown_heap hg3 HEL.out HLT.out; have q0 := cell_of_row he3 0; have q1 := cell_of_row he3 1; have q2 := cell_of_row he3 2; have q3 := cell_of_row he3 3; simp at p0 p1 p2 p3 q0 q1 q2 q3; have z3 := lt_of_block hb3; have y3 := lt_of_block he3; clear hb3 he3; (obtain ⟨a3, c3, rfl⟩ : ∃ a c, v3 = .slice a (no + 1) c := (by obtain ⟨a, c, e, _⟩ := hs3.rdS.shape; exact ⟨_, _, e⟩)); have H3A := Lib.hid (H3.out.keep ((Mod.refl (fun _ => False) w3).alloc (.cells #[.int .u32 (id' : Int), .bool there', .slice ap' np' cp', .slice ah' nh' ch'] 104))); clear hs3 hg3 ho3)
         | (at_builtin; refine wpList_append_seg rfl (.tmp 38) (.tmp 40) 26 rfl i0 _ 4 56 Tryz.underlying26 HI.out.1 HI.out.2.1 HI.out.2.2.1 HI.out.2.2.2 rfl (by decide) rfl H3A.out.seg _ 1 _ rfl (HSY.out w3 _ rfl) (by have := HLE.out; unfold maxLen; omega) (by have := HLE.out; omega) ?_; intro v4 w4 hs4 hg4 ho4; have H4 := Lib.hid (H3A.out.snoc hs4 hg4 ho4); (obtain ⟨a4, c4, n4, rfl⟩ : ∃ a c n, v4 = .slice a n c := (by obtain ⟨a, c, e, _⟩ := hs4.shape; exact ⟨_, _, _, e⟩)); clear hs4 hg4 ho4))
       go_roundw
       case rel => exact ⟨k + 1, true, by go_num, by omega, rfl, ⟨by rw [HRES.out], by
         have h := H4.out
         have e : vcells (os ++ [sV] ++ [yV]) = vcells os ++ #[.int .u32 (id : Int), .bool there, .slice ap np cp, .slice ah nh ch].toList ++ #[.int .u32 (id' : Int), .bool there', .slice ap' np' cp', .slice ah' nh' ch'].toList := by rw [vcells_snoc, vcells_snoc, HTH.out.2.2, HYV.out.2]
         rw [HRES.out]; show NSeg _ _ _ _ (os ++ [sV] ++ [yV]).length (vcells (os ++ [sV] ++ [yV])) _
         rw [e, List.length_append, List.length_append, ← HNO.out]; exact h⟩⟩
       case measure => simp [intOf]; omega
     · have hd : ∀ b, d = b → (!b && decide (id < id')) = false := by
         intro b hb; subst hb
         cases d with
         | true => rfl
         | false =>
           have : ¬ id < id' := fun h => hput ⟨rfl, h⟩
           simp [this]
       by_cases hsame : id' = id
       · have hsame' : ((id' : Int) != (id : Int)) = false := by simp [hsame]
         have HRES : Hid (layT keyS sV (!sV.x.there) (l.take (k + 1)) = (os, d)) := Lib.hid (by
           rw [HTK.out]; unfold layS; rw [HYV.out.1, HTH.out.2.1]
           have : ¬ id < id' := by omega
           simp [hsame])
         have hnl : ¬ (id : Int) < (id' : Int) := by omega
         clear hd hput
         subst hsame
         cases d
         all_goals
           go_wp2
           go_roundw
           case rel => exact ⟨k + 1, _, by go_num, by omega, rfl, ⟨by rw [HRES.out], by rw [HRES.out]; show NSeg _ _ _ _ os.length (vcells os) _; rw [← HNO.out]; exact HWA.out ▸ HSGA.out⟩⟩
           case measure => simp [intOf]; omega
       · have hne' : (id' : Int) ≠ (id : Int) := by omega
         have HRES : Hid (layT keyS sV (!sV.x.there) (l.take (k + 1)) = (os ++ [yV], d)) := Lib.hid (by
           rw [HTK.out]; unfold layS; rw [HYV.out.1, HTH.out.2.1]
           have h1 := hd d rfl
           have h2 : (d || decide (id < id')) = d := by
             cases d with
             | true => rfl
             | false => simpa using h1
           simp only at h1 h2 ⊢
           rw [h1, h2, if_neg hsame]; simp)
         have HSG1 : Hid (NSeg w0 104 4 (.slice ao no co) no (vcells os) (wa.alloc (.cells #[.int .u32 (id' : Int), .bool there', .slice ap' np' cp', .slice ah' nh' ch'] 104))) := Lib.hid (HSGA.out.keep ((Mod.refl _ _).alloc _))
         have HS1 := Lib.hid (HSY.out wa (wr.heap.size + 1) (by rw [HWA.out]; simp))
         rw [HWA.out] at HSG1 HS1
         have HE : Hid (vcells (os ++ [yV]) = vcells os ++ #[.int .u32 (id' : Int), .bool there', .slice ap' np' cp', .slice ah' nh' ch'].toList) := Lib.hid (by rw [vcells_snoc, HYV.out.2])
         have hnl : d = false → ¬ (id : Int) < (id' : Int) := fun e h => hput ⟨e, by omega⟩
         clear hd hput hsame
         cases d with
         | true =>
           clear hnl
           go_wp2_with (at_builtin; refine wpList_append_seg rfl (.tmp 38) (.tmp 40) 26 rfl i0 _ 4 56 Tryz.underlying26 HI.out.1 HI.out.2.1 HI.out.2.2.1 HI.out.2.2.2 rfl (by decide) rfl HSG1.out.seg _ 1 _ rfl HS1.out (by have := HLE.out; unfold maxLen; omega) (by have := HLE.out; omega) ?_; intro v4 w4 hs4 hg4 ho4; have H4 := Lib.hid (HSG1.out.snoc hs4 hg4 ho4); (obtain ⟨a4, c4, n4, rfl⟩ : ∃ a c n, v4 = .slice a n c := (by obtain ⟨a, c, e, _⟩ := hs4.shape; exact ⟨_, _, _, e⟩)); clear hs4 hg4 ho4)
           go_roundw
           case rel => exact ⟨k + 1, true, by go_num, by omega, rfl, ⟨by rw [HRES.out], by rw [HRES.out]; show NSeg _ _ _ _ (os ++ [yV]).length (vcells (os ++ [yV])) _; rw [HE.out, List.length_append, ← HNO.out]; exact H4.out⟩⟩
           case measure => simp [intOf]; omega
         | false =>
           have hnl := hnl rfl
           go_wp2_with (at_builtin; refine wpList_append_seg rfl (.tmp 38) (.tmp 40) 26 rfl i0 _ 4 56 Tryz.underlying26 HI.out.1 HI.out.2.1 HI.out.2.2.1 HI.out.2.2.2 rfl (by decide) rfl HSG1.out.seg _ 1 _ rfl HS1.out (by have := HLE.out; unfold maxLen; omega) (by have := HLE.out; omega) ?_; intro v4 w4 hs4 hg4 ho4; have H4 := Lib.hid (HSG1.out.snoc hs4 hg4 ho4); (obtain ⟨a4, c4, n4, rfl⟩ : ∃ a c n, v4 = .slice a n c := (by obtain ⟨a, c, e, _⟩ := hs4.shape; exact ⟨_, _, _, e⟩)); clear hs4 hg4 ho4)
           go_roundw
           case rel => exact ⟨k + 1, false, by go_num, by omega, rfl, ⟨by rw [HRES.out], by rw [HRES.out]; show NSeg _ _ _ _ (os ++ [yV]).length (vcells (os ++ [yV])) _; rw [HE.out, List.length_append, ← HNO.out]; exact H4.out⟩⟩
           case measure => simp [intOf]; omega
   · have HEND : Hid (layG keyS sV (!sV.x.there) l = if d then os else os ++ [sV]) := Lib.hid (by
       have h := layT_end keyS sV (!sV.x.there) l
       have ht : l.take k = l := List.take_of_length_le (by have := HN.out; omega)
       have h2 := HOS.out
       rw [ht] at h2
       rw [h2] at h
       exact h.symm)
     have HEACH : Hid (∀ s ∈ layG keyS sV (!sV.x.there) l, VRd w s.vp s.vh s.x) := Lib.hid (fun s hs => by
       rcases layG_sub hs with rfl | hs
       · rw [HSV.out]; exact HVS.out
       · exact HV.out.each s hs)
     cases d with
     | true =>
       have HE : Hid (layG keyS sV (!sV.x.there) l = os) := Lib.hid (by have := HEND.out; simpa using this)
       have HF := Lib.hid (GrAt.put (ls := os) (v := .slice ao no co) (HM.out.heap HG.out (fun f => f)) ⟨HNO.out ▸ HSG.out.seg.rdS, fun s hs => (HEACH.out s (HE.out ▸ hs)).keep HM.out⟩)
       go_wp2
       go_end0
       exact ⟨rfl, (HM.out.mono (fun _ _ f => f.elim)).trans HF.out.2, _, HTH.out.1 ▸ HE.out ▸ HF.out.1⟩
     | false =>
       have HE : Hid (layG keyS sV (!sV.x.there) l = os ++ [sV]) := Lib.hid (by have := HEND.out; simpa using this)
       have HSG1 := Lib.hid (HSG.out.keep ((Mod.refl (fun _ => False) wr).alloc (.cells #[.int .u32 (id : Int), .bool there, .slice ap np cp, .slice ah nh ch] 104)))
       go_wp2_with (at_builtin; refine wpList_append_seg rfl (.tmp 45) (.tmp 47) 26 rfl i0 _ 4 56 Tryz.underlying26 HI.out.1 HI.out.2.1 HI.out.2.2.1 HI.out.2.2.2 rfl (by decide) rfl HSG1.out.seg _ 1 _ rfl (HSS.out wr _ rfl) (by have := HLE.out; unfold maxLen; omega) (by have := HLE.out; omega) ?_; intro v4 w4 hs4 hg4 ho4; have H4 := Lib.hid (HSG1.out.snoc hs4 hg4 ho4); (obtain ⟨a4, c4, n4, rfl⟩ : ∃ a c n, v4 = .slice a n c := (by obtain ⟨a, c, e, _⟩ := hs4.shape; exact ⟨_, _, _, e⟩)); clear hs4 hg4 ho4; have HM4 := Lib.hid (HW0.out.1.trans H4.out.mod); have HF := Lib.hid (GrAt.put (ls := os ++ [sV]) (v := .slice a4 n4 c4) (HM4.out.heap HG.out (fun f => f)) ⟨(by have h := H4.out.seg.rdS; rw [vcells_snoc, HTH.out.2.2, List.length_append, ← HNO.out]; exact h), fun s hs => (HEACH.out s (HE.out ▸ hs)).keep HM4.out⟩); have hgr4 := HM4.out.heap HG.out (fun f => f); have g4 := cell_of_row hgr4 0; have gf4 := free_of_row hgr4 0; have zg4 := lt_of_block hgr4; clear hgr4)
       go_end0
       exact ⟨rfl, (HM4.out.mono (fun _ _ f => f.elim)).trans HF.out.2, _, HTH.out.1 ▸ HE.out ▸ HF.out.1⟩
end Go.Proofs.YtpigipgoopeeoaaGreatDoor
