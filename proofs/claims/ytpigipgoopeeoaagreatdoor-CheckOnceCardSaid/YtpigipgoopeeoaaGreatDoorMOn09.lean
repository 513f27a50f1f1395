import Derived.Test.YtpigipgoopeeoaaGreatDoorMOn08
set_option linter.unusedVariables false
set_option linter.unusedSimpArgs false
namespace Go.Proofs.YtpigipgoopeeoaaGreatDoor
open Go.RowKit
structure SetAt (w w0 : World) (o : Array Value) (val : Val) : Prop where
 mod : Mod (fun _ => False) w w0
 size : w0.heap.size = w.heap.size + 3
 box : w0.heap[w.heap.size]? = some (.cells o 104 (0, 0))
 arg : w0.heap[w.heap.size + 1]? = some (.cells #[.int .u8 (val.k : Int), .int .i64 val.n, .string val.s] 77 (0, 0))
 ret : w0.heap[w.heap.size + 2]? = some (.cells #[.int .u32 0, .bool false, .slice none 0 0, .slice none 0 0] 104 (0, 0))
theorem SetAt.begin (w : World) (o : Array Value) (val : Val) : SetAt w (((w.alloc (.cells o 104)).alloc (.cells #[.int .u8 (val.k : Int), .int .i64 val.n, .string val.s] 77)).alloc (.cells #[.int .u32 0, .bool false, .slice none 0 0, .slice none 0 0] 104)) o val := by
 refine ⟨(((Mod.refl _ _).alloc _).alloc _).alloc _, by simp, heap_alloc_old (heap_alloc_old (heap_alloc_new' w _)), heap_alloc_old ?_, ?_⟩
 · have h := heap_alloc_new' (w.alloc (.cells o 104)) (.cells #[.int .u8 (val.k : Int), .int .i64 val.n, .string val.s] 77)
   simpa using h
 · have h := heap_alloc_new' ((w.alloc (.cells o 104)).alloc (.cells #[.int .u8 (val.k : Int), .int .i64 val.n, .string val.s] 77)) (.cells #[.int .u32 0, .bool false, .slice none 0 0, .slice none 0 0] 104)
   simpa using h
abbrev setEnd (wy : World) (n j : Nat) (u4 u0 u1 u2 u3 : Value) : World := ((((wy.setCell ⟨n, j, none⟩ u4).setCell ⟨n + 1 + 1, 0, none⟩ u0).setCell ⟨n + 1 + 1, 1, none⟩ u1).setCell ⟨n + 1 + 1, 2, none⟩ u2).setCell ⟨n + 1 + 1, 3, none⟩ u3
theorem SetAt.finish {w w0 wy : World} {o : Array Value} {val : Val} (h : SetAt w w0 o val) (hy : Mod (fun _ => False) w0 wy) (j : Nat) (u4 u0 u1 u2 u3 : Value) :
   Mod (fun _ => False) w (setEnd wy w.heap.size j u4 u0 u1 u2 u3) ∧ ∀ (t : TypeId) (v : Value) (n : Nat) (xs : List Value), NSeg w0 t 4 v n xs wy → Seg (setEnd wy w.heap.size j u4 u0 u1 u2 u3) t 4 v n xs := by
 have m4 : Mod (fun k => k = w.heap.size ∨ k = w.heap.size + 1 + 1) wy (setEnd wy w.heap.size j u4 u0 u1 u2 u3) :=
   (((((Mod.refl (fun k => k = w.heap.size ∨ k = w.heap.size + 1 + 1) wy).setCell (p := ⟨w.heap.size, j, none⟩) (fun _ => .inl rfl) u4).setCell (p := ⟨w.heap.size + 1 + 1, 0, none⟩) (fun _ => .inr rfl) u0).setCell (p := ⟨w.heap.size + 1 + 1, 1, none⟩) (fun _ => .inr rfl) u1).setCell (p := ⟨w.heap.size + 1 + 1, 2, none⟩) (fun _ => .inr rfl) u2).setCell (p := ⟨w.heap.size + 1 + 1, 3, none⟩) (fun _ => .inr rfl) u3
 refine ⟨(h.mod.trans hy).trans' m4 (fun i hi e => by rcases e with e | e <;> omega), fun t v n xs hs => hs.seg.mod m4 (fun b hb e => ?_)⟩
 have := hs.own b hb
 have := h.size
 rcases e with e | e <;> omega
theorem entsFit_lay {n : Nat} {x : Ent} {d : Bool} {l : List Ent} (hx : x.key < n ∧ x.val.Fits) (hl : ∀ p ∈ l, p.key < n ∧ p.val.Fits) : ∀ p ∈ layG Ent.key x d l, p.key < n ∧ p.val.Fits := fun p hp => by
 rcases layG_sub hp with rfl | hp
 · exact hx
 · exact hl p hp
set_option maxRecDepth 100000 in
set_option maxHeartbeats 4000000 in
theorem sethalf_any (x : Vtx) (vp vh : Value) (f : Nat) (val : Val) (there : Bool) (w : World) (hx : VRd w vp vh x) (hf : f < 4294967296) (hval : val.Fits) (hn : x.halves.length ≤ 1000) :
   Calls Tryz.prog 54 #[vtxV x vp vh, .int .u32 (f : Int), val.v , .bool there] w fun e w' => Mod (fun _ => False) w w' ∧ ∃ vo, e = .returned (vtxV (setH x f val there) vp vo) ∧ VRd w' vp vo (setH x f val there) := by
 obtain ⟨id, thr, ps, hs⟩ := x
 have HF := Lib.hid hx.fits
 have HP := Lib.hid hx.props
 have HH := Lib.hid hx.halves
 have HVF := Lib.hid hval
 obtain ⟨ap, cp, rfl, hcp1, hcp2, -⟩ := hx.props.shape
 obtain ⟨ah, ch, rfl, hch1, hch2, -⟩ := hx.halves.shape
 simp only at HF HP HH hn hcp1 hch1
 clear hx
 obtain ⟨i0, hi, hz0, hz1, hz2⟩ := info_parts infoHalf
 have HI : Hid (Tryz.prog.info? 112 = some i0 ∧ i0.zero = some (.agg #[.int .u32 0, .int .u8 0, .int .i64 0, zval]) ∧ i0.size = 4 ∧ i0.bytes = 40) := ⟨hi, hz0, hz1, hz2⟩
 clear hi hz0 hz1 hz2
 obtain ⟨n, hnl⟩ : ∃ n, n = hs.length := ⟨_, rfl⟩
 have HN := Lib.hid hnl
 obtain ⟨n2, hnl2⟩ : ∃ n2, n2 = ps.length := ⟨_, rfl⟩
 have HN2 := Lib.hid hnl2
 obtain ⟨vk, vn, vs⟩ := val
 simp only [vtxV, Val.v]
 rw [← hnl] at HH hn hch1 ⊢
 rw [← hnl2] at HP hcp1 ⊢
 clear hnl hnl2 hval
 obtain ⟨xE, hxE⟩ : ∃ xE : Ent, xE = ⟨f, ⟨vk, vn, vs⟩⟩ := ⟨_, rfl⟩
 have HXE : Hid (xE = ⟨f, ⟨vk, vn, vs⟩⟩ ∧ xE.key = f ∧ xE.cells .u32 = [.int .u32 (f : Int), .int .u8 (vk : Int), .int .i64 vn, .string vs]) := Lib.hid (by rw [hxE]; exact ⟨rfl, rfl, rfl⟩)
 clear hxE
 obtain ⟨d0, hd0⟩ : ∃ d0, d0 = !there := ⟨_, rfl⟩
 have HD0 := Lib.hid hd0
 clear hd0
 have HA0 := Lib.hid (SetAt.begin w #[.int .u32 (id : Int), .bool thr, .slice ap n2 cp, .slice ah n ch] ⟨vk, vn, vs⟩)
 obtain ⟨w0, hw0⟩ : ∃ w0, w0 = (((w.alloc (.cells #[.int .u32 (id : Int), .bool thr, .slice ap n2 cp, .slice ah n ch] 104)).alloc (.cells #[.int .u8 (vk : Int), .int .i64 vn, .string vs] 77)).alloc (.cells #[.int .u32 0, .bool false, .slice none 0 0, .slice none 0 0] 104)) := ⟨_, rfl⟩
 simp only at HA0
 rw [← hw0] at HA0
 have HW1 := Lib.hid hw0
 clear hw0
 go_enter Tryz.func54, Tryz.ntmps54
 go_wp2
 go_loopw [18, 9, 10] (fun i o d wr => ∃ (k : Nat) (b : Bool), i = .int .i64 k ∧ k ≤ n ∧ d = .bool b ∧ (layT Ent.key xE d0 (hs.take k)).2 = b ∧ NSeg w0 112 4 o (layT Ent.key xE d0 (hs.take k)).1.length (cellsOf .u32 (layT Ent.key xE d0 (hs.take k)).1) wr) (fun i _ _ _ => n - (intOf i).toNat)
 case atStart => exact ⟨0, d0, rfl, Nat.zero_le _, (by rw [HD0.out]), rfl, HW1.out ▸ NSeg.start (Mod.refl _ _)⟩
 case round =>
   obtain ⟨k, d, rfl, hk, rfl, hfl, hsg⟩ := hrel
   have HFL := Lib.hid hfl
   have HSG0 := Lib.hid hsg
   clear hfl hsg
   have HM0 : Hid (Mod (fun _ => False) w0 wr) := Lib.hid HSG0.out.mod
   have HM : Hid (Mod (fun _ => False) w wr) := Lib.hid (HA0.out.mod.trans HM0.out)
   have hbox := HM0.out.heap HA0.out.box (fun f => f)
   have harg := HM0.out.heap HA0.out.arg (fun f => f)
   have hret := HM0.out.heap HA0.out.ret (fun f => f)
   have b0 := cell_of_row hbox 0
   have b1 := cell_of_row hbox 1
   have b2 := cell_of_row hbox 2
   have b3 := cell_of_row hbox 3
   have fb := free_of_row hbox 3
   have a0 := cell_of_row harg 0
   have a1 := cell_of_row harg 1
   have a2 := cell_of_row harg 2
   have zb := lt_of_block hbox
   have za := lt_of_block harg
   simp at b0 b1 b2 b3 a0 a1 a2
   clear hbox harg
   obtain ⟨os, hos⟩ : ∃ os, os = (layT Ent.key xE d0 (hs.take k)).1 := ⟨_, rfl⟩
   have HOS : Hid (layT Ent.key xE d0 (hs.take k) = (os, d)) := Lib.hid (by rw [hos, ← HFL.out])
   have HLE : Hid (os.length ≤ 1001) := Lib.hid (by
     have := layT_length Ent.key xE d0 (hs.take k)
     rw [List.length_take] at this
     rw [hos]
     have := HN.out
     omega)
   have HSG : Hid (NSeg w0 112 4 u9 os.length (cellsOf .u32 os) wr) := Lib.hid (by have h := HSG0.out; rwa [← hos] at h)
   clear hos HSG0 HFL
   obtain ⟨ao, co, hvv⟩ : ∃ ao co, u9 = .slice ao os.length co := by
     obtain ⟨a, c, e, _⟩ := HSG.out.seg.rdS.shape
     exact ⟨_, _, e⟩
   subst hvv
   obtain ⟨no, hno⟩ : ∃ no, no = os.length := ⟨_, rfl⟩
   rw [← hno] at HLE HSG
   have HNO := Lib.hid hno
   rw [← hno]
   clear hno
   have HSS := Lib.hid (fun (w1 : World) (n0 : Nat) (h : w1.heap.size = n0) => src_cells (w := w1) h (size := 4) 112 #[.int .u32 (f : Int), .int .u8 (vk : Int), .int .i64 vn, .string vs] rfl (by simp [Value.oneCell']))
   by_cases hkn : k < n
   · clear hret
     obtain ⟨y, hy⟩ : ∃ x, hs[k]? = some x := ⟨_, List.getElem?_eq_getElem (by rw [← HN.out]; exact hkn)⟩
     obtain ⟨bl, offl, e0, hbl, r0, r1, r2, r3⟩ := HH.out.ent2 hy rfl
     have r0 := HM.out.cell r0
     have r1 := HM.out.cell r1
     have r2 := HM.out.cell r2
     have r3 := HM.out.cell r3
     have zbl : bl < wr.heap.size := Nat.lt_of_lt_of_le hbl HM.out.size
     have HTK : Hid (layT Ent.key xE d0 (hs.take (k + 1)) = layS Ent.key xE (os, d) y) := Lib.hid (by rw [take_snoc hy, layT_snoc, HOS.out])
     clear hy hbl
     subst e0
     obtain ⟨id', ⟨yk, yn, ysx⟩⟩ := y
     simp only at r0 r1 r2 r3
     obtain ⟨yV, hyV⟩ : ∃ yV : Ent, yV = ⟨id', ⟨yk, yn, ysx⟩⟩ := ⟨_, rfl⟩
     rw [← hyV] at HTK
     have HYV : Hid (yV.key = id' ∧ yV.cells .u32 = [.int .u32 (id' : Int), .int .u8 (yk : Int), .int .i64 yn, .string ysx]) := Lib.hid (by rw [hyV]; exact ⟨rfl, rfl⟩)
     clear hyV
     have HSY := Lib.hid (fun (w1 : World) (n0 : Nat) (h : w1.heap.size = n0) => src_cells (w := w1) h (size := 4) 112 #[.int .u32 (id' : Int), .int .u8 (yk : Int), .int .i64 yn, .string ysx] rfl (by simp [Value.oneCell']))
     obtain ⟨wa, hwa⟩ : ∃ wa, wa = wr.alloc (.cells #[.int .u32 (id' : Int), .int .u8 (yk : Int), .int .i64 yn, .string ysx] 112) := ⟨_, rfl⟩
     have HWA := Lib.hid hwa
     have HSGA : Hid (NSeg w0 112 4 (.slice ao no co) no (cellsOf .u32 os) wa) := Lib.hid (HSG.out.keep (by rw [hwa]; exact (Mod.refl _ _).alloc _))
     clear hwa
     by_cases hput : d = false ∧ f < id'
     · obtain ⟨rfl, hlt⟩ := hput
       have hlt' : (f : Int) < (id' : Int) := by omega
       have hne' : (id' : Int) ≠ (f : Int) := by omega
       have HSG1 : Hid (NSeg w0 112 4 (.slice ao no co) no (cellsOf .u32 os) (wa.alloc (.cells #[.int .u32 (f : Int), .int .u8 (vk : Int), .int .i64 vn, .string vs] 112))) := Lib.hid (HSGA.out.keep ((Mod.refl _ _).alloc _))
       have HRES : Hid (layT Ent.key xE d0 (hs.take (k + 1)) = (os ++ [xE] ++ [yV], true)) := Lib.hid (by
         rw [HTK.out]; unfold layS; rw [HYV.out.1, HXE.out.2.1]
         have : ¬ id' = f := by omega
         simp [hlt, this])
       have HS1 := Lib.hid (HSS.out wa (wr.heap.size + 1) (by rw [HWA.out]; simp))
       have HEL : Hid ((wa.alloc (.cells #[.int .u32 (f : Int), .int .u8 (vk : Int), .int .i64 vn, .string vs] 112)).heap[wr.heap.size]? = some (.cells #[.int .u32 (id' : Int), .int .u8 (yk : Int), .int .i64 yn, .string ysx] 112 (0, 0))) := Lib.hid (by rw [HWA.out]; exact heap_alloc_old (heap_alloc_new' _ _))
       have HLT : Hid (∀ b, Value.ownBlock (.slice ao no co) = some b → b ≠ wr.heap.size) := Lib.hid (fun b hb => Nat.ne_of_lt (HSG.out.seg.lt b hb))
       rw [HWA.out] at HSG1 HS1 HEL
       go_wp2_with (first
         | (at_builtin; refine wpList_append_seg rfl (.tmp 30) (.tmp 34) 102 rfl i0 _ 4 40 Tryz.underlying102 HI.out.1 HI.out.2.1 HI.out.2.2.1 HI.out.2.2.2 rfl (by decide) rfl HSG1.out.seg _ 1 _ rfl HS1.out (by have := HLE.out; unfold maxLen; omega) (by have := HLE.out; omega) ?_; intro v3 w3 hs3 hg3 ho3; have H3 := Lib.hid (HSG1.out.snoc hs3 hg3 ho3); have he3 := grown_heap hg3 HEL.out HLT.out; have q0 := cell_of_row he3 0; have q1 := cell_of_row he3 1; have q2 := cell_of_row he3 2; have q3 := cell_of_row he3 3; simp at q0 q1 q2 q3; have y3 := lt_of_block he3; clear he3; (obtain ⟨a3, c3, rfl⟩ : ∃ a c, v3 = .slice a (no + 1) c := (by obtain ⟨a, c, e, _⟩ := hs3.rdS.shape; exact ⟨_, _, e⟩)); have H3A := Lib.hid (H3.out.keep ((Mod.refl (fun _ => False) w3).alloc (.cells #[.int .u32 (id' : Int), .int .u8 (yk : Int), .int .i64 yn, .string ysx] 112))); clear hs3 hg3 ho3)
         | (at_builtin; refine wpList_append_seg rfl (.tmp 40) (.tmp 42) 102 rfl i0 _ 4 40 Tryz.underlying102 HI.out.1 HI.out.2.1 HI.out.2.2.1 HI.out.2.2.2 rfl (by decide) rfl H3A.out.seg _ 1 _ rfl (HSY.out w3 _ rfl) (by have := HLE.out; unfold maxLen; omega) (by have := HLE.out; omega) ?_; intro v4 w4 hs4 hg4 ho4; have H4 := Lib.hid (H3A.out.snoc hs4 hg4 ho4); (obtain ⟨a4, c4, n4, rfl⟩ : ∃ a c n, v4 = .slice a n c := (by obtain ⟨a, c, e, _⟩ := hs4.shape; exact ⟨_, _, _, e⟩)); clear hs4 hg4 ho4))
       go_roundw
       case rel => exact ⟨k + 1, true, by go_num, by omega, rfl, by rw [HRES.out], by
         have h := H4.out
         have e : cellsOf .u32 (os ++ [xE] ++ [yV]) = cellsOf .u32 os ++ #[.int .u32 (f : Int), .int .u8 (vk : Int), .int .i64 vn, .string vs].toList ++ #[.int .u32 (id' : Int), .int .u8 (yk : Int), .int .i64 yn, .string ysx].toList := by rw [cellsOf_snoc, cellsOf_snoc, HXE.out.2.2, HYV.out.2]
         rw [HRES.out]; show NSeg _ _ _ _ (os ++ [xE] ++ [yV]).length (cellsOf .u32 (os ++ [xE] ++ [yV])) _
         rw [e, List.length_append, List.length_append, ← HNO.out]; exact h⟩
       case measure => simp [intOf]; omega
     · have hd : ∀ b, d = b → (!b && decide (f < id')) = false := by
         intro b hb; subst hb
         cases d with
         | true => rfl
         | false =>
           have : ¬ f < id' := fun h => hput ⟨rfl, h⟩
           simp [this]
       by_cases hsame : id' = f
       · have HRES : Hid (layT Ent.key xE d0 (hs.take (k + 1)) = (os, d)) := Lib.hid (by
           rw [HTK.out]; unfold layS; rw [HYV.out.1, HXE.out.2.1]
           have : ¬ f < id' := by omega
           simp [hsame])
         have hnl : ¬ (f : Int) < (id' : Int) := by omega
         clear hd hput
         subst hsame
         cases d
         all_goals
           go_wp2
           go_roundw
           case rel => exact ⟨k + 1, _, by go_num, by omega, rfl, by rw [HRES.out], by rw [HRES.out]; show NSeg _ _ _ _ os.length (cellsOf .u32 os) _; rw [← HNO.out]; exact HWA.out ▸ HSGA.out⟩
           case measure => simp [intOf]; omega
       · have hne' : (id' : Int) ≠ (f : Int) := by omega
         have HRES : Hid (layT Ent.key xE d0 (hs.take (k + 1)) = (os ++ [yV], d)) := Lib.hid (by
           rw [HTK.out]; unfold layS; rw [HYV.out.1, HXE.out.2.1]
           have h1 := hd d rfl
           have h2 : (d || decide (f < id')) = d := by
             cases d with
             | true => rfl
             | false => simpa using h1
           simp only at h1 h2 ⊢
           rw [h1, h2, if_neg hsame]; simp)
         have HSG1 : Hid (NSeg w0 112 4 (.slice ao no co) no (cellsOf .u32 os) (wa.alloc (.cells #[.int .u32 (id' : Int), .int .u8 (yk : Int), .int .i64 yn, .string ysx] 112))) := Lib.hid (HSGA.out.keep ((Mod.refl _ _).alloc _))
         have HS1 := Lib.hid (HSY.out wa (wr.heap.size + 1) (by rw [HWA.out]; simp))
         rw [HWA.out] at HSG1 HS1
         have HE : Hid (cellsOf .u32 (os ++ [yV]) = cellsOf .u32 os ++ #[.int .u32 (id' : Int), .int .u8 (yk : Int), .int .i64 yn, .string ysx].toList) := Lib.hid (by rw [cellsOf_snoc, HYV.out.2])
         have hnl : d = false → ¬ (f : Int) < (id' : Int) := fun e h => hput ⟨e, by omega⟩
         clear hd hput hsame
         cases d with
         | true =>
           clear hnl
           go_wp2_with (at_builtin; refine wpList_append_seg rfl (.tmp 40) (.tmp 42) 102 rfl i0 _ 4 40 Tryz.underlying102 HI.out.1 HI.out.2.1 HI.out.2.2.1 HI.out.2.2.2 rfl (by decide) rfl HSG1.out.seg _ 1 _ rfl HS1.out (by have := HLE.out; unfold maxLen; omega) (by have := HLE.out; omega) ?_; intro v4 w4 hs4 hg4 ho4; have H4 := Lib.hid (HSG1.out.snoc hs4 hg4 ho4); (obtain ⟨a4, c4, n4, rfl⟩ : ∃ a c n, v4 = .slice a n c := (by obtain ⟨a, c, e, _⟩ := hs4.shape; exact ⟨_, _, _, e⟩)); clear hs4 hg4 ho4)
           go_roundw
           case rel => exact ⟨k + 1, true, by go_num, by omega, rfl, by rw [HRES.out], by rw [HRES.out]; show NSeg _ _ _ _ (os ++ [yV]).length (cellsOf .u32 (os ++ [yV])) _; rw [HE.out, List.length_append, ← HNO.out]; exact H4.out⟩
           case measure => simp [intOf]; omega
         | false =>
           have hnl := hnl rfl
           go_wp2_with (at_builtin; refine wpList_append_seg rfl (.tmp 40) (.tmp 42) 102 rfl i0 _ 4 40 Tryz.underlying102 HI.out.1 HI.out.2.1 HI.out.2.2.1 HI.out.2.2.2 rfl (by decide) rfl HSG1.out.seg _ 1 _ rfl HS1.out (by have := HLE.out; unfold maxLen; omega) (by have := HLE.out; omega) ?_; intro v4 w4 hs4 hg4 ho4; have H4 := Lib.hid (HSG1.out.snoc hs4 hg4 ho4); (obtain ⟨a4, c4, n4, rfl⟩ : ∃ a c n, v4 = .slice a n c := (by obtain ⟨a, c, e, _⟩ := hs4.shape; exact ⟨_, _, _, e⟩)); clear hs4 hg4 ho4)
           go_roundw
           case rel => exact ⟨k + 1, false, by go_num, by omega, rfl, by rw [HRES.out], by rw [HRES.out]; show NSeg _ _ _ _ (os ++ [yV]).length (cellsOf .u32 (os ++ [yV])) _; rw [HE.out, List.length_append, ← HNO.out]; exact H4.out⟩
           case measure => simp [intOf]; omega
   · have HEND : Hid (layG Ent.key xE d0 hs = if d then os else os ++ [xE]) := Lib.hid (by
       have h := layT_end Ent.key xE d0 hs
       have ht : hs.take k = hs := List.take_of_length_le (by have := HN.out; omega)
       have h2 := HOS.out
       rw [ht] at h2
       rw [h2] at h
       exact h.symm)
     have HFT : Hid (∀ p ∈ layG Ent.key xE d0 hs, p.key < 4294967296 ∧ p.val.Fits) := Lib.hid (entsFit_lay (by rw [HXE.out.1]; exact ⟨hf, HVF.out⟩) HF.out.halves)
     cases d with
     | true =>
       have HE : Hid (layG Ent.key xE d0 hs = os) := Lib.hid (by have := HEND.out; simpa using this)
       have r0 := cell_of_row hret 0
       have r1 := cell_of_row hret 1
       have r2 := cell_of_row hret 2
       have r3 := cell_of_row hret 3
       have f0 := free_of_row hret 0
       have f1 := free_of_row hret 1
       have f2 := free_of_row hret 2
       have f3 := free_of_row hret 3
       have zr := lt_of_block hret
       simp at r0 r1 r2 r3
       clear hret
       have HFIN := Lib.hid (HA0.out.finish HM0.out 3 (.slice ao no co) (.int .u32 (id : Int)) (.bool thr) (.slice ap n2 cp) (.slice ao no co))
       go_wp2
       refine bodyPost_ret (v := .agg #[.int .u32 (id : Int), .bool thr, .slice ap n2 cp, .slice ao no co]) (by simp [results, Tryz.results54, go_sem, r0, r1, r2, r3]) rfl ⟨(HFIN.out).1, .slice ao no co, ?_, ?_⟩
       · rfl
       · have hsg := (HFIN.out).2 _ _ _ _ HSG.out
         have hl : layG Ent.key ⟨f, ⟨vk, vn, vs⟩⟩ (!there) hs = os := by rw [← HE.out, HXE.out.1, ← HD0.out]
         refine ⟨⟨HF.out.id, HF.out.props, (by rw [HXE.out.1, HD0.out] at HFT; exact HFT.out)⟩, (by show RdS _ 4 _ ps.length (cellsOf .u8 ps); rw [← HN2.out]; exact HP.out.keep (HFIN.out).1), (by simp only [setH]; rw [hl, ← HNO.out]; exact hsg.rdS)⟩
     | false =>
       have HE : Hid (layG Ent.key xE d0 hs = os ++ [xE]) := Lib.hid (by have := HEND.out; simpa using this)
       clear hret
       have HSG1 := Lib.hid (HSG.out.keep ((Mod.refl (fun _ => False) wr).alloc (.cells #[.int .u32 (f : Int), .int .u8 (vk : Int), .int .i64 vn, .string vs] 112)))
       go_wp2_with (at_builtin; refine wpList_append_seg rfl (.tmp 47) (.tmp 51) 102 rfl i0 _ 4 40 Tryz.underlying102 HI.out.1 HI.out.2.1 HI.out.2.2.1 HI.out.2.2.2 rfl (by decide) rfl HSG1.out.seg _ 1 _ rfl (HSS.out wr _ rfl) (by have := HLE.out; unfold maxLen; omega) (by have := HLE.out; omega) ?_; intro v4 w4 hs4 hg4 ho4; have H4 := Lib.hid (HSG1.out.snoc hs4 hg4 ho4); (obtain ⟨a4, c4, rfl⟩ : ∃ a c, v4 = .slice a (no + 1) c := (by obtain ⟨a, c, e, _⟩ := hs4.rdS.shape; exact ⟨_, _, e⟩)); clear hs4 hg4 ho4; have hret := H4.out.mod.heap HA0.out.ret (fun f => f); have hbox := H4.out.mod.heap HA0.out.box (fun f => f); have c0 := cell_of_row hbox 0; have c1 := cell_of_row hbox 1; have c2 := cell_of_row hbox 2; have c3 := cell_of_row hbox 3; have fc := free_of_row hbox 3; have zc := lt_of_block hbox; have r0 := cell_of_row hret 0; have r1 := cell_of_row hret 1; have r2 := cell_of_row hret 2; have r3 := cell_of_row hret 3; have f0 := free_of_row hret 0; have f1 := free_of_row hret 1; have f2 := free_of_row hret 2; have f3 := free_of_row hret 3; have zr := lt_of_block hret; simp at r0 r1 r2 r3 c0 c1 c2 c3; clear hret hbox; have HFIN := Lib.hid (HA0.out.finish H4.out.mod 3 (.slice a4 (no + 1) c4) (.int .u32 (id : Int)) (.bool thr) (.slice ap n2 cp) (.slice a4 (no + 1) c4)))
       refine bodyPost_ret (v := .agg #[.int .u32 (id : Int), .bool thr, .slice ap n2 cp, .slice a4 (no + 1) c4]) (by simp [results, Tryz.results54, go_sem, r0, r1, r2, r3]) rfl ⟨(HFIN.out).1, .slice a4 (no + 1) c4, ?_, ?_⟩
       · rfl
       · have hsg := (HFIN.out).2 _ _ _ _ H4.out
         have hl : layG Ent.key ⟨f, ⟨vk, vn, vs⟩⟩ (!there) hs = os ++ [xE] := by rw [← HE.out, HXE.out.1, ← HD0.out]
         refine ⟨⟨HF.out.id, HF.out.props, (by rw [HXE.out.1, HD0.out] at HFT; exact HFT.out)⟩, (by show RdS _ 4 _ ps.length (cellsOf .u8 ps); rw [← HN2.out]; exact HP.out.keep (HFIN.out).1), (by simp only [setH]; rw [hl, List.length_append, ← HNO.out, cellsOf_snoc, HXE.out.2.2]; exact hsg.rdS)⟩
set_option maxRecDepth 100000 in
set_option maxHeartbeats 4000000 in
theorem setprop_any (x : Vtx) (vp vh : Value) (f : Nat) (val : Val)  (w : World) (hx : VRd w vp vh x) (hf : f < 256) (hval : val.Fits) (hn : x.props.length ≤ 1000) :
   Calls Tryz.prog 52 #[vtxV x vp vh, .int .u8 (f : Int), val.v ] w fun e w' => Mod (fun _ => False) w w' ∧ ∃ vo, e = .returned (vtxV (setP x f val) vo vh) ∧ VRd w' vo vh (setP x f val) := by
 obtain ⟨id, thr, ps, hs⟩ := x
 have HF := Lib.hid hx.fits
 have HP := Lib.hid hx.props
 have HH := Lib.hid hx.halves
 have HVF := Lib.hid hval
 obtain ⟨ap, cp, rfl, hcp1, hcp2, -⟩ := hx.props.shape
 obtain ⟨ah, ch, rfl, hch1, hch2, -⟩ := hx.halves.shape
 simp only at HF HP HH hn hcp1 hch1
 clear hx
 obtain ⟨i0, hi, hz0, hz1, hz2⟩ := info_parts infoProp
 have HI : Hid (Tryz.prog.info? 145 = some i0 ∧ i0.zero = some (.agg #[.int .u8 0, .int .u8 0, .int .i64 0, zval]) ∧ i0.size = 4 ∧ i0.bytes = 40) := ⟨hi, hz0, hz1, hz2⟩
 clear hi hz0 hz1 hz2
 obtain ⟨n, hnl⟩ : ∃ n, n = ps.length := ⟨_, rfl⟩
 have HN := Lib.hid hnl
 obtain ⟨n2, hnl2⟩ : ∃ n2, n2 = hs.length := ⟨_, rfl⟩
 have HN2 := Lib.hid hnl2
 obtain ⟨vk, vn, vs⟩ := val
 simp only [vtxV, Val.v]
 rw [← hnl] at HP hn hcp1 ⊢
 rw [← hnl2] at HH hch1 ⊢
 clear hnl hnl2 hval
 obtain ⟨xE, hxE⟩ : ∃ xE : Ent, xE = ⟨f, ⟨vk, vn, vs⟩⟩ := ⟨_, rfl⟩
 have HXE : Hid (xE = ⟨f, ⟨vk, vn, vs⟩⟩ ∧ xE.key = f ∧ xE.cells .u8 = [.int .u8 (f : Int), .int .u8 (vk : Int), .int .i64 vn, .string vs]) := Lib.hid (by rw [hxE]; exact ⟨rfl, rfl, rfl⟩)
 clear hxE
 obtain ⟨d0, hd0⟩ : ∃ d0, d0 = decide (vk = 0) := ⟨_, rfl⟩
 have HD0 := Lib.hid hd0
 have hvd : ((vk : Int) == 0) = d0 := by rw [hd0]; by_cases h : vk = 0 <;> simp [h]
 clear hd0
 have HA0 := Lib.hid (SetAt.begin w #[.int .u32 (id : Int), .bool thr, .slice ap n cp, .slice ah n2 ch] ⟨vk, vn, vs⟩)
 obtain ⟨w0, hw0⟩ : ∃ w0, w0 = (((w.alloc (.cells #[.int .u32 (id : Int), .bool thr, .slice ap n cp, .slice ah n2 ch] 104)).alloc (.cells #[.int .u8 (vk : Int), .int .i64 vn, .string vs] 77)).alloc (.cells #[.int .u32 0, .bool false, .slice none 0 0, .slice none 0 0] 104)) := ⟨_, rfl⟩
 simp only at HA0
 rw [← hw0] at HA0
 have HW1 := Lib.hid hw0
 clear hw0
 go_enter Tryz.func52, Tryz.ntmps52
 go_wp2
 go_loopw [17, 7, 8] (fun i o d wr => ∃ (k : Nat) (b : Bool), i = .int .i64 k ∧ k ≤ n ∧ d = .bool b ∧ (layT Ent.key xE d0 (ps.take k)).2 = b ∧ NSeg w0 145 4 o (layT Ent.key xE d0 (ps.take k)).1.length (cellsOf .u8 (layT Ent.key xE d0 (ps.take k)).1) wr) (fun i _ _ _ => n - (intOf i).toNat)
 case atStart => exact ⟨0, d0, rfl, Nat.zero_le _, rfl, rfl, HW1.out ▸ NSeg.start (Mod.refl _ _)⟩
 case round =>
   obtain ⟨k, d, rfl, hk, rfl, hfl, hsg⟩ := hrel
   have HFL := Lib.hid hfl
   have HSG0 := Lib.hid hsg
   clear hfl hsg
   have HM0 : Hid (Mod (fun _ => False) w0 wr) := Lib.hid HSG0.out.mod
   have HM : Hid (Mod (fun _ => False) w wr) := Lib.hid (HA0.out.mod.trans HM0.out)
   have hbox := HM0.out.heap HA0.out.box (fun f => f)
   have harg := HM0.out.heap HA0.out.arg (fun f => f)
   have hret := HM0.out.heap HA0.out.ret (fun f => f)
   have b0 := cell_of_row hbox 0
   have b1 := cell_of_row hbox 1
   have b2 := cell_of_row hbox 2
   have b3 := cell_of_row hbox 3
   have fb := free_of_row hbox 2
   have a0 := cell_of_row harg 0
   have a1 := cell_of_row harg 1
   have a2 := cell_of_row harg 2
   have zb := lt_of_block hbox
   have za := lt_of_block harg
   simp at b0 b1 b2 b3 a0 a1 a2
   clear hbox harg
   obtain ⟨os, hos⟩ : ∃ os, os = (layT Ent.key xE d0 (ps.take k)).1 := ⟨_, rfl⟩
   have HOS : Hid (layT Ent.key xE d0 (ps.take k) = (os, d)) := Lib.hid (by rw [hos, ← HFL.out])
   have HLE : Hid (os.length ≤ 1001) := Lib.hid (by
     have := layT_length Ent.key xE d0 (ps.take k)
     rw [List.length_take] at this
     rw [hos]
     have := HN.out
     omega)
   have HSG : Hid (NSeg w0 145 4 u7 os.length (cellsOf .u8 os) wr) := Lib.hid (by have h := HSG0.out; rwa [← hos] at h)
   clear hos HSG0 HFL
   obtain ⟨ao, co, hvv⟩ : ∃ ao co, u7 = .slice ao os.length co := by
     obtain ⟨a, c, e, _⟩ := HSG.out.seg.rdS.shape
     exact ⟨_, _, e⟩
   subst hvv
   obtain ⟨no, hno⟩ : ∃ no, no = os.length := ⟨_, rfl⟩
   rw [← hno] at HLE HSG
   have HNO := Lib.hid hno
   rw [← hno]
   clear hno
   have HSS := Lib.hid (fun (w1 : World) (n0 : Nat) (h : w1.heap.size = n0) => src_cells (w := w1) h (size := 4) 145 #[.int .u8 (f : Int), .int .u8 (vk : Int), .int .i64 vn, .string vs] rfl (by simp [Value.oneCell']))
   by_cases hkn : k < n
   · clear hret
     obtain ⟨y, hy⟩ : ∃ x, ps[k]? = some x := ⟨_, List.getElem?_eq_getElem (by rw [← HN.out]; exact hkn)⟩
     obtain ⟨bl, offl, e0, hbl, r0, r1, r2, r3⟩ := HP.out.ent2 hy rfl
     have r0 := HM.out.cell r0
     have r1 := HM.out.cell r1
     have r2 := HM.out.cell r2
     have r3 := HM.out.cell r3
     have zbl : bl < wr.heap.size := Nat.lt_of_lt_of_le hbl HM.out.size
     have HTK : Hid (layT Ent.key xE d0 (ps.take (k + 1)) = layS Ent.key xE (os, d) y) := Lib.hid (by rw [take_snoc hy, layT_snoc, HOS.out])
     clear hy hbl
     subst e0
     obtain ⟨id', ⟨yk, yn, ysx⟩⟩ := y
     simp only at r0 r1 r2 r3
     obtain ⟨yV, hyV⟩ : ∃ yV : Ent, yV = ⟨id', ⟨yk, yn, ysx⟩⟩ := ⟨_, rfl⟩
     rw [← hyV] at HTK
     have HYV : Hid (yV.key = id' ∧ yV.cells .u8 = [.int .u8 (id' : Int), .int .u8 (yk : Int), .int .i64 yn, .string ysx]) := Lib.hid (by rw [hyV]; exact ⟨rfl, rfl⟩)
     clear hyV
     have HSY := Lib.hid (fun (w1 : World) (n0 : Nat) (h : w1.heap.size = n0) => src_cells (w := w1) h (size := 4) 145 #[.int .u8 (id' : Int), .int .u8 (yk : Int), .int .i64 yn, .string ysx] rfl (by simp [Value.oneCell']))
     obtain ⟨wa, hwa⟩ : ∃ wa, wa = wr.alloc (.cells #[.int .u8 (id' : Int), .int .u8 (yk : Int), .int .i64 yn, .string ysx] 145) := ⟨_, rfl⟩
     have HWA := Lib.hid hwa
     have HSGA : Hid (NSeg w0 145 4 (.slice ao no co) no (cellsOf .u8 os) wa) := Lib.hid (HSG.out.keep (by rw [hwa]; exact (Mod.refl _ _).alloc _))
     clear hwa
     by_cases hput : d = false ∧ f < id'
     · obtain ⟨rfl, hlt⟩ := hput
       have hlt' : (f : Int) < (id' : Int) := by omega
       have hne' : (id' : Int) ≠ (f : Int) := by omega
       have HSG1 : Hid (NSeg w0 145 4 (.slice ao no co) no (cellsOf .u8 os) (wa.alloc (.cells #[.int .u8 (f : Int), .int .u8 (vk : Int), .int .i64 vn, .string vs] 145))) := Lib.hid (HSGA.out.keep ((Mod.refl _ _).alloc _))
       have HRES : Hid (layT Ent.key xE d0 (ps.take (k + 1)) = (os ++ [xE] ++ [yV], true)) := Lib.hid (by
         rw [HTK.out]; unfold layS; rw [HYV.out.1, HXE.out.2.1]
         have : ¬ id' = f := by omega
         simp [hlt, this])
       have HS1 := Lib.hid (HSS.out wa (wr.heap.size + 1) (by rw [HWA.out]; simp))
       have HEL : Hid ((wa.alloc (.cells #[.int .u8 (f : Int), .int .u8 (vk : Int), .int .i64 vn, .string vs] 145)).heap[wr.heap.size]? = some (.cells #[.int .u8 (id' : Int), .int .u8 (yk : Int), .int .i64 yn, .string ysx] 145 (0, 0))) := Lib.hid (by rw [HWA.out]; exact heap_alloc_old (heap_alloc_new' _ _))
       have HLT : Hid (∀ b, Value.ownBlock (.slice ao no co) = some b → b ≠ wr.heap.size) := Lib.hid (fun b hb => Nat.ne_of_lt (HSG.out.seg.lt b hb))
       rw [HWA.out] at HSG1 HS1 HEL
       go_wp2_with (first
         | (at_builtin; refine wpList_append_seg rfl (.tmp 29) (.tmp 33) 101 rfl i0 _ 4 40 Tryz.underlying101 HI.out.1 HI.out.2.1 HI.out.2.2.1 HI.out.2.2.2 rfl (by decide) rfl HSG1.out.seg _ 1 _ rfl HS1.out (by have := HLE.out; unfold maxLen; omega) (by have := HLE.out; omega) ?_; intro v3 w3 hs3 hg3 ho3; have H3 := Lib.hid (HSG1.out.snoc hs3 hg3 ho3); have he3 := grown_heap hg3 HEL.out HLT.out; have q0 := cell_of_row he3 0; have q1 := cell_of_row he3 1; have q2 := cell_of_row he3 2; have q3 := cell_of_row he3 3; simp at q0 q1 q2 q3; have y3 := lt_of_block he3; clear he3; (obtain ⟨a3, c3, rfl⟩ : ∃ a c, v3 = .slice a (no + 1) c := (by obtain ⟨a, c, e, _⟩ := hs3.rdS.shape; exact ⟨_, _, e⟩)); have H3A := Lib.hid (H3.out.keep ((Mod.refl (fun _ => False) w3).alloc (.cells #[.int .u8 (id' : Int), .int .u8 (yk : Int), .int .i64 yn, .string ysx] 145))); clear hs3 hg3 ho3)
         | (at_builtin; refine wpList_append_seg rfl (.tmp 39) (.tmp 41) 101 rfl i0 _ 4 40 Tryz.underlying101 HI.out.1 HI.out.2.1 HI.out.2.2.1 HI.out.2.2.2 rfl (by decide) rfl H3A.out.seg _ 1 _ rfl (HSY.out w3 _ rfl) (by have := HLE.out; unfold maxLen; omega) (by have := HLE.out; omega) ?_; intro v4 w4 hs4 hg4 ho4; have H4 := Lib.hid (H3A.out.snoc hs4 hg4 ho4); (obtain ⟨a4, c4, n4, rfl⟩ : ∃ a c n, v4 = .slice a n c := (by obtain ⟨a, c, e, _⟩ := hs4.shape; exact ⟨_, _, _, e⟩)); clear hs4 hg4 ho4))
       go_roundw
       case rel => exact ⟨k + 1, true, by go_num, by omega, rfl, by rw [HRES.out], by
         have h := H4.out
         have e : cellsOf .u8 (os ++ [xE] ++ [yV]) = cellsOf .u8 os ++ #[.int .u8 (f : Int), .int .u8 (vk : Int), .int .i64 vn, .string vs].toList ++ #[.int .u8 (id' : Int), .int .u8 (yk : Int), .int .i64 yn, .string ysx].toList := by rw [cellsOf_snoc, cellsOf_snoc, HXE.out.2.2, HYV.out.2]
         rw [HRES.out]; show NSeg _ _ _ _ (os ++ [xE] ++ [yV]).length (cellsOf .u8 (os ++ [xE] ++ [yV])) _
         rw [e, List.length_append, List.length_append, ← HNO.out]; exact h⟩
       case measure => simp [intOf]; omega
     · have hd : ∀ b, d = b → (!b && decide (f < id')) = false := by
         intro b hb; subst hb
         cases d with
         | true => rfl
         | false =>
           have : ¬ f < id' := fun h => hput ⟨rfl, h⟩
           simp [this]
       by_cases hsame : id' = f
       · have HRES : Hid (layT Ent.key xE d0 (ps.take (k + 1)) = (os, d)) := Lib.hid (by
           rw [HTK.out]; unfold layS; rw [HYV.out.1, HXE.out.2.1]
           have : ¬ f < id' := by omega
           simp [hsame])
         have hnl : ¬ (f : Int) < (id' : Int) := by omega
         clear hd hput
         subst hsame
         cases d
         all_goals
           go_wp2
           go_roundw
           case rel => exact ⟨k + 1, _, by go_num, by omega, rfl, by rw [HRES.out], by rw [HRES.out]; show NSeg _ _ _ _ os.length (cellsOf .u8 os) _; rw [← HNO.out]; exact HWA.out ▸ HSGA.out⟩
           case measure => simp [intOf]; omega
       · have hne' : (id' : Int) ≠ (f : Int) := by omega
         have HRES : Hid (layT Ent.key xE d0 (ps.take (k + 1)) = (os ++ [yV], d)) := Lib.hid (by
           rw [HTK.out]; unfold layS; rw [HYV.out.1, HXE.out.2.1]
           have h1 := hd d rfl
           have h2 : (d || decide (f < id')) = d := by
             cases d with
             | true => rfl
             | false => simpa using h1
           simp only at h1 h2 ⊢
           rw [h1, h2, if_neg hsame]; simp)
         have HSG1 : Hid (NSeg w0 145 4 (.slice ao no co) no (cellsOf .u8 os) (wa.alloc (.cells #[.int .u8 (id' : Int), .int .u8 (yk : Int), .int .i64 yn, .string ysx] 145))) := Lib.hid (HSGA.out.keep ((Mod.refl _ _).alloc _))
         have HS1 := Lib.hid (HSY.out wa (wr.heap.size + 1) (by rw [HWA.out]; simp))
         rw [HWA.out] at HSG1 HS1
         have HE : Hid (cellsOf .u8 (os ++ [yV]) = cellsOf .u8 os ++ #[.int .u8 (id' : Int), .int .u8 (yk : Int), .int .i64 yn, .string ysx].toList) := Lib.hid (by rw [cellsOf_snoc, HYV.out.2])
         have hnl : d = false → ¬ (f : Int) < (id' : Int) := fun e h => hput ⟨e, by omega⟩
         clear hd hput hsame
         cases d with
         | true =>
           clear hnl
           go_wp2_with (at_builtin; refine wpList_append_seg rfl (.tmp 39) (.tmp 41) 101 rfl i0 _ 4 40 Tryz.underlying101 HI.out.1 HI.out.2.1 HI.out.2.2.1 HI.out.2.2.2 rfl (by decide) rfl HSG1.out.seg _ 1 _ rfl HS1.out (by have := HLE.out; unfold maxLen; omega) (by have := HLE.out; omega) ?_; intro v4 w4 hs4 hg4 ho4; have H4 := Lib.hid (HSG1.out.snoc hs4 hg4 ho4); (obtain ⟨a4, c4, n4, rfl⟩ : ∃ a c n, v4 = .slice a n c := (by obtain ⟨a, c, e, _⟩ := hs4.shape; exact ⟨_, _, _, e⟩)); clear hs4 hg4 ho4)
           go_roundw
           case rel => exact ⟨k + 1, true, by go_num, by omega, rfl, by rw [HRES.out], by rw [HRES.out]; show NSeg _ _ _ _ (os ++ [yV]).length (cellsOf .u8 (os ++ [yV])) _; rw [HE.out, List.length_append, ← HNO.out]; exact H4.out⟩
           case measure => simp [intOf]; omega
         | false =>
           have hnl := hnl rfl
           go_wp2_with (at_builtin; refine wpList_append_seg rfl (.tmp 39) (.tmp 41) 101 rfl i0 _ 4 40 Tryz.underlying101 HI.out.1 HI.out.2.1 HI.out.2.2.1 HI.out.2.2.2 rfl (by decide) rfl HSG1.out.seg _ 1 _ rfl HS1.out (by have := HLE.out; unfold maxLen; omega) (by have := HLE.out; omega) ?_; intro v4 w4 hs4 hg4 ho4; have H4 := Lib.hid (HSG1.out.snoc hs4 hg4 ho4); (obtain ⟨a4, c4, n4, rfl⟩ : ∃ a c n, v4 = .slice a n c := (by obtain ⟨a, c, e, _⟩ := hs4.shape; exact ⟨_, _, _, e⟩)); clear hs4 hg4 ho4)
           go_roundw
           case rel => exact ⟨k + 1, false, by go_num, by omega, rfl, by rw [HRES.out], by rw [HRES.out]; show NSeg _ _ _ _ (os ++ [yV]).length (cellsOf .u8 (os ++ [yV])) _; rw [HE.out, List.length_append, ← HNO.out]; exact H4.out⟩
           case measure => simp [intOf]; omega
   · have HEND : Hid (layG Ent.key xE d0 ps = if d then os else os ++ [xE]) := Lib.hid (by
       have h := layT_end Ent.key xE d0 ps
       have ht : ps.take k = ps := List.take_of_length_le (by have := HN.out; omega)
       have h2 := HOS.out
       rw [ht] at h2
       rw [h2] at h
       exact h.symm)
     have HFT : Hid (∀ p ∈ layG Ent.key xE d0 ps, p.key < 256 ∧ p.val.Fits) := Lib.hid (entsFit_lay (by rw [HXE.out.1]; exact ⟨hf, HVF.out⟩) HF.out.props)
     cases d with
     | true =>
       have HE : Hid (layG Ent.key xE d0 ps = os) := Lib.hid (by have := HEND.out; simpa using this)
       have r0 := cell_of_row hret 0
       have r1 := cell_of_row hret 1
       have r2 := cell_of_row hret 2
       have r3 := cell_of_row hret 3
       have f0 := free_of_row hret 0
       have f1 := free_of_row hret 1
       have f2 := free_of_row hret 2
       have f3 := free_of_row hret 3
       have zr := lt_of_block hret
       simp at r0 r1 r2 r3
       clear hret
       have HFIN := Lib.hid (HA0.out.finish HM0.out 2 (.slice ao no co) (.int .u32 (id : Int)) (.bool thr) (.slice ao no co) (.slice ah n2 ch))
       go_wp2
       refine bodyPost_ret (v := .agg #[.int .u32 (id : Int), .bool thr, .slice ao no co, .slice ah n2 ch]) (by simp [results, Tryz.results52, go_sem, r0, r1, r2, r3]) rfl ⟨(HFIN.out).1, .slice ao no co, ?_, ?_⟩
       · rfl
       · have hsg := (HFIN.out).2 _ _ _ _ HSG.out
         have hl : layG Ent.key ⟨f, ⟨vk, vn, vs⟩⟩ (decide (vk = 0)) ps = os := by rw [← HE.out, HXE.out.1, ← HD0.out]
         refine ⟨⟨HF.out.id, (by rw [HXE.out.1, HD0.out] at HFT; exact HFT.out), HF.out.halves⟩, (by simp only [setP]; rw [hl, ← HNO.out]; exact hsg.rdS), (by show RdS _ 4 _ hs.length (cellsOf .u32 hs); rw [← HN2.out]; exact HH.out.keep (HFIN.out).1)⟩
     | false =>
       have HE : Hid (layG Ent.key xE d0 ps = os ++ [xE]) := Lib.hid (by have := HEND.out; simpa using this)
       clear hret
       have HSG1 := Lib.hid (HSG.out.keep ((Mod.refl (fun _ => False) wr).alloc (.cells #[.int .u8 (f : Int), .int .u8 (vk : Int), .int .i64 vn, .string vs] 145)))
       go_wp2_with (at_builtin; refine wpList_append_seg rfl (.tmp 46) (.tmp 50) 101 rfl i0 _ 4 40 Tryz.underlying101 HI.out.1 HI.out.2.1 HI.out.2.2.1 HI.out.2.2.2 rfl (by decide) rfl HSG1.out.seg _ 1 _ rfl (HSS.out wr _ rfl) (by have := HLE.out; unfold maxLen; omega) (by have := HLE.out; omega) ?_; intro v4 w4 hs4 hg4 ho4; have H4 := Lib.hid (HSG1.out.snoc hs4 hg4 ho4); (obtain ⟨a4, c4, rfl⟩ : ∃ a c, v4 = .slice a (no + 1) c := (by obtain ⟨a, c, e, _⟩ := hs4.rdS.shape; exact ⟨_, _, e⟩)); clear hs4 hg4 ho4; have hret := H4.out.mod.heap HA0.out.ret (fun f => f); have hbox := H4.out.mod.heap HA0.out.box (fun f => f); have c0 := cell_of_row hbox 0; have c1 := cell_of_row hbox 1; have c2 := cell_of_row hbox 2; have c3 := cell_of_row hbox 3; have fc := free_of_row hbox 2; have zc := lt_of_block hbox; have r0 := cell_of_row hret 0; have r1 := cell_of_row hret 1; have r2 := cell_of_row hret 2; have r3 := cell_of_row hret 3; have f0 := free_of_row hret 0; have f1 := free_of_row hret 1; have f2 := free_of_row hret 2; have f3 := free_of_row hret 3; have zr := lt_of_block hret; simp at r0 r1 r2 r3 c0 c1 c2 c3; clear hret hbox; have HFIN := Lib.hid (HA0.out.finish H4.out.mod 2 (.slice a4 (no + 1) c4) (.int .u32 (id : Int)) (.bool thr) (.slice a4 (no + 1) c4) (.slice ah n2 ch)))
       refine bodyPost_ret (v := .agg #[.int .u32 (id : Int), .bool thr, .slice a4 (no + 1) c4, .slice ah n2 ch]) (by simp [results, Tryz.results52, go_sem, r0, r1, r2, r3]) rfl ⟨(HFIN.out).1, .slice a4 (no + 1) c4, ?_, ?_⟩
       · rfl
       · have hsg := (HFIN.out).2 _ _ _ _ H4.out
         have hl : layG Ent.key ⟨f, ⟨vk, vn, vs⟩⟩ (decide (vk = 0)) ps = os ++ [xE] := by rw [← HE.out, HXE.out.1, ← HD0.out]
         refine ⟨⟨HF.out.id, (by rw [HXE.out.1, HD0.out] at HFT; exact HFT.out), HF.out.halves⟩, (by simp only [setP]; rw [hl, List.length_append, ← HNO.out, cellsOf_snoc, HXE.out.2.2]; exact hsg.rdS), (by show RdS _ 4 _ hs.length (cellsOf .u32 hs); rw [← HN2.out]; exact HH.out.keep (HFIN.out).1)⟩
end Go.Proofs.YtpigipgoopeeoaaGreatDoor
