import Derived.Test.YtpigipgoopeeoaaGreatDoorMOn21
import Derived.Test.YtpigipgoopeeoaaGreatDoorMOn29
set_option linter.unusedVariables false
set_option linter.unusedSimpArgs false
namespace Go.Proofs.YtpigipgoopeeoaaGreatDoor
open Go.RowKit Go.Maps
structure VxB (w : World) (id : Nat) (vp vh : Value) (xs ys : List Ent) (wr : World) : Prop where
 mod : Mod (fun _ => False) w wr
 rb : wr.heap[w.heap.size]? = some (.cells #[.int .u32 0, .bool false, .slice none 0 0, .slice none 0 0] 104 (0, 0))
 ob : wr.heap[w.heap.size + 1]? = some (.cells #[.int .u32 (id : Int), .bool true, vp, vh] 104 (0, 0))
 props : Seg wr 145 4 vp xs.length (cellsOf .u8 xs)
 halves : Seg wr 112 4 vh ys.length (cellsOf .u32 ys)
 newp : ∀ b, vp.ownBlock = some b → w.heap.size ≤ b
 newh : ∀ b, vh.ownBlock = some b → w.heap.size ≤ b
theorem VxB.keep {w wr wx : World} {id : Nat} {vp vh : Value} {xs ys : List Ent} (h : VxB w id vp vh xs ys wr) (m : Mod (fun _ => False) wr wx) : VxB w id vp vh xs ys wx :=
 ⟨h.mod.trans m, m.heap h.rb (fun f => f), m.heap h.ob (fun f => f), h.props.mod m (fun _ _ f => f), h.halves.mod m (fun _ _ f => f), h.newp, h.newh⟩
theorem cells_snoc (kk : IntKind) (xs : List Ent) (x : Ent) : cellsOf kk (xs ++ [x]) = cellsOf kk xs ++ x.cells kk := by simp [cellsOf]
theorem VxB.prop {w wr w3 : World} {id : Nat} {vp vh v3 : Value} {xs ys : List Ent} (h : VxB w id vp vh xs ys wr) {x : Ent} (hs : Seg w3 145 4 v3 (xs.length + 1) (cellsOf .u8 xs ++ x.cells .u8)) (hg : wr.grownBy w3 vp.ownBlock) (ho : v3.ownBlock = vp.ownBlock ∨ v3.ownBlock = some wr.heap.size) :
   w3.heap[w.heap.size + 1]? = some (.cells #[.int .u32 (id : Int), .bool true, vp, vh] 104 (0, 0)) ∧ VxB w id v3 vh (xs ++ [x]) ys (w3.setCell ⟨w.heap.size + 1, 2, none⟩ v3) := by
 have mg := mod_grown hg
 have ob3 := mg.heap h.ob (fun e => h.props.off_box h.ob (by decide) _ e rfl)
 have rb3 := mg.heap h.rb (fun e => h.props.off_box h.rb (by decide) _ e rfl)
 have m7 : Mod (fun k => k = w.heap.size + 1) w3 (w3.setCell ⟨w.heap.size + 1, 2, none⟩ v3) := (Mod.refl (fun k => k = w.heap.size + 1) w3).setCell (p := ⟨w.heap.size + 1, 2, none⟩) (fun _ => rfl) v3
 have hh3 : Seg w3 112 4 vh ys.length (cellsOf .u32 ys) := h.halves.mod mg (fun b hb e => by
   obtain ⟨cur, hc⟩ := seg_box h.props e
   exact h.halves.off_box hc (by decide) b hb rfl)
 refine ⟨ob3, (h.mod.grown hg (fun b hb hlt => by have := h.newp b hb; omega)).trans' m7 (fun i hi e => by omega), m7.heap rb3 (fun e => by omega), by simpa using row_setCell ob3 2 v3, by rw [List.length_append, cells_snoc]; exact hs.mod m7 (hs.off_box ob3 (by decide)), hh3.mod m7 (hh3.off_box ob3 (by decide)), fun b hb => ?_, h.newh⟩
 rcases ho with e | e
 · exact h.newp b (e ▸ hb)
 · rw [e] at hb
   injection hb with hb
   have := h.mod.size
   omega
theorem VxB.half {w wr w3 : World} {id : Nat} {vp vh v3 : Value} {xs ys : List Ent} (h : VxB w id vp vh xs ys wr) {x : Ent} (hs : Seg w3 112 4 v3 (ys.length + 1) (cellsOf .u32 ys ++ x.cells .u32)) (hg : wr.grownBy w3 vh.ownBlock) (ho : v3.ownBlock = vh.ownBlock ∨ v3.ownBlock = some wr.heap.size) :
   w3.heap[w.heap.size + 1]? = some (.cells #[.int .u32 (id : Int), .bool true, vp, vh] 104 (0, 0)) ∧ VxB w id vp v3 xs (ys ++ [x]) (w3.setCell ⟨w.heap.size + 1, 3, none⟩ v3) := by
 have mg := mod_grown hg
 have ob3 := mg.heap h.ob (fun e => h.halves.off_box h.ob (by decide) _ e rfl)
 have rb3 := mg.heap h.rb (fun e => h.halves.off_box h.rb (by decide) _ e rfl)
 have m7 : Mod (fun k => k = w.heap.size + 1) w3 (w3.setCell ⟨w.heap.size + 1, 3, none⟩ v3) := (Mod.refl (fun k => k = w.heap.size + 1) w3).setCell (p := ⟨w.heap.size + 1, 3, none⟩) (fun _ => rfl) v3
 have hp3 : Seg w3 145 4 vp xs.length (cellsOf .u8 xs) := h.props.mod mg (fun b hb e => by
   obtain ⟨cur, hc⟩ := seg_box h.halves e
   exact h.props.off_box hc (by decide) b hb rfl)
 refine ⟨ob3, (h.mod.grown hg (fun b hb hlt => by have := h.newh b hb; omega)).trans' m7 (fun i hi e => by omega), m7.heap rb3 (fun e => by omega), by simpa using row_setCell ob3 3 v3, hp3.mod m7 (hp3.off_box ob3 (by decide)), by rw [List.length_append, cells_snoc]; exact hs.mod m7 (hs.off_box ob3 (by decide)), h.newp, fun b hb => ?_⟩
 rcases ho with e | e
 · exact h.newh b (e ▸ hb)
 · rw [e] at hb
   injection hb with hb
   have := h.mod.size
   omega
abbrev vxEnd (wy : World) (n : Nat) (u0 u1 u2 u3 : Value) : World := (((wy.setCell ⟨n, 0, none⟩ u0).setCell ⟨n, 1, none⟩ u1).setCell ⟨n, 2, none⟩ u2).setCell ⟨n, 3, none⟩ u3
theorem vxEnd_mod (wy : World) (n : Nat) (u0 u1 u2 u3 : Value) : Mod (fun k => k = n) wy (vxEnd wy n u0 u1 u2 u3) :=
 ((((Mod.refl (fun k => k = n) wy).setCell (p := ⟨n, 0, none⟩) (fun _ => rfl) u0).setCell (p := ⟨n, 1, none⟩) (fun _ => rfl) u1).setCell (p := ⟨n, 2, none⟩) (fun _ => rfl) u2).setCell (p := ⟨n, 3, none⟩) (fun _ => rfl) u3
theorem VxB.done {w wr : World} {id : Nat} {vp vh : Value} {xs ys : List Ent} (h : VxB w id vp vh xs ys wr) (hf : (⟨id, true, xs, ys⟩ : Vtx).Fits) (u0 u1 u2 u3 : Value) : Mod (fun _ => False) w (vxEnd wr w.heap.size u0 u1 u2 u3) ∧ VNew w (vxEnd wr w.heap.size u0 u1 u2 u3) vp vh ⟨id, true, xs, ys⟩ := by
 have m := vxEnd_mod wr w.heap.size u0 u1 u2 u3
 exact ⟨h.mod.trans' m (fun i hi e => by omega), hf, h.props.mod m (h.props.off_box h.rb (by decide)), h.halves.mod m (h.halves.off_box h.rb (by decide)), h.newp, h.newh⟩
theorem NAt.half {w w' : World} {n : Node} (h : NAt w n) (m : Mod (fun _ => False) w w') {v : Nat} (hv : v < 4294967296) :
   (Instr.lookup 141 (.map (some n.me)) (.int .u32 (v : Int)) false).run Tryz.prog w' = .ok (valO (entX n.x.halves v)) w' := by
 have := (h.edges.keep m).get Tryz.underlying32 Tryz.underlying141 (zero_val w') (u32key hv)
 rw [getL_pents] at this
 rw [this, valO_getD]
set_option maxRecDepth 100000 in
set_option maxHeartbeats 8000000 in
theorem vertex_there (g bm : Nat) (ns : List Node) (id : Nat) (w : World) (hp : PG w g bm ns) (hL : Good (ns.map Node.x)) (hid : id < 4294967296) (x : Node) (hf : findN ns id = some x) :
   Calls Tryz.prog 43 #[.pointer (some ⟨g, 0, none⟩), .int .u32 (id : Int)] w (Twins w x.x) := by
 obtain ⟨hxm, hxi⟩ := findN_mem hf
 have hna := hp.nm.each x hxm
 have HNA := Lib.hid hna
 have HVG := Lib.hid (hL.each x.x (List.mem_map_of_mem hxm))
 have HP := Lib.hid hp
 have HF := Lib.hid hf
 have HID := Lib.hid hid
 have HXI := Lib.hid hxi
 have HXE : Hid (x.x = ⟨id, true, x.x.props, x.x.halves⟩) := Lib.hid (by
   have h := HVG.out.there
   rw [← hxi, ← h])
 have g0 := cell_of_row hp.cell 0
 have zg := lt_of_block hp.cell
 have p0 := cell_of_row hna.box 0
 have p1 := cell_of_row hna.box 1
 have zp := lt_of_block hna.box
 simp at g0 p0 p1
 have p0w := p0
 have p1w := p1
 have zpw := zp
 have m2 : Mod (fun _ => False) w ((w.alloc (.cells #[.int .u32 0, .bool false, .slice none 0 0, .slice none 0 0] 104)).alloc (.cells #[.int .u32 (id : Int), .bool false, .slice none 0 0, .slice none 0 0] 104)) := ((Mod.refl _ _).alloc _).alloc _
 have la := hp.nm.look m2 hid
 rw [hf] at la
 simp only [ptrN] at la
 clear hxm hna hp hL hid hf m2 hxi
 go_enter Tryz.func43, Tryz.ntmps43
 have HV0 : Hid (VxB w id (.slice none 0 0) (.slice none 0 0) [] [] ((w.alloc (.cells #[.int .u32 0, .bool false, .slice none 0 0, .slice none 0 0] 104)).alloc (.cells #[.int .u32 (id : Int), .bool true, .slice none 0 0, .slice none 0 0] 104))) := Lib.hid ⟨((Mod.refl _ _).alloc _).alloc _, heap_alloc_old (heap_alloc_new' w _), by
   have h := heap_alloc_new' (w.alloc (.cells #[.int .u32 0, .bool false, .slice none 0 0, .slice none 0 0] 104)) (.cells #[.int .u32 (id : Int), .bool true, .slice none 0 0, .slice none 0 0] 104)
   simpa using h, Seg.nil _ _ _, Seg.nil _ _ _, fun b hb => by simp [Value.ownBlock] at hb, fun b hb => by simp [Value.ownBlock] at hb⟩
 obtain ⟨W2, hW2⟩ : ∃ W2, W2 = ((w.alloc (.cells #[.int .u32 0, .bool false, .slice none 0 0, .slice none 0 0] 104)).alloc (.cells #[.int .u32 (id : Int), .bool true, .slice none 0 0, .slice none 0 0] 104)) := ⟨_, rfl⟩
 rw [← hW2] at HV0
 have HKP : Hid (Calls Tryz.prog 65 #[.func (.func 82) #[] #[.pointer (some ⟨W2.heap.size, 0, none⟩)]] (W2.alloc (.cells #[.map (some x.mp)] 140)) fun e w' => ∃ v, e = .returned v ∧ SegN8 W2 w' v (x.x.props.map Ent.key)) := Lib.hid (by
   have h := sortedKeysBy x.mp (pents x.x.props) W2 (HNA.out.props.keep HV0.out.mod) (by have := HVG.out.props_short; rw [pents_length]; omega)
   have e : (pents x.x.props).map (·.1) = x.x.props.map Ent.key := by simp [pents, entF, Function.comp_def]
   rw [e] at h
   exact h)
 have HKH : Hid (∀ w', Mod (fun _ => False) w w' → Calls Tryz.prog 63 #[.func (.func 83) #[] #[.pointer (some ⟨w'.heap.size, 0, none⟩)]] (w'.alloc (.cells #[.map (some x.me)] 141)) fun e w'' => ∃ v, e = .returned v ∧ SegN w' w'' v (x.x.halves.map Ent.key)) := Lib.hid (fun w' m => by
   have h := sortedKeysEd x.me (pents x.x.halves) w' (HNA.out.edges.keep m) (by have := HVG.out.few; rw [pents_length]; omega)
   have e : (pents x.x.halves).map (·.1) = x.x.halves.map Ent.key := by simp [pents, entF, Function.comp_def]
   rw [e] at h
   exact h)
 go_wp2_with fail
 rw [← hW2]
 clear hW2 la
 obtain ⟨np, hnp⟩ : ∃ np, np = x.x.props.length := ⟨_, rfl⟩
 have HNP := Lib.hid hnp
 obtain ⟨nh, hnh⟩ : ∃ nh, nh = x.x.halves.length := ⟨_, rfl⟩
 have HNH := Lib.hid hnh
 have hnp4 : np ≤ 4 := by have := HVG.out.props_short; omega
 have hnh16 : nh ≤ 16 := by have := HVG.out.few; omega
 clear hnp hnh
 go_wp2_with (first
   | (go_at_call 66; refine (keysBy (some x.mp) W2).mono ?_; (rintro e w1 ⟨rfl, rfl⟩))
   | (go_at_call 65; refine HKP.out.mono ?_; (rintro e w3 ⟨kv, rfl, hs⟩); have HV3 := Lib.hid (HV0.out.keep hs.mod); have HS3 : Hid (Seg w3 5 1 kv np ((x.x.props.map Ent.key).map (keyV .u8))) := Lib.hid (by have h := hs.seg; rw [List.length_map, ← HNP.out] at h; exact h); (obtain ⟨ak, ck, rfl, -⟩ := HS3.out.shape); clear hs))
 obtain ⟨i0, hi, hz0, hz1, hz2⟩ := info_parts infoProp
 have HI : Hid (Tryz.prog.info? 145 = some i0 ∧ i0.zero = some (.agg #[.int .u8 0, .int .u8 0, .int .i64 0, zval]) ∧ i0.size = 4 ∧ i0.bytes = 40) := ⟨hi, hz0, hz1, hz2⟩
 clear hi hz0 hz1 hz2
 go_loopw [39] (fun i wr => ∃ (j : Nat) (vp : Value), i = .int .i64 (j : Int) ∧ j ≤ np ∧ VxB w id vp (.slice none 0 0) (x.x.props.take j) [] wr ∧ Seg wr 5 1 (.slice ak np ck) np ((x.x.props.map Ent.key).map (keyV .u8))) (fun i _ => np - (intOf i).toNat)
 case atStart => exact ⟨0, _, rfl, Nat.zero_le _, HV3.out, HS3.out⟩
 case round =>
   obtain ⟨j, vp, rfl, hj, hvb, hks⟩ := hrel
   have HVB := Lib.hid hvb
   have HKS := Lib.hid hks
   obtain ⟨av, cv, hvv, -⟩ := hvb.props.shape
   subst hvv
   have hlj : (x.x.props.take j).length = j := by rw [List.length_take]; have := HNP.out; omega
   have HLJ := Lib.hid hlj
   rw [hlj] at hvb
   have g0 := hvb.mod.cell g0
   have p0 := hvb.mod.cell p0
   have p1 := hvb.mod.cell p1
   have zp : x.p < wr.heap.size := Nat.lt_of_lt_of_le zp hvb.mod.size
   have o0 := cell_of_row hvb.ob 0
   have o1 := cell_of_row hvb.ob 1
   have o2 := cell_of_row hvb.ob 2
   have o3 := cell_of_row hvb.ob 3
   have zo := lt_of_block hvb.ob
   simp [hlj] at o0 o1 o2 o3
   have hrs := hks.rdS
   clear hks hvb hlj HV3 HS3 HKP HV0
   by_cases hjn : j < np
   · obtain ⟨e, he⟩ : ∃ e, x.x.props[j]? = some e := ⟨_, List.getElem?_eq_getElem (by rw [← HNP.out]; exact hjn)⟩
     obtain ⟨bk, offk, ek, hbk, hck⟩ := hrs.cell _ _ rfl j (.int .u8 (e.key : Int)) (by rw [List.getElem?_map, List.getElem?_map, he]; rfl)
     subst ek
     have hem := List.mem_of_getElem? he
     have hek : e.key < 256 := by have := (HVG.out.props e hem).1; omega
     have lp := (HNA.out.mod HVB.out.mod (fun _ _ f => f)).prop (Mod.refl (fun _ => False) wr).drew hek
     rw [(entX_isSome HVG.out.prise).2 hem] at lp
     simp only [valO] at lp
     have HTK : Hid (x.x.props.take (j + 1) = x.x.props.take j ++ [e]) := Lib.hid (by
       obtain ⟨h1, h2⟩ := List.getElem?_eq_some_iff.1 he
       rw [List.take_succ_eq_append_getElem h1, h2])
     clear hrs he hem hek
     obtain ⟨ekey, ⟨evk, evn, evs⟩⟩ := e
     simp only at hck lp
     have HV6 := Lib.hid (HVB.out.keep ((Mod.refl (fun _ => False) wr).drew.alloc (.cells #[.int .u8 (ekey : Int), .int .u8 (evk : Int), .int .i64 evn, .string evs] 145)))
     have HK6 := Lib.hid (HKS.out.mod ((Mod.refl (fun _ => False) wr).drew.alloc (.cells #[.int .u8 (ekey : Int), .int .u8 (evk : Int), .int .i64 evn, .string evs] 145)) (fun _ _ f => f))
     have HSG6 : Hid (Seg ((wr.drew).alloc (.cells #[.int .u8 (ekey : Int), .int .u8 (evk : Int), .int .i64 evn, .string evs] 145)) 145 4 (.slice av j cv) j (cellsOf .u8 (x.x.props.take j))) := Lib.hid (by have h := HV6.out.props; rw [HLJ.out] at h; exact h)
     have HSR := Lib.hid (src_cells (w := wr.drew) rfl (size := 4) 145 #[.int .u8 (ekey : Int), .int .u8 (evk : Int), .int .i64 evn, .string evs] rfl (by simp [Value.oneCell']))
     have HFIN : Hid (∀ v3 w3, Seg w3 145 4 v3 (j + 1) (cellsOf .u8 (x.x.props.take j) ++ [.int .u8 (ekey : Int), .int .u8 (evk : Int), .int .i64 evn, .string evs]) → (wr.drew.alloc (.cells #[.int .u8 (ekey : Int), .int .u8 (evk : Int), .int .i64 evn, .string evs] 145)).grownBy w3 (Value.slice av j cv).ownBlock → (v3.ownBlock = (Value.slice av j cv).ownBlock ∨ v3.ownBlock = some (wr.drew.alloc (.cells #[.int .u8 (ekey : Int), .int .u8 (evk : Int), .int .i64 evn, .string evs] 145)).heap.size) →
         w3.heap[w.heap.size + 1]? = some (.cells #[.int .u32 (id : Int), .bool true, .slice av j cv, .slice none 0 0] 104 (0, 0)) ∧ VxB w id v3 (.slice none 0 0) (x.x.props.take (j + 1)) [] (w3.setCell ⟨w.heap.size + 1, 2, none⟩ v3) ∧ Seg (w3.setCell ⟨w.heap.size + 1, 2, none⟩ v3) 5 1 (.slice (some ⟨bk, offk, none⟩) np ck) np ((x.x.props.map Ent.key).map (keyV .u8))) := Lib.hid (fun v3 w3 hs3 hg3 ho3 => by
       have hV := HV6.out
       rw [HLJ.out] at hV
       obtain ⟨h1, h2⟩ := hV.prop (x := ⟨ekey, ⟨evk, evn, evs⟩⟩) (by rw [HLJ.out]; exact hs3) hg3 ho3
       rw [← HTK.out] at h2
       have mg := mod_grown hg3
       have k3 := HK6.out.mod mg (fun b hb e => by
         obtain ⟨cur, hc⟩ := seg_box HSG6.out e
         exact HK6.out.off_box hc (by decide) b hb rfl)
       have m7 : Mod (fun k => k = w.heap.size + 1) w3 (w3.setCell ⟨w.heap.size + 1, 2, none⟩ v3) := (Mod.refl (fun k => k = w.heap.size + 1) w3).setCell (p := ⟨w.heap.size + 1, 2, none⟩) (fun _ => rfl) v3
       exact ⟨h1, h2, k3.mod m7 (k3.off_box h1 (by decide))⟩)
     go_wp2_with fail
     go_region_law (first
       | (refine step_append_seg rfl (.tmp 44) (.tmp 53) 101 rfl i0 _ 4 40 Tryz.underlying101 HI.out.1 HI.out.2.1 HI.out.2.2.1 HI.out.2.2.2 rfl (by decide) rfl HSG6.out _ 1 _ rfl HSR.out (by unfold maxLen; omega) (by omega) ?_; intro v3 w3 hs3 hg3 ho3; have HF := Lib.hid (HFIN.out v3 w3 hs3 hg3 ho3); (obtain ⟨a3, c3, n3, rfl⟩ : ∃ a c n, v3 = .slice a n c := (by obtain ⟨a, c, e, _⟩ := hs3.shape; exact ⟨_, _, _, e⟩)); have y2 := cell_of_row HF.out.1 2; have y2f := free_of_row HF.out.1 2; have z3 := lt_of_block HF.out.1; simp at y2; clear hs3 hg3 ho3))
     all_goals
       go_wp2
       go_roundw
       case rel => exact ⟨j + 1, _, by go_num, by omega, HF.out.2.1, HF.out.2.2⟩
       case measure => simp [intOf]; omega
   · obtain rfl : j = np := by omega
     have HPA : Hid (x.x.props.take j = x.x.props) := Lib.hid (List.take_of_length_le (by have := HNP.out; omega))
     have HVQ : Hid (VxB w id (.slice av j cv) (.slice none 0 0) x.x.props [] wr) := Lib.hid (by have h := HVB.out; rw [HPA.out] at h; rw [← HNP.out] at h; exact h)
     clear hrs HI i0
     go_wp2_with (first
       | (go_at_call 67; refine (keysEd (some x.me) wr).mono ?_; (rintro e w1 ⟨rfl, rfl⟩))
       | (go_at_call 63; refine (HKH.out wr HVQ.out.mod).mono ?_; (rintro e w3 ⟨kv, rfl, hs⟩); have HV3 := Lib.hid (HVQ.out.keep hs.mod); have HS3 : Hid (Seg w3 32 1 kv nh ((x.x.halves.map Ent.key).map (keyV .u32))) := Lib.hid (by have h := hs.seg; rw [List.length_map, ← HNH.out] at h; exact h); (obtain ⟨ak2, ck2, rfl, -⟩ := HS3.out.shape); clear hs))
     clear g0 zg p0 p1 zp o0 o1 o2 o3 zo HVB HKS HVQ
     obtain ⟨i0, hi, hz0, hz1, hz2⟩ := info_parts infoHalf
     have HI : Hid (Tryz.prog.info? 112 = some i0 ∧ i0.zero = some (.agg #[.int .u32 0, .int .u8 0, .int .i64 0, zval]) ∧ i0.size = 4 ∧ i0.bytes = 40) := ⟨hi, hz0, hz1, hz2⟩
     clear hi hz0 hz1 hz2
     go_loopw [64] (fun i wr => ∃ (j' : Nat) (vh : Value), i = .int .i64 (j' : Int) ∧ j' ≤ nh ∧ VxB w id (.slice av j cv) vh x.x.props (x.x.halves.take j') wr ∧ Seg wr 32 1 (.slice ak2 nh ck2) nh ((x.x.halves.map Ent.key).map (keyV .u32))) (fun i _ => nh - (intOf i).toNat)
     case atStart => exact ⟨0, _, rfl, Nat.zero_le _, HV3.out, HS3.out⟩
     case round =>
       obtain ⟨j', vh, rfl, hj', hvb, hks⟩ := hrel
       have HVB := Lib.hid hvb
       have HKS := Lib.hid hks
       obtain ⟨av2, cv2, hvv, -⟩ := hvb.halves.shape
       subst hvv
       have hlj : (x.x.halves.take j').length = j' := by rw [List.length_take]; have := HNH.out; omega
       have HLJ := Lib.hid hlj
       rw [hlj] at hvb
       have p0 := hvb.mod.cell p0w
       have p1 := hvb.mod.cell p1w
       have zp : x.p < wr.heap.size := Nat.lt_of_lt_of_le zpw hvb.mod.size
       have o0 := cell_of_row hvb.ob 0
       have o1 := cell_of_row hvb.ob 1
       have o2 := cell_of_row hvb.ob 2
       have o3 := cell_of_row hvb.ob 3
       have zo := lt_of_block hvb.ob
       simp [hlj] at o0 o1 o2 o3
       have hrs := hks.rdS
       clear hks hvb hlj HV3 HS3
       by_cases hjn2 : j' < nh
       · obtain ⟨e, he⟩ : ∃ e, x.x.halves[j']? = some e := ⟨_, List.getElem?_eq_getElem (by rw [← HNH.out]; exact hjn2)⟩
         obtain ⟨bk, offk, ek, hbk, hck⟩ := hrs.cell _ _ rfl j' (.int .u32 (e.key : Int)) (by rw [List.getElem?_map, List.getElem?_map, he]; rfl)
         subst ek
         have hem := List.mem_of_getElem? he
         have hek : e.key < 4294967296 := by have := (HVG.out.halves e hem).2.1; omega
         have lp := (HNA.out.mod HVB.out.mod (fun _ _ f => f)).half (Mod.refl (fun _ => False) wr).drew hek
         rw [(entX_isSome HVG.out.hrise).2 hem] at lp
         simp only [valO] at lp
         have HTK : Hid (x.x.halves.take (j' + 1) = x.x.halves.take j' ++ [e]) := Lib.hid (by
           obtain ⟨h1, h2⟩ := List.getElem?_eq_some_iff.1 he
           rw [List.take_succ_eq_append_getElem h1, h2])
         clear hrs he hem hek
         obtain ⟨ekey, ⟨evk, evn, evs⟩⟩ := e
         simp only at hck lp
         have HV6 := Lib.hid (HVB.out.keep ((Mod.refl (fun _ => False) wr).drew.alloc (.cells #[.int .u32 (ekey : Int), .int .u8 (evk : Int), .int .i64 evn, .string evs] 112)))
         have HK6 := Lib.hid (HKS.out.mod ((Mod.refl (fun _ => False) wr).drew.alloc (.cells #[.int .u32 (ekey : Int), .int .u8 (evk : Int), .int .i64 evn, .string evs] 112)) (fun _ _ f => f))
         have HSG6 : Hid (Seg ((wr.drew).alloc (.cells #[.int .u32 (ekey : Int), .int .u8 (evk : Int), .int .i64 evn, .string evs] 112)) 112 4 (.slice av2 j' cv2) j' (cellsOf .u32 (x.x.halves.take j'))) := Lib.hid (by have h := HV6.out.halves; rw [HLJ.out] at h; exact h)
         have HSR := Lib.hid (src_cells (w := wr.drew) rfl (size := 4) 112 #[.int .u32 (ekey : Int), .int .u8 (evk : Int), .int .i64 evn, .string evs] rfl (by simp [Value.oneCell']))
         have HFIN : Hid (∀ v3 w3, Seg w3 112 4 v3 (j' + 1) (cellsOf .u32 (x.x.halves.take j') ++ [.int .u32 (ekey : Int), .int .u8 (evk : Int), .int .i64 evn, .string evs]) → (wr.drew.alloc (.cells #[.int .u32 (ekey : Int), .int .u8 (evk : Int), .int .i64 evn, .string evs] 112)).grownBy w3 (Value.slice av2 j' cv2).ownBlock → (v3.ownBlock = (Value.slice av2 j' cv2).ownBlock ∨ v3.ownBlock = some (wr.drew.alloc (.cells #[.int .u32 (ekey : Int), .int .u8 (evk : Int), .int .i64 evn, .string evs] 112)).heap.size) →
             w3.heap[w.heap.size + 1]? = some (.cells #[.int .u32 (id : Int), .bool true, .slice av j cv, .slice av2 j' cv2] 104 (0, 0)) ∧ VxB w id (.slice av j cv) v3 x.x.props (x.x.halves.take (j' + 1)) (w3.setCell ⟨w.heap.size + 1, 3, none⟩ v3) ∧ Seg (w3.setCell ⟨w.heap.size + 1, 3, none⟩ v3) 32 1 (.slice (some ⟨bk, offk, none⟩) nh ck2) nh ((x.x.halves.map Ent.key).map (keyV .u32))) := Lib.hid (fun v3 w3 hs3 hg3 ho3 => by
           have hV := HV6.out
           rw [HLJ.out] at hV
           obtain ⟨h1, h2⟩ := hV.half (x := ⟨ekey, ⟨evk, evn, evs⟩⟩) (by rw [HLJ.out]; exact hs3) hg3 ho3
           rw [← HTK.out] at h2
           have mg := mod_grown hg3
           have k3 := HK6.out.mod mg (fun b hb e => by
             obtain ⟨cur, hc⟩ := seg_box HSG6.out e
             exact HK6.out.off_box hc (by decide) b hb rfl)
           have m7 : Mod (fun k => k = w.heap.size + 1) w3 (w3.setCell ⟨w.heap.size + 1, 3, none⟩ v3) := (Mod.refl (fun k => k = w.heap.size + 1) w3).setCell (p := ⟨w.heap.size + 1, 3, none⟩) (fun _ => rfl) v3
           exact ⟨h1, h2, k3.mod m7 (k3.off_box h1 (by decide))⟩)
         go_wp2_with fail
         go_region_law (first
           | (refine step_append_seg rfl (.tmp 69) (.tmp 78) 102 rfl i0 _ 4 40 Tryz.underlying102 HI.out.1 HI.out.2.1 HI.out.2.2.1 HI.out.2.2.2 rfl (by decide) rfl HSG6.out _ 1 _ rfl HSR.out (by unfold maxLen; omega) (by omega) ?_; intro v3 w3 hs3 hg3 ho3; have HF := Lib.hid (HFIN.out v3 w3 hs3 hg3 ho3); (obtain ⟨a3, c3, n3, rfl⟩ : ∃ a c n, v3 = .slice a n c := (by obtain ⟨a, c, e, _⟩ := hs3.shape; exact ⟨_, _, _, e⟩)); have y2 := cell_of_row HF.out.1 3; have y2f := free_of_row HF.out.1 3; have z3 := lt_of_block HF.out.1; simp at y2; clear hs3 hg3 ho3))
         all_goals
           go_wp2
           go_roundw
           case rel => exact ⟨j' + 1, _, by go_num, by omega, HF.out.2.1, HF.out.2.2⟩
           case measure => simp [intOf]; omega
       · obtain rfl : j' = nh := by omega
         have HHA : Hid (x.x.halves.take j' = x.x.halves) := Lib.hid (List.take_of_length_le (by have := HNH.out; omega))
         have HVQ : Hid (VxB w id (.slice av j cv) (.slice av2 j' cv2) x.x.props x.x.halves wr) := Lib.hid (by have h := HVB.out; rw [HHA.out] at h; rw [← HNH.out] at h; exact h)
         have r0 := cell_of_row HVQ.out.rb 0
         have r1 := cell_of_row HVQ.out.rb 1
         have r2 := cell_of_row HVQ.out.rb 2
         have r3 := cell_of_row HVQ.out.rb 3
         have f0 := free_of_row HVQ.out.rb 0
         have f1 := free_of_row HVQ.out.rb 1
         have f2 := free_of_row HVQ.out.rb 2
         have f3 := free_of_row HVQ.out.rb 3
         have zr := lt_of_block HVQ.out.rb
         simp at r0 r1 r2 r3
         go_wp2
         refine bodyPost_ret (v := .agg #[.int .u32 (id : Int), .bool true, .slice av j cv, .slice av2 j' cv2]) (by simp [results, Tryz.results43, go_sem, r0, r1, r2, r3]) rfl ?_
         obtain ⟨hm, hv⟩ := HVQ.out.done (by have h := HNA.out.fit; rw [HXE.out] at h; exact h) (.int .u32 (id : Int)) (.bool true) (.slice av j cv) (.slice av2 j' cv2)
         refine ⟨.slice av j cv, .slice av2 j' cv2, ?_, hm, by rw [HXE.out]; exact hv⟩
         rw [HXE.out]
theorem gone_done {w wr : World} {id : Nat} (h : id < 4294967296) (m : Mod (fun _ => False) w wr) : Twins w ⟨id, false, [], []⟩ (.returned (.agg #[.int .u32 (id : Int), .bool false, .slice none 0 0, .slice none 0 0])) wr :=
 ⟨_, _, rfl, m, ⟨h, by simp, by simp⟩, Seg.nil _ _ _, Seg.nil _ _ _, fun b hb => by simp [Value.ownBlock] at hb, fun b hb => by simp [Value.ownBlock] at hb⟩
set_option maxRecDepth 100000 in
set_option maxHeartbeats 4000000 in
theorem vertex_none (g bm : Nat) (ns : List Node) (id : Nat) (w : World) (hp : PG w g bm ns) (hid : id < 4294967296) (hf : findN ns id = none):
   Calls Tryz.prog 43 #[.pointer (some ⟨g, 0, none⟩), .int .u32 (id : Int)] w (Twins w ⟨id, false, [], []⟩) := by
 have HID := Lib.hid hid
 obtain ⟨W2, hW2⟩ : ∃ W2, W2 = ((w.alloc (.cells #[.int .u32 0, .bool false, .slice none 0 0, .slice none 0 0] 104)).alloc (.cells #[.int .u32 (id : Int), .bool false, .slice none 0 0, .slice none 0 0] 104)) := ⟨_, rfl⟩
 have HM2 : Hid (Mod (fun _ => False) w W2) := Lib.hid (by rw [hW2]; exact ((Mod.refl _ _).alloc _).alloc _)
 have hrb : W2.heap[w.heap.size]? = some (.cells #[.int .u32 0, .bool false, .slice none 0 0, .slice none 0 0] 104 (0, 0)) := by rw [hW2]; exact heap_alloc_old (heap_alloc_new' w _)
 have g0 := cell_of_row hp.cell 0
 have zg := lt_of_block hp.cell
 simp at g0
 have la := hp.nm.look HM2.out hid
 rw [hf] at la
 simp only [ptrN] at la
 rw [hW2] at la
 clear hp hf
 clear hrb hid
 go_enter Tryz.func43, Tryz.ntmps43
 go_wp2
 refine bodyPost_ret (v := .agg #[.int .u32 (id : Int), .bool false, .slice none 0 0, .slice none 0 0]) (by simp [results, Tryz.results43, go_sem]) rfl ?_
 exact gone_done HID.out (((Mod.refl _ _).alloc _).alloc _)
def tellV (L : Gr) (id : Nat) : Vtx := (findV L id).getD ⟨id, false, [], []⟩
theorem gvertex_any (g bm : Nat) (ns : List Node) (id : Nat) (w : World) (hp : PG w g bm ns) (hL : Good (ns.map Node.x)) (hid : id < 4294967296) :
   Calls Tryz.prog 43 #[.pointer (some ⟨g, 0, none⟩), .int .u32 (id : Int)] w (Twins w (tellV (ns.map Node.x) id)) := by
 unfold tellV
 rw [findN_map]
 cases hf : findN ns id with
 | none => exact vertex_none g bm ns id w hp hid hf
 | some x => exact vertex_there g bm ns id w hp hL hid x hf
open Go.RowKit Go.Maps
set_option maxRecDepth 100000 in
set_option maxHeartbeats 2000000 in
theorem keysStopVx (Bm b : Nat) (es : Ents) (w : World) (hBm : Bm < w.heap.size) (hm : w.cell? ⟨Bm, 0, none⟩ = some (.map (some b))) (hU : UMap Tryz.prog 32 .u32 w b es) :
   SeqStops Fence.wide 4 Tryz.prog 79 #[.pointer (some ⟨Bm, 0, none⟩)] (keyV .u32) (fun ss => ss.Perm (es.map (·.1))) (fun _ => True) es.length w := by
 intro l J Jx W hW hJ _ hY h0
 have hm' : W.cell? ⟨Bm, 0, none⟩ = some (.map (some b)) := (hW.cell (p := ⟨Bm, 0, none⟩) hBm).trans hm
 have hown : W.ownsMap Tryz.prog 32 rawE b es.length (entsD .u32 es) := by
   have hbl := hU.lt
   obtain ⟨xs, clock, hb, Ft, hs, hD⟩ := hU.own
   exact ⟨xs, clock, (hW.block b hbl).trans hb, Ft, hs, hD⟩
 have hsz : Maps.size (entsD .u32 es) = es.length := entsD_size _ _
 have hri := UMap.rising hU (int_keyed Tryz.underlying32)
 refine callsIn_of_wp Tryz.func79 rfl trivial ?_ rfl
 simp only [Tryz.ntmps79, List.size_toArray, List.length_cons, List.length_nil, Nat.reduceAdd, Nat.reduceSub, Array.replicate_succ, Array.replicate_zero, List.push_toArray, List.append_toArray, List.nil_append, List.cons_append]
 have HRI := Lib.hid hri
 have HSZ := Lib.hid hsz
 have HU := Lib.hid hU
 have HW := Lib.hid hW
 clear hri hsz hm hU hW
 gi_wp2_with (first
   | (gi_at_range; refine wpListIn_range_own _ rfl _ 125 rfl 32 130 (int_keyed Tryz.underlying32) Tryz.underlying125 _ b es.length _ rfl hown ?_; intro w0 hrg0 hg0 hs0)
   | gi_in)
 go_frame
 gi_loopw [3] (fun _ wr => ∃ (left : Lit → Bool) (cnt : Nat) (ss : List Nat), wr.ranges Tryz.prog 32 rawE b W.heap.size es.length (entsD .u32 es) left cnt ∧ ss.length + cnt ≤ es.length ∧ CollU .u32 es left ss ∧ J ss wr)
   (fun _ wr => wr.rangeLeft b W.heap.size)
 case atStart =>
   exact ⟨_, _, [], hrg0, by rw [HSZ.out]; simp, CollU.start _ _, hJ [] W w0 none h0 hg0 (fun r e => by cases e)⟩
 case round =>
   obtain ⟨left, cnt, ss, hrg, hcs, hC, hJs⟩ := hrel
   gi_wp2_with (first
     | (gi_at_next; refine wpListIn_next_ranges _ rfl _ rfl 32 (int_keyed Tryz.underlying32) rawE (keyV .u32) id (fun key kl hk => by obtain ⟨x, hx, _⟩ := key_nat (by simp) Tryz.underlying32 hk; exact ⟨x, hx⟩) (fun v _ _ => ⟨v, rfl⟩) b W.heap.size es.length _ _ _ rfl hrg ?_ ?_)
     | gi_in)
   · intro hc0 hl0
     gi_wp2
     go_end0
     exact ⟨⟨_, rfl⟩, .inl ⟨ss, hC.perm HRI.out hl0, hJs⟩⟩
   · intro x c kl yd yp w2 cnt2 hkey hlk hv hat hrg2 hlt hg2 hs2 hen
     obtain ⟨x', ex, rfl, _⟩ := key_nat (by simp) Tryz.underlying32 hkey
     obtain rfl : x = x' := keyV_inj ex
     have hJ2 : J ss w2 := hJ ss wr w2 (some W.heap.size) hJs hg2 (fun r e => by cases e; exact ⟨Nat.le_refl _, hrg.iter_walk⟩)
     obtain ⟨fn, tmps, assign, body, hy, hR⟩ := hY ss x w2 hJ2 (by omega)
     clear hs2
     gi_wp2
     refine hR.mono ?_
     have hC2 := hC.step hlk hat
     rintro e W3 (⟨rfl, hJ3, hk3⟩ | ⟨rfl, hJx3⟩)
     · gi_wp2
       have hrg3 := hrg2.of_walks hk3
       go_roundw
       case rel => exact ⟨_, cnt2, ss ++ [x], hrg3, by simp; omega, hC2, hJ3⟩
       case measure => rw [hrg3.left_eq, hrg.left_eq]; exact hlt
     · gi_wp2
       refine bodyPost_ret (results_none rfl _ _ _) rfl ?_
       exact ⟨⟨_, rfl⟩, .inr ⟨ss ++ [x], trivial, hJx3⟩⟩
theorem keysVx (mb : Option Nat) (w : World) : Calls Tryz.prog 64 #[.map mb] w fun e w' => e = .returned (.func (.func 79) #[] #[.pointer (some ⟨w.heap.size, 0, none⟩)]) ∧ w' = w.alloc (.cells #[.map mb] 125) := by
 go_enter Tryz.func64, Tryz.ntmps64
 go_wp2
 go_ret
 exact ⟨rfl, rfl⟩
theorem sortedKeysVx (b : Nat) (es : Ents) (w : World) (hU : UMap Tryz.prog 32 .u32 w b es) (hl : es.length < 999999) :
   Calls Tryz.prog 63 #[.func (.func 79) #[] #[.pointer (some ⟨w.heap.size, 0, none⟩)]] (w.alloc (.cells #[.map (some b)] 125)) fun e w' => ∃ v, e = .returned v ∧ SegN w w' v (es.map (·.1)) := by
 have hri := UMap.rising hU (int_keyed Tryz.underlying32)
 refine (sorted_any _ _ (enters_of Tryz.func79 (by kernel_rfl) rfl) _ _ es.length hl (fun ss h => by rw [h.length_eq, List.length_map]; exact hl) _
   (keysStopVx w.heap.size b es _ (by simp) (by rw [cell_of_row (heap_alloc_new' w _)]; rfl) (hU.keep ((Mod.refl _ w).alloc _)))).mono ?_
 rintro e w' ⟨v, ss, ts, rfl, h1, h2, h3, h4⟩
 have e1 : ts = es.map (·.1) := rising_eq (by rw [List.pairwise_map]; exact hri) (h2.trans h1) h3
 subst e1
 exact ⟨v, rfl, h4.seg, fun k hk => by have := h4.own k hk; simp at this; omega, ((Mod.refl _ w).alloc _).trans h4.mod⟩
open Go.RowKit Go.Maps
set_option maxRecDepth 100000 in
set_option maxHeartbeats 2000000 in
theorem list_any (g bm : Nat) (ns : List Node) (w : World) (hp : PG w g bm ns) (hL : Good (ns.map Node.x)) :
   Calls Tryz.prog 42 #[.pointer (some ⟨g, 0, none⟩)] w fun e w' => ∃ v, e = .returned v ∧ SegN w w' v ((ns.map Node.x).map Vtx.id) := by
 have hlen : (ns.map Node.f).length < 999999 := by
   have := hL.short
   rw [List.length_map] at this ⊢
   omega
 have hK := sortedKeysVx bm (ns.map Node.f) w hp.nm.map hlen
 have e : (ns.map Node.f).map (·.1) = (ns.map Node.x).map Vtx.id := by simp [Node.f, Function.comp_def]
 rw [e] at hK
 have HK := Lib.hid hK
 have g0 := cell_of_row hp.cell 0
 have zg := lt_of_block hp.cell
 simp at g0
 clear hp hL hlen hK e
 go_enter Tryz.func42, Tryz.ntmps42
 go_wp2_with (first
   | (go_at_call 64; refine (keysVx (some bm) w).mono ?_; (rintro e w1 ⟨rfl, rfl⟩))
   | (go_at_call 63; refine HK.out.mono ?_; (rintro e w2 ⟨v, rfl, hs⟩); have HS := Lib.hid hs; clear hs))
 go_ret
 exact ⟨_, rfl, HS.out⟩
open Go.RowKit Go.Maps
theorem new_pg (w : World) : Calls Tryz.prog 40 #[] w fun e w' => e = .returned (.pointer (some ⟨w.heap.size + 1, 0, none⟩)) ∧ Mod (fun _ => False) w w' ∧ PG w' (w.heap.size + 1) w.heap.size [] ∧ w.heap.size + 1 < w'.heap.size := by
 refine (new_any w).mono ?_
 rintro e w' ⟨rfl, m, h⟩
 refine ⟨rfl, m, ⟨h.cell, ⟨h.map, fun _ h => by simp at h, fun _ h => by simp at h, fun _ h => by simp at h, fun _ h => by simp at h⟩, ?_⟩, lt_of_block h.cell⟩
 rintro (e | ⟨n, hn, _⟩)
 · omega
 · simp at hn
open Go.RowKit Go.Maps
section
variable {w wx wy : World} {g1 h1 n1 g2 h2 n2 : Nat} {H1 H2 H' : Names} {m m' : Nat}
end
section
variable {w wx wy : World} {o : Array Value} {g1 h1 n1 g2 h2 n2 : Nat} {H1 H2 H' : Names} {m m' : Nat}
end
def gone (id : Nat) : Vtx := ⟨id, false, [], []⟩
end Go.Proofs.YtpigipgoopeeoaaGreatDoor
