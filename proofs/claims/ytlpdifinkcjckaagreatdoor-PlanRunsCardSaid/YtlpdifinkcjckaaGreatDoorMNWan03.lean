import Derived.Test.YtlpdifinkcjckaaGreatDoorMNWan01
set_option linter.unusedVariables false
set_option linter.unusedSimpArgs false
namespace Go.Proofs.YtlpdifinkcjckaaGreatDoor
open Go.RowKit Go.Maps
def grpL (ws : List Wt) (os : List Nat) (n : Nat) : List Wt := ((ws.zip os).filter fun p => p.2 == n).map Prod.fst
theorem grpL_snoc {ws : List Wt} {os : List Nat} {k : Nat} {x : Wt} {o : Nat} (hx : ws[k]? = some x) (ho : os[k]? = some o) (n : Nat) : grpL (ws.take (k + 1)) (os.take (k + 1)) n = grpL (ws.take k) (os.take k) n ++ (if o = n then [x] else []) := by
 obtain ⟨h1, h2⟩ := List.getElem?_eq_some_iff.1 hx
 obtain ⟨h3, h4⟩ := List.getElem?_eq_some_iff.1 ho
 unfold grpL
 rw [List.take_succ_eq_append_getElem h1, h2, List.take_succ_eq_append_getElem h3, h4, List.zip_append (by rw [List.length_take, List.length_take]; omega), List.filter_append, List.map_append]
 congr 1
 by_cases e : o = n <;> simp [e]
structure GwAt (w : World) (b : Nat) (gs : List (Value × List Wt)) (wr : World) : Prop where
 mod : Mod (fun _ => False) w wr
 box : wr.heap[b]? = some (.cells (gs.map Prod.fst).toArray 37 (0, 0))
 seg : ∀ g ∈ gs, Seg wr 43 2 g.1 g.2.length (g.2.flatMap wtC)
 new : ∀ g ∈ gs, ∀ c, g.1.ownBlock = some c → w.heap.size ≤ c
 apart : ∀ (i j : Nat) (g h : Value × List Wt), gs[i]? = some g → gs[j]? = some h → i ≠ j → ∀ c, g.1.ownBlock = some c → h.1.ownBlock ≠ some c
 lo : w.heap.size ≤ b
theorem GwAt.keep {w wr wx : World} {b : Nat} {gs : List (Value × List Wt)} (h : GwAt w b gs wr) (m : Mod (fun _ => False) wr wx) : GwAt w b gs wx :=
 ⟨h.mod.trans m, m.heap h.box (fun f => f), fun g hg => (h.seg g hg).mod m (fun _ _ f => f), h.new, h.apart, h.lo⟩
theorem GwAt.off {w wr : World} {b : Nat} {gs : List (Value × List Wt)} (h : GwAt w b gs wr) {g : Value × List Wt} (hg : g ∈ gs) : g.1.ownBlock ≠ some b := fun hb => by
 obtain ⟨cur, hc⟩ := eseg_box (h.seg g hg) hb
 rw [h.box] at hc
 injection hc with hc
 injection hc with _ hc _
 exact absurd hc (by decide)
theorem GwAt.next {w wr w5 w7 : World} {b o : Nat} {gs : List (Value × List Wt)} {g : Value × List Wt} {x : Wt} {v7 : Value} (h : GwAt w b gs wr) (m : Mod (fun _ => False) wr w5) (hg : gs[o]? = some g) {n : Nat} (hn : n = g.2.length)
   (hs : Seg w7 43 2 v7 (n + 1) (g.2.flatMap wtC ++ [.int .u32 (x.1 : Int), .int .u8 (x.2 : Int)])) (hgr : w5.grownBy w7 g.1.ownBlock) (ho : v7.ownBlock = g.1.ownBlock ∨ v7.ownBlock = some w5.heap.size) :
   Mod (fun _ => False) w w7 ∧ w7.heap[b]? = some (.cells (gs.map Prod.fst).toArray 37 (0, 0)) ∧ GwAt w b (gs.set o (v7, g.2 ++ [x])) (w7.setCell ⟨b, o, none⟩ v7) := by
 subst hn
 have h5 := h.keep m
 have hgm := List.mem_of_getElem? hg
 have mg := mod_grown hgr
 have hb7 : w7.heap[b]? = some (.cells (gs.map Prod.fst).toArray 37 (0, 0)) := mg.heap h5.box (fun e => h5.off hgm e)
 have m8 : Mod (fun k => k = b) w7 (w7.setCell ⟨b, o, none⟩ v7) := (Mod.refl (fun k => k = b) w7).setCell (p := ⟨b, o, none⟩) (fun _ => rfl) v7
 have hlt : o < gs.length := (List.getElem?_eq_some_iff.1 hg).1
 have hown : ∀ c, v7.ownBlock = some c → g.1.ownBlock = some c ∨ c = w5.heap.size := fun c hc => by
   rcases ho with e | e
   · exact .inl (e ▸ hc)
   · rw [e] at hc; injection hc with hc; exact .inr hc.symm
 have hs7b : v7.ownBlock ≠ some b := fun e => by
   obtain ⟨cur, hc⟩ := eseg_box hs e
   rw [hb7] at hc
   injection hc with hc
   injection hc with _ hc _
   exact absurd hc (by decide)
 have old7 : ∀ j f, gs[j]? = some f → j ≠ o → Seg w7 43 2 f.1 f.2.length (f.2.flatMap wtC) := fun j f hf hj =>
   (h5.seg f (List.mem_of_getElem? hf)).mod mg (fun c hc e => h5.apart j o f g hf hg hj c hc e)
 have set_at : ∀ j f, (gs.set o (v7, g.2 ++ [x]))[j]? = some f → (j = o ∧ f = (v7, g.2 ++ [x])) ∨ (j ≠ o ∧ gs[j]? = some f) := fun j f hf => by
   rw [List.getElem?_set] at hf
   by_cases e : o = j
   · rw [if_pos e, if_pos hlt] at hf
     exact .inl ⟨e.symm, (Option.some.inj hf).symm⟩
   · rw [if_neg e] at hf
     exact .inr ⟨fun e' => e e'.symm, hf⟩
 have hm7 : Mod (fun _ => False) w w7 := h5.mod.grown hgr (fun c hc hlt => by have := h5.new g hgm c hc; omega)
 refine ⟨hm7, hb7, ⟨?_, ?_, fun f hf => ?_, fun f hf c hc => ?_, fun i j f k hf hk hne c hc => ?_, h.lo⟩⟩
 · exact hm7.trans' m8 (fun i hi e => by have := h.lo; omega)
 · have := row_setCell hb7 o v7
   rw [this]
   congr 2
   apply Array.ext'
   simp [List.map_set]
 · obtain ⟨j, hj⟩ := List.getElem?_of_mem hf
   rcases set_at j f hj with ⟨_, rfl⟩ | ⟨hj2, hf2⟩
   · have h1 := hs.mod m8 (fun c hc e => hs7b (e ▸ hc))
     rw [List.length_append, List.flatMap_append]
     simpa [wtC] using h1
   · exact (old7 j f hf2 hj2).mod m8 (fun c hc e => h5.off (List.mem_of_getElem? hf2) (e ▸ hc))
 · obtain ⟨j, hj⟩ := List.getElem?_of_mem hf
   rcases set_at j f hj with ⟨_, rfl⟩ | ⟨_, hf2⟩
   · rcases hown c hc with e | e
     · exact h.new g hgm c e
     · have := h5.mod.size; omega
   · exact h.new f (List.mem_of_getElem? hf2) c hc
 · rcases set_at i f hf with ⟨rfl, rfl⟩ | ⟨hi, hf2⟩
   · rcases set_at j k hk with ⟨rfl, _⟩ | ⟨hj, hk2⟩
     · exact absurd rfl hne
     · rcases hown c hc with e | e
       · exact h.apart i j g k hg hk2 hne c e
       · intro hk3
         have := (h5.seg k (List.mem_of_getElem? hk2)).lt c hk3
         omega
   · rcases set_at j k hk with ⟨rfl, rfl⟩ | ⟨hj, hk2⟩
     · intro hk3
       rcases hown c hk3 with e | e
       · exact h.apart j i g f hg hf2 (Ne.symm hne) c e hc
       · have := (h5.seg f (List.mem_of_getElem? hf2)).lt c hc
         omega
     · exact h.apart i j f k hf2 hk2 hne c hc
def GrP (ws : List Wt) (os : List Nat) (w : World) (e : Ending) (w' : World) : Prop :=
 Mod (fun _ => False) w w' ∧ ((∃ o ∈ os, 4 ≤ o) → e = .returned (.tuple #[.slice none 0 0, .int .i64 1])) ∧ ((∀ o ∈ os, o < 4) → os.length ≠ ws.length → e = .returned (.tuple #[.slice none 0 0, .int .i64 3])) ∧
 ((∀ o ∈ os, o < 4) → os.length = ws.length → ∃ b v0 v1 v2 v3, e = .returned (.tuple #[.slice (some ⟨b, 0, none⟩) 4 4, .int .i64 0]) ∧ w'.heap[b]? = some (.cells #[v0, v1, v2, v3] 37 (0, 0)) ∧ WRd w' v0 (grpL ws os 0) ∧ WRd w' v1 (grpL ws os 1) ∧ WRd w' v2 (grpL ws os 2) ∧ WRd w' v3 (grpL ws os 3))
theorem grpL_sub {ws : List Wt} {os : List Nat} {n : Nat} {x : Wt} (h : x ∈ grpL ws os n) : x ∈ ws := by
 unfold grpL at h
 obtain ⟨p, hp, rfl⟩ := List.mem_map.1 h
 exact (List.of_mem_zip (List.mem_filter.1 hp).1).1
theorem mk4_wants (w : World) : (Instr.makeSlice 76 (.int .i64 4) (.int .i64 4)).run Tryz.prog w = .ok (.slice (some ⟨w.heap.size, 0, none⟩) 4 4) (w.alloc (.cells #[.slice none 0 0, .slice none 0 0, .slice none 0 0, .slice none 0 0] 37)) := by kernel_rfl
set_option maxRecDepth 100000 in
set_option maxHeartbeats 8000000 in
theorem groups_any (ws : List Wt) (os : List Nat) (wv ov : Value) (w : World) (hw : WRd w wv ws) (ho : RdS w 1 ov os.length (os.map (keyV .u8))) (hl : ws.length ≤ 1000) :
   Calls Tryz.prog 30 #[wv, ov] w (GrP ws os w) := by
 have HW := Lib.hid hw
 obtain ⟨aw, cw, rfl, hcw, hcw2, -⟩ := hw.row.shape
 obtain ⟨ao, co, rfl, hco, hco2, -⟩ := ho.shape
 obtain ⟨n, hnn⟩ : ∃ n, n = ws.length := ⟨_, rfl⟩
 obtain ⟨no, hno⟩ : ∃ n, n = os.length := ⟨_, rfl⟩
 have HN := Lib.hid hnn
 have HNO := Lib.hid hno
 have HO := Lib.hid ho
 rw [← hnn] at HW hcw hl ⊢
 rw [← hno] at HO hco ⊢
 obtain ⟨i0, hi, hz0, hz1, hz2⟩ := info_parts infoWant
 have HI : Hid (Tryz.prog.info? 43 = some i0 ∧ i0.zero = some (.agg #[.int .u32 0, .int .u8 0]) ∧ i0.size = 2 ∧ i0.bytes = 8) := ⟨hi, hz0, hz1, hz2⟩
 clear hi hz0 hz1 hz2 hw ho hnn hno
 go_enter Tryz.func30, Tryz.ntmps30
 go_wp2
 go_loopw [13] (fun i wr => ∃ k : Nat, i = .int .i64 (k : Int) ∧ k ≤ no ∧ (∀ o ∈ os.take k, o < 4) ∧ wr = w) (fun i _ => no - (intOf i).toNat)
 case atStart => exact ⟨0, rfl, Nat.zero_le _, by simp, rfl⟩
 case round =>
   obtain ⟨k, rfl, hk, hlow, rfl⟩ := hrel
   have HLOW := Lib.hid hlow
   clear hlow
   by_cases hkn : k < no
   · obtain ⟨o, hx⟩ : ∃ o, os[k]? = some o := ⟨_, List.getElem?_eq_getElem (by rw [← HNO.out]; exact hkn)⟩
     obtain ⟨bo, offo, eo, hbo, q0⟩ := HO.out.cell _ _ rfl k (.int .u8 (o : Int)) (by rw [List.getElem?_map, hx]; rfl)
     subst eo
     have HOM := Lib.hid (List.mem_of_getElem? hx)
     have HTK : Hid (os.take (k + 1) = os.take k ++ [o]) := Lib.hid (by
       obtain ⟨h1, h2⟩ := List.getElem?_eq_some_iff.1 hx
       rw [List.take_succ_eq_append_getElem h1, h2])
     clear hx
     by_cases ho4 : 4 ≤ o
     · have ho4i : (4 : Int) ≤ (o : Int) := by omega
       go_wp2
       go_ret2
       exact ⟨Mod.refl _ _, fun _ => rfl, fun h => by have := h o HOM.out; omega, fun h => by have := h o HOM.out; omega⟩
     · have ho4i : ¬ (4 : Int) ≤ (o : Int) := by omega
       go_wp2
       go_roundw
       case rel => exact ⟨k + 1, by go_num, by omega, fun y hy => by
         rw [HTK.out] at hy
         rcases List.mem_append.1 hy with hy | hy
         · exact HLOW.out y hy
         · rw [List.mem_singleton] at hy; omega, by first | rfl | trivial⟩
       case measure => simp [intOf]; omega
   · have HLO4 : Hid (∀ o ∈ os, o < 4) := Lib.hid (by
       have h := HLOW.out
       rwa [List.take_of_length_le (by have := HNO.out; omega)] at h)
     have HNE : Hid (¬ ∃ o ∈ os, 4 ≤ o) := Lib.hid (fun ⟨o, h1, h2⟩ => by have := HLO4.out o h1; omega)
     obtain ⟨wa, rfl⟩ : ∃ wa : World, wa = wr := ⟨_, rfl⟩
     by_cases hnn : no = n
     rotate_left
     · have hnn1 : ((no : Int) == (n : Int)) = false := by simp; omega
       have hnn2 : ¬ (no : Int) = (n : Int) := by omega
       have HNQ : Hid (os.length ≠ ws.length) := Lib.hid (by rw [← HN.out, ← HNO.out]; exact hnn)
       clear hnn
       go_wp2
       go_ret2
       exact ⟨Mod.refl _ _, fun h => absurd h HNE.out, fun _ _ => rfl, fun _ h => absurd h HNQ.out⟩
     · subst hnn
       have HEQ : Hid (os.length = ws.length) := Lib.hid (by rw [← HN.out, ← HNO.out])
       have HG0 : Hid (GwAt wa wa.heap.size [(.slice none 0 0, []), (.slice none 0 0, []), (.slice none 0 0, []), (.slice none 0 0, [])] (wa.alloc (.cells #[.slice none 0 0, .slice none 0 0, .slice none 0 0, .slice none 0 0] 37))) := Lib.hid (by
         have h0 : ∀ g ∈ [((.slice none 0 0 : Value), ([] : List Wt)), (.slice none 0 0, []), (.slice none 0 0, []), (.slice none 0 0, [])], g = (.slice none 0 0, []) := by intro g hg; simpa using hg
         refine ⟨(Mod.refl _ _).alloc _, heap_alloc_new' _ _, fun g hg => ?_, fun g hg c hc => ?_, fun i j g h hg hh hne c hc => ?_, Nat.le_refl _⟩
         · rw [h0 g hg]; exact Seg.nil _ _ _
         · rw [h0 g hg] at hc; simp [Value.ownBlock] at hc
         · rw [h0 g (List.mem_of_getElem? hg)] at hc; simp [Value.ownBlock] at hc)
       obtain ⟨b, hb⟩ : ∃ b, b = wa.heap.size := ⟨_, rfl⟩
       have hmk := mk4_wants wa
       go_upto_region 10 with fail
       clear hmk
       rw [← hb] at HG0 ⊢
       clear hb HLOW
       go_wp2_with fail
       go_loopw [28] (fun i wr => ∃ (k : Nat) (gs : List (Value × List Wt)), i = .int .i64 (k : Int) ∧ k ≤ no ∧ GwAt wa b gs wr ∧ gs.length = 4 ∧ (∀ (j : Nat) (g : Value × List Wt), gs[j]? = some g → g.2 = grpL (ws.take k) (os.take k) j ∧ g.2.length ≤ k)) (fun i _ => no - (intOf i).toNat)
       case atStart => exact ⟨0, _, rfl, Nat.zero_le _, HG0.out, rfl, fun j g hg => by
         match j, hg with
         | 0, hg => obtain rfl := Option.some.inj hg; exact ⟨rfl, Nat.le_refl _⟩
         | 1, hg => obtain rfl := Option.some.inj hg; exact ⟨rfl, Nat.le_refl _⟩
         | 2, hg => obtain rfl := Option.some.inj hg; exact ⟨rfl, Nat.le_refl _⟩
         | 3, hg => obtain rfl := Option.some.inj hg; exact ⟨rfl, Nat.le_refl _⟩⟩
       case round =>
         obtain ⟨k2, gs, rfl, hk2, hgw, hg4, hgl⟩ := hrel
         have HGW := Lib.hid hgw
         have HG4 := Lib.hid hg4
         have HGL := Lib.hid hgl
         clear hgw hg4 hgl HG0
         by_cases hkn2 : k2 < no
         · obtain ⟨o, hx⟩ : ∃ o, os[k2]? = some o := ⟨_, List.getElem?_eq_getElem (by rw [← HNO.out]; exact hkn2)⟩
           obtain ⟨x, hy⟩ : ∃ x, ws[k2]? = some x := ⟨_, List.getElem?_eq_getElem (by rw [← HN.out]; exact hkn2)⟩
           obtain ⟨bo, offo, eo, hbo, q0⟩ := HO.out.cell _ _ rfl k2 (.int .u8 (o : Int)) (by rw [List.getElem?_map, hx]; rfl)
           obtain ⟨bx, offx, ex, hbx, r0, r1⟩ := HW.out.ent hy rfl
           have ho4 : o < 4 := HLO4.out o (List.mem_of_getElem? hx)
           have ho4i : (o : Int) < 4 := by omega
           have ho0i : (0 : Int) ≤ (o : Int) := by omega
           obtain ⟨g, hg⟩ : ∃ g, gs[o]? = some g := ⟨_, List.getElem?_eq_getElem (by rw [HG4.out]; exact ho4)⟩
           have HGO := Lib.hid hg
           have HGS := Lib.hid (grpL_snoc hy hx)
           obtain ⟨hgg, hgk⟩ := HGL.out o g hg
           have HGG := Lib.hid hgg
           have HQ0 := Lib.hid (And.intro q0 hbo)
           replace q0 := HGW.out.mod.cell q0
           replace r0 := HGW.out.mod.cell r0
           replace r1 := HGW.out.mod.cell r1
           have zbo : bo < wr.heap.size := Nat.lt_of_lt_of_le hbo HGW.out.mod.size
           have zbx : bx < wr.heap.size := Nat.lt_of_lt_of_le hbx HGW.out.mod.size
           have zb : b < wr.heap.size := lt_of_block HGW.out.box
           have hcb := cell_of_row HGW.out.box o
           have hgm : ((gs.map Prod.fst).toArray)[o]? = some g.1 := by simp [hg]
           rw [hgm] at hcb
           obtain ⟨ag, cg, eg, -⟩ := (HGW.out.seg g (List.mem_of_getElem? hg)).shape
           obtain ⟨ng, hng⟩ : ∃ n, n = g.2.length := ⟨_, rfl⟩
           have HNG := Lib.hid hng
           subst eo ex
           rw [← hng] at eg hgk
           have HSGQ : Hid (Seg wr 43 2 g.1 ng (g.2.flatMap wtC)) := Lib.hid (by rw [hng]; exact HGW.out.seg g (List.mem_of_getElem? hg))
           clear hx hy hbo hbx hg hgg hgm hng
           obtain ⟨gv, gl⟩ := g
           obtain ⟨xv, xm⟩ := x
           simp only at eg r0 r1 HGO HGG HNG HSGQ hcb
           subst eg
           obtain ⟨W2, hW2⟩ : ∃ W, W = wr.alloc (.cells #[.int .u32 (xv : Int), .int .u8 (xm : Int)] 43) := ⟨_, rfl⟩
           have HM2 : Hid (Mod (fun _ => False) wr W2) := Lib.hid (by rw [hW2]; exact (Mod.refl _ _).alloc _)
           have HB2 : Hid (W2.heap[wr.heap.size]? = some (.cells #[.int .u32 (xv : Int), .int .u8 (xm : Int)] 43 (0, 0))) := Lib.hid (by rw [hW2]; exact heap_alloc_new' _ _)
           go_upto_region 13 with fail
           rw [← hW2]
           clear hW2 r0 r1 zbx
           replace q0 := HM2.out.cell q0
           replace hcb := HM2.out.cell hcb
           replace zbo : bo < W2.heap.size := Nat.lt_of_lt_of_le zbo HM2.out.size
           replace zb : b < W2.heap.size := Nat.lt_of_lt_of_le zb HM2.out.size
           have d0 := cell_of_row HB2.out 0
           have d1 := cell_of_row HB2.out 1
           have zd := lt_of_block HB2.out
           simp at d0 d1
           have HM3 : Hid (Mod (fun _ => False) wr (W2.alloc (.cells #[.int .u32 (xv : Int), .int .u8 (xm : Int)] 43)).drew) := Lib.hid (HM2.out.alloc _).drew
           have HSG3 : Hid (Seg (W2.alloc (.cells #[.int .u32 (xv : Int), .int .u8 (xm : Int)] 43)).drew 43 2 (.slice ag ng cg) ng (gl.flatMap wtC)) := Lib.hid (HSGQ.out.mod HM3.out (fun _ _ f => f))
           have HSR3 : Hid (Src (W2.alloc (.cells #[.int .u32 (xv : Int), .int .u8 (xm : Int)] 43)).drew 2 (.slice (some ⟨W2.heap.size, 0, none⟩) 1 1) 1 [.int .u32 (xv : Int), .int .u8 (xm : Int)]) := Lib.hid (src_cells (w := W2) rfl (size := 2) 43 #[.int .u32 (xv : Int), .int .u8 (xm : Int)] rfl (by simp [Value.oneCell']))
           have HNX : Hid (∀ v7 w7, Seg w7 43 2 v7 (ng + 1) (gl.flatMap wtC ++ [.int .u32 (xv : Int), .int .u8 (xm : Int)]) → (W2.alloc (.cells #[.int .u32 (xv : Int), .int .u8 (xm : Int)] 43)).drew.grownBy w7 (Value.slice ag ng cg).ownBlock → (v7.ownBlock = (Value.slice ag ng cg).ownBlock ∨ v7.ownBlock = some (W2.alloc (.cells #[.int .u32 (xv : Int), .int .u8 (xm : Int)] 43)).drew.heap.size) →
             (w7.cell? ⟨b, o, none⟩ = some (.slice ag ng cg) ∧ w7.frozen? ⟨b, o, none⟩ = false ∧ b < w7.heap.size) ∧ (w7.cell? ⟨bo, offo + k2, none⟩ = some (.int .u8 (o : Int)) ∧ bo < w7.heap.size) ∧ GwAt wa b (gs.set o (v7, gl ++ [(xv, xm)])) (w7.setCell ⟨b, o, none⟩ v7)) := Lib.hid (fun v7 w7 h1 h2 h3 => by
               obtain ⟨e0, e1, e2⟩ := HGW.out.next HM3.out HGO.out HNG.out h1 h2 h3 (x := (xv, xm))
               refine ⟨⟨?_, free_of_row e1 o, lt_of_block e1⟩, ⟨e0.cell HQ0.out.1, Nat.lt_of_lt_of_le HQ0.out.2 e0.size⟩, e2⟩
               rw [cell_of_row e1 o]
               simp [HGO.out])
           go_wp2_with fail
           go_region_law (first
             | (go_loud (refine step_append_seg rfl (.tmp 44) (.tmp 46) 37 rfl i0 _ 2 8 Tryz.underlying37 HI.out.1 HI.out.2.1 HI.out.2.2.1 HI.out.2.2.2 rfl (by decide) rfl HSG3.out _ 1 _ rfl HSR3.out (by unfold maxLen; omega) (by omega) ?_; intro v7 w7 hs7 hg7 ho7; (obtain ⟨⟨hx1, hx2, hx3⟩, ⟨hx5, hx6⟩, hx4⟩ := HNX.out v7 w7 hs7 hg7 ho7); have HX := Lib.hid hx4; (obtain ⟨a7, c7, rfl, -⟩ := hs7.shape); clear hs7 hg7 ho7 hx4)))
           all_goals
             go_wp2
             go_roundw
             case rel => exact ⟨k2 + 1, gs.set o (.slice a7 (ng + 1) c7, gl ++ [(xv, xm)]), by go_num, by omega, HX.out, by rw [List.length_set]; exact HG4.out, fun j f hf => by
               rw [List.getElem?_set] at hf
               have h4 := HG4.out
               by_cases e : o = j
               · rw [if_pos e, if_pos (by omega)] at hf
                 obtain rfl := Option.some.inj hf
                 refine ⟨?_, by have h5 := HNG.out; simp only [List.length_append, List.length_singleton]; omega⟩
                 rw [HGS.out j, if_pos e]
                 subst e
                 exact congrArg (· ++ [(xv, xm)]) HGG.out
               · rw [if_neg e] at hf
                 obtain ⟨h6, h7⟩ := HGL.out j f hf
                 exact ⟨by rw [HGS.out j, if_neg e, List.append_nil]; exact h6, by omega⟩⟩
             case measure => simp [intOf]; omega
         · have HT1 : Hid (ws.take k2 = ws) := Lib.hid (List.take_of_length_le (by have := HN.out; omega))
           have HT2 : Hid (os.take k2 = os) := Lib.hid (List.take_of_length_le (by have := HNO.out; omega))
           go_wp2
           go_ret2
           refine ⟨HGW.out.mod, fun h => absurd h HNE.out, fun _ h => absurd HEQ.out h, fun _ _ => ?_⟩
           have h4 := HG4.out
           match gs, h4, HGW.out, HGL.out with
           | [g0, g1, g2, g3], _, hgw, hgl =>
             have wr_of : ∀ j g, [g0, g1, g2, g3][j]? = some g → WRd wr g.1 (grpL ws os j) := fun j g hg => by
               obtain ⟨h1, -⟩ := hgl j g hg
               rw [HT1.out, HT2.out] at h1
               rw [← h1]
               refine ⟨(hgw.seg g (List.mem_of_getElem? hg)).rdS, fun y hy => ?_⟩
               rw [h1] at hy
               exact HW.out.fits y (grpL_sub hy)
             exact ⟨b, g0.1, g1.1, g2.1, g3.1, rfl, hgw.box, wr_of 0 g0 rfl, wr_of 1 g1 rfl, wr_of 2 g2 rfl, wr_of 3 g3 rfl⟩
open Go.RowKit
structure RqB (w : World) (o o' : Array Value) (wr : World) : Prop where
 mod : Mod (fun _ => False) w wr
 one : wr.heap[w.heap.size]? = some (.cells o 29 (0, 0))
 two : wr.heap[w.heap.size + 1]? = some (.cells o' 29 (0, 0))
theorem RqB.keep {w wr wx : World} {o o' : Array Value} (h : RqB w o o' wr) (m : Mod (fun _ => False) wr wx) : RqB w o o' wx := ⟨h.mod.trans m, m.heap h.one (fun f => f), m.heap h.two (fun f => f)⟩
theorem RqB.start (w : World) (o o' : Array Value) : RqB w o o' ((w.alloc (.cells o 29)).alloc (.cells o' 29)) :=
 ⟨((Mod.refl _ w).alloc _).alloc _, heap_alloc_old (heap_alloc_new' w _), by have := heap_alloc_new' (w.alloc (.cells o 29)) (.cells o' 29); simpa using this⟩
set_option maxRecDepth 100000 in
set_option maxHeartbeats 4000000 in
theorem reqsame_yes (r : Rqt) (vo vo' : Value) (w : World) (ho : ORd w vo r.ops) (ho' : ORd w vo' r.ops) :
   Calls Tryz.prog 24 #[rqV r vo, rqV r vo'] w fun e w' => e = .returned (.bool true) ∧ Mod (fun _ => False) w w' := by
 obtain ⟨kind, ops, v, k, d⟩ := r
 obtain ⟨a, c, rfl, hc1, hc2, -⟩ := ho.row.shape
 obtain ⟨a', c', rfl, hc1', hc2', -⟩ := ho'.row.shape
 have HO := Lib.hid ho
 have HO' := Lib.hid ho'
 obtain ⟨n, hn⟩ : ∃ n, n = ops.length := ⟨_, rfl⟩
 have HN := Lib.hid hn
 simp only [rqV, ← hn] at HO HO' hc1 hc1' ⊢
 have HB0 := Lib.hid (RqB.start w #[.int .u8 (kind : Int), .slice a n c, .int .u32 (v : Int), .int .i64 k, .int .i64 d] #[.int .u8 (kind : Int), .slice a' n c', .int .u32 (v : Int), .int .i64 k, .int .i64 d])
 clear ho ho' hn
 go_enter Tryz.func24, Tryz.ntmps24
 go_wp2
 go_loopw [44] (fun i wr => ∃ j : Nat, i = .int .i64 (j : Int) ∧ j ≤ n ∧ RqB w #[.int .u8 (kind : Int), .slice a n c, .int .u32 (v : Int), .int .i64 k, .int .i64 d] #[.int .u8 (kind : Int), .slice a' n c', .int .u32 (v : Int), .int .i64 k, .int .i64 d] wr) (fun i _ => n - (intOf i).toNat)
 case atStart => exact ⟨0, rfl, Nat.zero_le _, HB0.out⟩
 case round =>
   obtain ⟨j, rfl, hj, hm⟩ := hrel
   have HM := Lib.hid hm
   clear hm HB0
   by_cases hjn : j < n
   · obtain ⟨x, hx⟩ : ∃ x, ops[j]? = some x := ⟨_, List.getElem?_eq_getElem (by rw [← HN.out]; exact hjn)⟩
     obtain ⟨b, off, e1, hb, p0, p1, p2, p3, p4, p5, p6⟩ := HO.out.ent hx rfl
     obtain ⟨b', off', e2, hb', q0, q1, q2, q3, q4, q5, q6⟩ := HO'.out.ent hx rfl
     have d0 := cell_of_row HM.out.one 1
     have d1 := cell_of_row HM.out.two 1
     simp at d0 d1
     subst e1 e2
     have p0 : ∀ x : MW wr, x.w.cell? _ = some _ := fun x => x.cell (HM.out.mod.cell p0)
     have p1 : ∀ x : MW wr, x.w.cell? _ = some _ := fun x => x.cell (HM.out.mod.cell p1)
     have p2 : ∀ x : MW wr, x.w.cell? _ = some _ := fun x => x.cell (HM.out.mod.cell p2)
     have p3 : ∀ x : MW wr, x.w.cell? _ = some _ := fun x => x.cell (HM.out.mod.cell p3)
     have p4 : ∀ x : MW wr, x.w.cell? _ = some _ := fun x => x.cell (HM.out.mod.cell p4)
     have p5 : ∀ x : MW wr, x.w.cell? _ = some _ := fun x => x.cell (HM.out.mod.cell p5)
     have p6 : ∀ x : MW wr, x.w.cell? _ = some _ := fun x => x.cell (HM.out.mod.cell p6)
     have q0 : ∀ x : MW wr, x.w.cell? _ = some _ := fun x => x.cell (HM.out.mod.cell q0)
     have q1 : ∀ x : MW wr, x.w.cell? _ = some _ := fun x => x.cell (HM.out.mod.cell q1)
     have q2 : ∀ x : MW wr, x.w.cell? _ = some _ := fun x => x.cell (HM.out.mod.cell q2)
     have q3 : ∀ x : MW wr, x.w.cell? _ = some _ := fun x => x.cell (HM.out.mod.cell q3)
     have q4 : ∀ x : MW wr, x.w.cell? _ = some _ := fun x => x.cell (HM.out.mod.cell q4)
     have q5 : ∀ x : MW wr, x.w.cell? _ = some _ := fun x => x.cell (HM.out.mod.cell q5)
     have q6 : ∀ x : MW wr, x.w.cell? _ = some _ := fun x => x.cell (HM.out.mod.cell q6)
     have d0 : ∀ x : MW wr, x.w.cell? _ = some _ := fun x => x.cell d0
     have d1 : ∀ x : MW wr, x.w.cell? _ = some _ := fun x => x.cell d1
     clear hx hb hb'
     obtain ⟨ok, oa, ob, okey, ⟨vk, vn, vs⟩⟩ := x
     simp only at p0 p1 p2 p3 p4 p5 p6 q0 q1 q2 q3 q4 q5 q6
     go_wp2_with fail
     refine wp_region_quietM (by kernel_rfl) (by kernel_rfl) ?_
     repeat (go_big_quiet_step (fail))
     refine wpQuiet_nil ?_
     intro w3 hm3
     have M3 := Lib.hid (HM.out.keep (MW.mod_of hm3))
     clear hm3 p0 p1 p2 p3 p4 p5 p6 q0 q1 q2 q3 q4 q5 q6 d0 d1
     go_wp2
     go_roundw
     case rel => exact ⟨j + 1, by go_num, by omega, M3.out⟩
     case measure => simp [intOf]; omega
   · go_wp2
     go_ret
     exact ⟨rfl, HM.out.mod⟩
end Go.Proofs.YtlpdifinkcjckaaGreatDoor
