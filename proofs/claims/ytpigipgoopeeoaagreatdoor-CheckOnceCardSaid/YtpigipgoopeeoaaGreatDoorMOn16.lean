import Derived.Test.YtpigipgoopeeoaaGreatDoorMOn15
import Derived.Shelf.SlMaps.Clone
set_option linter.unusedVariables false
set_option linter.unusedSimpArgs false
namespace Go.Proofs.YtpigipgoopeeoaaGreatDoor
open Go.RowKit Go.Maps
def Cloned (P : Program) (kt : TypeId) (q : IntKind) (es : Ents) (w : World) (e : Ending) (w' : World) : Prop :=
 ∃ c, e = .returned (.map (some c)) ∧ w.heap.size ≤ c ∧ Mod (fun _ => False) w w' ∧ UMap P kt q w' c es
theorem UMap.cloned {P : Program} {kt : TypeId} {q : IntKind} {w : World} {b : Nat} {es : Ents} (h : UMap P kt q w b es) : ∃ xs clock, w.heap[b]? = some (.map xs clock) ∧ UMap P kt q (w.alloc (.map xs clock)) w.heap.size es := by
 obtain ⟨xs, clock, hb, F, hn, hD⟩ := h.own
 exact ⟨xs, clock, hb, ⟨xs, clock, heap_alloc_new' _ _, F, hn, hD⟩⟩
set_option maxRecDepth 100000 in
theorem clone8_any (b : Nat) (es : Ents) (w : World) (h : UMap Tryz.prog 5 .u8 w b es) :
   Calls Tryz.prog 85 #[.map (some b)] w (Cloned Tryz.prog 5 .u8 es w) := by
 obtain ⟨xs, clock, hb, hU⟩ := h.cloned
 have HU := Lib.hid hU
 have x1 := @run_callFunc_extern Tryz.prog 98 _ Extern.MapsClone.clone Tryz.func98 (by kernel_rfl) (by kernel_rfl) (by kernel_rfl) (by kernel_rfl)
 have x2 := run_maps_clone_sl (P := Tryz.prog) w 140 hb
 have x3 := fun w => run_eql_map_nil_sl (P := Tryz.prog) w 140 _ _ (some b) Tryz.underlying140
 have x4 := fun (w : World) (v : Value) => run_typeAssert_map_sl (P := Tryz.prog) w 140 20 _ _ v Tryz.underlying140
 clear h hb hU
 go_enter Tryz.func85, Tryz.ntmps85
 go_wp2
 go_ret
 exact ⟨_, rfl, Nat.le_refl _, (Mod.refl _ _).alloc _, HU.out⟩
set_option maxRecDepth 100000 in
theorem clone32_any (b : Nat) (es : Ents) (w : World) (h : UMap Tryz.prog 32 .u32 w b es) :
   Calls Tryz.prog 86 #[.map (some b)] w (Cloned Tryz.prog 32 .u32 es w) := by
 obtain ⟨xs, clock, hb, hU⟩ := h.cloned
 have HU := Lib.hid hU
 have x1 := @run_callFunc_extern Tryz.prog 98 _ Extern.MapsClone.clone Tryz.func98 (by kernel_rfl) (by kernel_rfl) (by kernel_rfl) (by kernel_rfl)
 have x2 := run_maps_clone_sl (P := Tryz.prog) w 141 hb
 have x3 := fun w => run_eql_map_nil_sl (P := Tryz.prog) w 141 _ _ (some b) Tryz.underlying141
 have x4 := fun (w : World) (v : Value) => run_typeAssert_map_sl (P := Tryz.prog) w 141 20 _ _ v Tryz.underlying141
 clear h hb hU
 go_enter Tryz.func86, Tryz.ntmps86
 go_wp2
 go_ret
 exact ⟨_, rfl, Nat.le_refl _, (Mod.refl _ _).alloc _, HU.out⟩
structure Cps (w : World) (L : Gr) (p : Nat → Bool) (bw : Nat) (cs : List Node) (wr : World) : Prop where
 mod : Mod (fun _ => False) w wr
 nm : NM wr bw cs
 is : cs.map Node.x = L.filter fun x => p x.id
 new : ∀ b, FootN bw cs b → w.heap.size ≤ b
theorem Cps.keep {w wr wx : World} {L : Gr} {p : Nat → Bool} {bw : Nat} {cs : List Node} (h : Cps w L p bw cs wr) (m : Mod (fun _ => False) wr wx) : Cps w L p bw cs wx := ⟨h.mod.trans m, h.nm.keep m, h.is, h.new⟩
theorem Cps.len {w wr : World} {L : Gr} {p : Nat → Bool} {bw : Nat} {cs : List Node} (h : Cps w L p bw cs wr) : cs.length ≤ L.length := by
 have := congrArg List.length h.is
 rw [List.length_map] at this
 rw [this]; exact List.length_filter_le _ _
theorem Cps.add {w wr wl w7 : World} {L : Gr} {p p' : Nat → Bool} {bw : Nat} {cs : List Node} (h : Cps w L p bw cs wr) (hL : Rising Vtx.id L) {x : Vtx} (hx : x ∈ L) (hp : ∀ k, p' k = (p k || x.id == k)) {a c8 c32 : Nat} (m : Mod (fun _ => False) wr wl) (hM : Mod (fun i => i = bw) wl w7)
   (hU : UMap Tryz.prog 32 .u32 w7 bw (putL x.id (.pointer (some ⟨a, 0, none⟩)) (cs.map Node.f))) (hn : NAt wl ⟨x, a, c8, c32⟩) (h0 : wr.heap.size ≤ a ∧ wr.heap.size ≤ c8 ∧ wr.heap.size ≤ c32) (ho : a ≠ c8 ∧ a ≠ c32 ∧ c8 ≠ c32) : ∃ cs', Cps w L p' bw cs' w7 := by
 have hlt := h.nm.lt
 have hbw := hlt bw (.inl rfl)
 have hbl : ∀ b ∈ (⟨x, a, c8, c32⟩ : Node).blocks, wr.heap.size ≤ b := by
   intro b hb
   rcases Node.in_blocks.1 hb with rfl | rfl | rfl
   · exact h0.1
   · exact h0.2.1
   · exact h0.2.2
 refine ⟨layG keyN ⟨x, a, c8, c32⟩ false cs, (h.mod.trans m).trans' hM (fun i hi e => by have := h.new bw (.inl rfl); omega), (h.nm.keep m).add (n := ⟨x, a, c8, c32⟩) hM hU (hn.mod hM (fun b hb e => by have := hbl b hb; omega)) (fun b hb f => by have := hbl b hb; have := hlt b f; omega) ho, ?_, fun b hb => ?_⟩
 · rw [lay_mapN, h.is, filter_more hL hx p]
   apply List.filter_congr
   intro y _
   rw [hp]
 · rcases footN_lay h.nm.rising hb with f | f
   · exact h.new b f
   · exact Nat.le_trans h.mod.size (hbl b f)
theorem Cps.skip {w wr : World} {L : Gr} {p p' : Nat → Bool} {bw : Nat} {cs : List Node} (h : Cps w L p bw cs wr) {v : Nat} (hv : findV L v = none) (hp : ∀ k, p' k = (p k || v == k)) : Cps w L p' bw cs wr :=
 ⟨h.mod, h.nm, by rw [h.is, ← filter_none hv p]; apply List.filter_congr; intro y _; rw [hp], h.new⟩
open Go.RowKit Go.Maps
theorem Cps.doneA {w wr w8 w32 w7 wb : World} {L : Gr} {p p' : Nat → Bool} {bw : Nat} {cs : List Node} (h : Cps w L p bw cs wr) (hL : Rising Vtx.id L) {x : Vtx} (hx : x ∈ L) (hfit : x.Fits) (hp : ∀ k, p' k = (p k || x.id == k)) {c8 c32 : Nat}
   (h8 : Mod (fun _ => False) wr w8 ∧ wr.heap.size ≤ c8 ∧ Mod (fun _ => False) wb w8 ∧ wb.heap.size ≤ c8 ∧ UMap Tryz.prog 5 .u8 w8 c8 (pents x.props))
   (h32 : Mod (fun _ => False) wr w32 ∧ wr.heap.size ≤ c32 ∧ Mod (fun _ => False) w8 w32 ∧ w8.heap.size ≤ c32 ∧ UMap Tryz.prog 32 .u32 w32 c32 (pents x.halves))
   (hU : UMap Tryz.prog 32 .u32 w7 bw (putL x.id (.pointer (some ⟨w32.heap.size, 0, none⟩)) (cs.map Node.f)) ∧ Mod (fun i => i = bw) (w32.alloc (.cells #[.map (some c8), .map (some c32)] 143)) w7) : ∃ cs', Cps w L p' bw cs' w7 ∧ Mod (fun i => i = bw) wr w7 := by
 have u8 := (h8.2.2.2.2.keep h32.2.2.1).keep ((Mod.refl (fun _ => False) w32).alloc (.cells #[.map (some c8), .map (some c32)] 143))
 have u32 := h32.2.2.2.2.keep ((Mod.refl (fun _ => False) w32).alloc (.cells #[.map (some c8), .map (some c32)] 143))
 have l8 := h8.2.2.2.2.lt
 have l8' := (h8.2.2.2.2.keep h32.2.2.1).lt
 have l32 := h32.2.2.2.2.lt
 have s := h32.1.size
 have hm := h32.1.alloc (.cells #[.map (some c8), .map (some c32)] 143)
 obtain ⟨cs', hc⟩ := h.add hL hx hp hm hU.2 hU.1 ⟨heap_alloc_new' _ _, u8, u32, hfit⟩ ⟨s, h8.2.1, h32.2.1⟩ ⟨by omega, by omega, by have := h32.2.2.2.1; omega⟩
 exact ⟨cs', hc, (hm.mono (fun _ _ f => f.elim)).trans hU.2⟩
theorem Cps.doneB {w wr w8 w32 w7 wb : World} {L : Gr} {p p' : Nat → Bool} {bw : Nat} {cs : List Node} (h : Cps w L p bw cs wr) (hL : Rising Vtx.id L) {x : Vtx} (hx : x ∈ L) (hfit : x.Fits) (hp : ∀ k, p' k = (p k || x.id == k)) {c8 c32 : Nat}
   (h8 : Mod (fun _ => False) wr w8 ∧ wr.heap.size ≤ c8 ∧ Mod (fun _ => False) w32 w8 ∧ w32.heap.size ≤ c8 ∧ UMap Tryz.prog 5 .u8 w8 c8 (pents x.props))
   (h32 : Mod (fun _ => False) wr w32 ∧ wr.heap.size ≤ c32 ∧ Mod (fun _ => False) wb w32 ∧ wb.heap.size ≤ c32 ∧ UMap Tryz.prog 32 .u32 w32 c32 (pents x.halves))
   (hU : UMap Tryz.prog 32 .u32 w7 bw (putL x.id (.pointer (some ⟨w8.heap.size, 0, none⟩)) (cs.map Node.f)) ∧ Mod (fun i => i = bw) (w8.alloc (.cells #[.map (some c8), .map (some c32)] 143)) w7) : ∃ cs', Cps w L p' bw cs' w7 ∧ Mod (fun i => i = bw) wr w7 := by
 have u8 := h8.2.2.2.2.keep ((Mod.refl (fun _ => False) w8).alloc (.cells #[.map (some c8), .map (some c32)] 143))
 have u32 := (h32.2.2.2.2.keep h8.2.2.1).keep ((Mod.refl (fun _ => False) w8).alloc (.cells #[.map (some c8), .map (some c32)] 143))
 have l8 := h8.2.2.2.2.lt
 have l32' := (h32.2.2.2.2.keep h8.2.2.1).lt
 have l32 := h32.2.2.2.2.lt
 have s := h8.1.size
 have hm := h8.1.alloc (.cells #[.map (some c8), .map (some c32)] 143)
 obtain ⟨cs', hc⟩ := h.add hL hx hp hm hU.2 hU.1 ⟨heap_alloc_new' _ _, u8, u32, hfit⟩ ⟨s, h8.2.1, h32.2.1⟩ ⟨by omega, by omega, by have := h8.2.2.2.1; omega⟩
 exact ⟨cs', hc, (hm.mono (fun _ _ f => f.elim)).trans hU.2⟩
set_option maxRecDepth 100000 in
set_option maxHeartbeats 4000000 in
theorem copied_any (ops : List Opr) (vo : Value) (g bm : Nat) (ns : List Node) (w : World) (hp : PG w g bm ns) (hL : Good (ns.map Node.x)) (ho : ORd w vo ops) :
   Calls Tryz.prog 71 #[.pointer (some ⟨g, 0, none⟩), vo] w fun e w' => ∃ bw cs, e = .returned (.map (some bw)) ∧ Cps w (ns.map Node.x) (namedB ops) bw cs w' := by
 have HP := Lib.hid hp
 have HL := Lib.hid hL
 have HV := Lib.hid ho
 have HS : Hid (Cps w (ns.map Node.x) (fun _ => false) w.heap.size [] (w.alloc (.map #[] 0))) := Lib.hid ⟨(Mod.refl _ _).alloc _, NM.made w, by simp, fun b hb => by rcases hb with rfl | ⟨n, hn, _⟩; exact Nat.le_refl _; simp at hn⟩
 obtain ⟨a, c, rfl, hc1, hc2, -⟩ := ho.row.shape
 have g0 := cell_of_row hp.cell 0
 have zg := lt_of_block hp.cell
 simp at g0
 obtain ⟨m, hm⟩ : ∃ m, m = ops.length := ⟨_, rfl⟩
 have HN := Lib.hid hm
 rw [← hm] at HV hc1 ⊢
 have hmm := @run_makeMap Tryz.prog
 clear hm ho hp hL
 go_enter Tryz.func71, Tryz.ntmps71
 go_wp2
 generalize w.heap.size = bw at HS ⊢
 go_loopw [14] (fun i wr => ∃ (j : Nat) (cs : List Node), i = .int .i64 j ∧ j ≤ m ∧ Cps w (ns.map Node.x) (namedB (ops.take j)) bw cs wr) (fun i _ => m - (intOf i).toNat)
 case atStart => exact ⟨0, [], rfl, Nat.zero_le _, by rw [List.take_zero, namedB_nil]; exact HS.out⟩
 case round =>
   obtain ⟨wo, hwo⟩ : ∃ wo : World, wo = wr := ⟨_, rfl⟩
   subst hwo
   obtain ⟨i, cs, rfl, hj, hcps⟩ := hrel
   have HC := Lib.hid hcps
   clear hcps
   have g0 := HC.out.mod.cell g0
   have zg : g < wo.heap.size := Nat.lt_of_lt_of_le zg HC.out.mod.size
   by_cases hjn : i < m
   · obtain ⟨x, hx⟩ : ∃ x, ops[i]? = some x := ⟨_, List.getElem?_eq_getElem (by rw [← HN.out]; exact hjn)⟩
     obtain ⟨bl, offl, e0, hbl, r0, r1, r2, r3, r4, r5, r6⟩ := HV.out.ent hx rfl
     have r0 := HC.out.mod.cell r0
     have r1 := HC.out.mod.cell r1
     have r2 := HC.out.mod.cell r2
     have r3 := HC.out.mod.cell r3
     have r4 := HC.out.mod.cell r4
     have r5 := HC.out.mod.cell r5
     have r6 := HC.out.mod.cell r6
     have zbl : bl < wo.heap.size := Nat.lt_of_lt_of_le hbl HC.out.mod.size
     have HNX := Lib.hid (namedB_next hx)
     have HFO := Lib.hid (HV.out.fits x (List.mem_of_getElem? hx))
     clear hx hbl
     obtain ⟨kind, oa, ob, okey, ⟨vk, vn, vs⟩⟩ := x
     simp only at r0 r1 r2 r3 r4 r5 r6 HNX
     subst e0
     have HBW := Lib.hid (HC.out.nm.map.lt)
     go_wp2
     obtain ⟨W1, hW1⟩ : ∃ W1, W1 = (wo.alloc (.cells #[.int .u8 (kind : Int), .int .u32 (oa : Int), .int .u32 (ob : Int), .int .u8 (okey : Int), .int .u8 (vk : Int), .int .i64 vn, .string vs] 79)).alloc (.cells #[.int .u32 (oa : Int), .int .u32 (ob : Int)] 32) := ⟨_, rfl⟩
     have hm01 : Mod (fun _ => False) wo W1 := by rw [hW1]; exact ((Mod.refl _ _).alloc _).alloc _
     have hbx : W1.heap[wo.heap.size + 1]? = some (.cells #[.int .u32 (oa : Int), .int .u32 (ob : Int)] 32 (0, 0)) := by rw [hW1]; have h := heap_alloc_new' (wo.alloc (.cells #[.int .u8 (kind : Int), .int .u32 (oa : Int), .int .u32 (ob : Int), .int .u8 (okey : Int), .int .u8 (vk : Int), .int .i64 vn, .string vs] 79)) (.cells #[.int .u32 (oa : Int), .int .u32 (ob : Int)] 32); simpa using h
     have HBX := Lib.hid hbx
     have HS2 := Lib.hid (HC.out.keep hm01)
     have HNE : Hid (wo.heap.size + 1 ≠ bw) := Lib.hid (by have := HBW.out; omega)
     generalize wo.heap.size + 1 = ba at *
     rw [← hW1]
     clear hW1 hm01 hbx r0 r1 r2 r3 r4 r5 r6 zbl g0 zg
     go_loopw [24] (fun i' wr2 => ∃ (j : Nat) (cs2 : List Node), i' = .int .i64 j ∧ j ≤ 2 ∧ Cps w (ns.map Node.x) (namedTo (ops.take i) [oa, ob] j) bw cs2 wr2 ∧ Mod (fun i => i = bw) W1 wr2) (fun i' _ => 2 - (intOf i').toNat)
     case atStart => exact ⟨0, cs, rfl, Nat.zero_le _, by rw [namedTo_zero]; exact HS2.out, Mod.refl _ _⟩
     case round =>
       obtain ⟨j, cs2, rfl, hj2, hcps2, hm2⟩ := hrel
       have HC2 := Lib.hid hcps2
       have HM2 := Lib.hid hm2
       have hbx2 := hm2.heap HBX.out HNE.out
       have y0 := cell_of_row hbx2 0
       have y1 := cell_of_row hbx2 1
       have zy := lt_of_block hbx2
       have hgc := HP.out.cell
       have hgc2 := HC2.out.mod.heap hgc (fun f => f)
       have g0 := cell_of_row hgc2 0
       have zg := lt_of_block hgc2
       simp at y0 y1 g0
       clear hcps2 hm2 hbx2 hgc hgc2
       have hjc : j = 0 ∨ j = 1 ∨ j = 2 := by omega
       clear hj2
       rcases hjc with rfl | rfl | rfl
       · have HNT := Lib.hid (namedTo_succ (ops := ops.take i) (ids := [oa, ob]) (j := 0) (i := oa) rfl)
         have la := HP.out.nm.look HC2.out.mod (v := oa) HFO.out.a
         cases hf : findN ns oa with
         | none =>
           rw [hf] at la
           simp only [ptrN] at la
           have HR := Lib.hid (HC2.out.skip (v := oa) (p' := namedTo (ops.take i) [oa, ob] 1) (by rw [findN_map, hf]; rfl) HNT.out)
           clear hf
           go_wp2
           go_roundw
           case rel => exact ⟨1, cs2, by go_num, by omega, HR.out, HM2.out⟩
           case measure => simp [intOf]
         | some n =>
           rw [hf] at la
           simp only [ptrN] at la
           obtain ⟨hnm, hni⟩ := findN_mem hf
           have HIN := Lib.hid (And.intro hnm hni)
           have hna := (HP.out.nm.each n hnm).mod HC2.out.mod (fun _ _ f => f)
           have HNA := Lib.hid hna
           have b0 := cell_of_row hna.box 0
           have b1 := cell_of_row hna.box 1
           have zb := lt_of_block hna.box
           simp at b0 b1
           have hlen : (cs2.map Node.f).length < maxLen := by
             have h1 := HC2.out.len
             have h2 := HL.out.short
             rw [List.length_map]
             unfold maxLen; omega
           have HLEN := Lib.hid hlen
           have hbw := HC2.out.nm.map.lt
           clear hf hnm hni hna hlen
           go_wp2_with fail
           go_region_law (first
             | (go_simp; go_at_call 85; have hm0 : Mod (fun _ => False) wr _ := (by first | exact HM32.out.1 | exact (Mod.refl _ wr).drew); refine (clone8_any n.mp (pents n.x.props) _ (HNA.out.props.keep hm0)).mono ?_; (rintro e w8 ⟨c8, rfl, h1, h2, h3⟩); have HM8 := Lib.hid (And.intro (hm0.trans h2) (And.intro (Nat.le_trans hm0.size h1) (And.intro h2 (And.intro h1 h3)))); have p0 := HM8.out.1.cell b0; have p1 := HM8.out.1.cell b1; have z8 : n.p < w8.heap.size := Nat.lt_of_lt_of_le zb HM8.out.1.size; clear hm0 h1 h2 h3; try (guard_hyp c8 : Nat; guard_hyp c32 : Nat; obtain ⟨w7, hrun, hU, hM⟩ := (HC2.out.nm.map.keep (HM8.out.1.alloc (.cells #[.map (some c8), .map (some c32)] 143))).store Tryz.underlying32 Tryz.underlying125 HLEN.out (u32key HFO.out.a) (.pointer (some ⟨w8.heap.size, 0, none⟩)); have HU := Lib.hid (And.intro hU hM); clear hU hM))
             | (go_simp; go_at_call 86; have hm0 : Mod (fun _ => False) wr _ := (by first | exact HM8.out.1 | exact (Mod.refl _ wr).drew); refine (clone32_any n.me (pents n.x.halves) _ (HNA.out.edges.keep hm0)).mono ?_; (rintro e w32 ⟨c32, rfl, h1, h2, h3⟩); have HM32 := Lib.hid (And.intro (hm0.trans h2) (And.intro (Nat.le_trans hm0.size h1) (And.intro h2 (And.intro h1 h3)))); have q0 := HM32.out.1.cell b0; have q1 := HM32.out.1.cell b1; have z32 : n.p < w32.heap.size := Nat.lt_of_lt_of_le zb HM32.out.1.size; clear hm0 h1 h2 h3; try (guard_hyp c8 : Nat; guard_hyp c32 : Nat; obtain ⟨w7, hrun, hU, hM⟩ := (HC2.out.nm.map.keep (HM32.out.1.alloc (.cells #[.map (some c8), .map (some c32)] 143))).store Tryz.underlying32 Tryz.underlying125 HLEN.out (u32key HFO.out.a) (.pointer (some ⟨w32.heap.size, 0, none⟩)); have HU := Lib.hid (And.intro hU hM); clear hU hM)))
           all_goals
             have HR : Hid (∃ cs', Cps w (ns.map Node.x) (namedTo (ops.take i) [oa, ob] 1) bw cs' w7 ∧ Mod (fun i => i = bw) wr w7) := Lib.hid (by
               first
                 | exact HC2.out.doneA HL.out.rise (List.mem_map_of_mem HIN.out.1) (HNA.out.fit) (by rw [HIN.out.2]; exact HNT.out) HM8.out HM32.out (by have := HU.out; rw [HIN.out.2]; exact this)
                 | exact HC2.out.doneB HL.out.rise (List.mem_map_of_mem HIN.out.1) (HNA.out.fit) (by rw [HIN.out.2]; exact HNT.out) HM8.out HM32.out (by have := HU.out; rw [HIN.out.2]; exact this))
             go_wp2
             go_roundw
             case rel =>
               obtain ⟨cs', h1, h2⟩ := HR.out
               exact ⟨1, cs', by go_num, by omega, h1, HM2.out.trans h2⟩
             case measure => simp [intOf]
       · have HNT := Lib.hid (namedTo_succ (ops := ops.take i) (ids := [oa, ob]) (j := 1) (i := ob) rfl)
         have la := HP.out.nm.look HC2.out.mod (v := ob) HFO.out.b
         cases hf : findN ns ob with
         | none =>
           rw [hf] at la
           simp only [ptrN] at la
           have HR := Lib.hid (HC2.out.skip (v := ob) (p' := namedTo (ops.take i) [oa, ob] 2) (by rw [findN_map, hf]; rfl) HNT.out)
           clear hf
           go_wp2
           go_roundw
           case rel => exact ⟨2, cs2, by go_num, by omega, HR.out, HM2.out⟩
           case measure => simp [intOf]
         | some n =>
           rw [hf] at la
           simp only [ptrN] at la
           obtain ⟨hnm, hni⟩ := findN_mem hf
           have HIN := Lib.hid (And.intro hnm hni)
           have hna := (HP.out.nm.each n hnm).mod HC2.out.mod (fun _ _ f => f)
           have HNA := Lib.hid hna
           have b0 := cell_of_row hna.box 0
           have b1 := cell_of_row hna.box 1
           have zb := lt_of_block hna.box
           simp at b0 b1
           have hlen : (cs2.map Node.f).length < maxLen := by
             have h1 := HC2.out.len
             have h2 := HL.out.short
             rw [List.length_map]
             unfold maxLen; omega
           have HLEN := Lib.hid hlen
           have hbw := HC2.out.nm.map.lt
           clear hf hnm hni hna hlen
           go_wp2_with fail
           go_region_law (first
             | (go_simp; go_at_call 85; have hm0 : Mod (fun _ => False) wr _ := (by first | exact HM32.out.1 | exact (Mod.refl _ wr).drew); refine (clone8_any n.mp (pents n.x.props) _ (HNA.out.props.keep hm0)).mono ?_; (rintro e w8 ⟨c8, rfl, h1, h2, h3⟩); have HM8 := Lib.hid (And.intro (hm0.trans h2) (And.intro (Nat.le_trans hm0.size h1) (And.intro h2 (And.intro h1 h3)))); have p0 := HM8.out.1.cell b0; have p1 := HM8.out.1.cell b1; have z8 : n.p < w8.heap.size := Nat.lt_of_lt_of_le zb HM8.out.1.size; clear hm0 h1 h2 h3; try (guard_hyp c8 : Nat; guard_hyp c32 : Nat; obtain ⟨w7, hrun, hU, hM⟩ := (HC2.out.nm.map.keep (HM8.out.1.alloc (.cells #[.map (some c8), .map (some c32)] 143))).store Tryz.underlying32 Tryz.underlying125 HLEN.out (u32key HFO.out.b) (.pointer (some ⟨w8.heap.size, 0, none⟩)); have HU := Lib.hid (And.intro hU hM); clear hU hM))
             | (go_simp; go_at_call 86; have hm0 : Mod (fun _ => False) wr _ := (by first | exact HM8.out.1 | exact (Mod.refl _ wr).drew); refine (clone32_any n.me (pents n.x.halves) _ (HNA.out.edges.keep hm0)).mono ?_; (rintro e w32 ⟨c32, rfl, h1, h2, h3⟩); have HM32 := Lib.hid (And.intro (hm0.trans h2) (And.intro (Nat.le_trans hm0.size h1) (And.intro h2 (And.intro h1 h3)))); have q0 := HM32.out.1.cell b0; have q1 := HM32.out.1.cell b1; have z32 : n.p < w32.heap.size := Nat.lt_of_lt_of_le zb HM32.out.1.size; clear hm0 h1 h2 h3; try (guard_hyp c8 : Nat; guard_hyp c32 : Nat; obtain ⟨w7, hrun, hU, hM⟩ := (HC2.out.nm.map.keep (HM32.out.1.alloc (.cells #[.map (some c8), .map (some c32)] 143))).store Tryz.underlying32 Tryz.underlying125 HLEN.out (u32key HFO.out.b) (.pointer (some ⟨w32.heap.size, 0, none⟩)); have HU := Lib.hid (And.intro hU hM); clear hU hM)))
           all_goals
             have HR : Hid (∃ cs', Cps w (ns.map Node.x) (namedTo (ops.take i) [oa, ob] 2) bw cs' w7 ∧ Mod (fun i => i = bw) wr w7) := Lib.hid (by
               first
                 | exact HC2.out.doneA HL.out.rise (List.mem_map_of_mem HIN.out.1) (HNA.out.fit) (by rw [HIN.out.2]; exact HNT.out) HM8.out HM32.out (by have := HU.out; rw [HIN.out.2]; exact this)
                 | exact HC2.out.doneB HL.out.rise (List.mem_map_of_mem HIN.out.1) (HNA.out.fit) (by rw [HIN.out.2]; exact HNT.out) HM8.out HM32.out (by have := HU.out; rw [HIN.out.2]; exact this))
             go_wp2
             go_roundw
             case rel =>
               obtain ⟨cs', h1, h2⟩ := HR.out
               exact ⟨2, cs', by go_num, by omega, h1, HM2.out.trans h2⟩
             case measure => simp [intOf]
       · have HR : Hid (Cps w (ns.map Node.x) (namedB (ops.take (i + 1))) bw cs2 wr) := Lib.hid (by rw [HNX.out]; exact HC2.out)
         go_wp2
         go_roundw
         case rel => exact ⟨i + 1, cs2, by go_num, by omega, HR.out⟩
         case measure => simp [intOf]; omega
   · have HALT : Hid (Cps w (ns.map Node.x) (namedB ops) bw cs wo) := Lib.hid (by
       have h := HC.out
       rwa [List.take_of_length_le (by have := HN.out; omega)] at h)
     go_wp2
     go_ret
     exact ⟨_, cs, rfl, HALT.out⟩
open Go.RowKit Go.Maps
theorem Mod.oneGrown {w w' : World} {b : Nat} (m : Mod (fun i => i = b) w w') : w.grownBy w' (some b) := ⟨m.os, m.tape, m.output, m.size, fun i hi h => m.block i hi (fun e => h (by rw [e]))⟩
theorem atKey_valU {es : Ents} {x : Nat} {c : Value} (h : ∀ zd, (entsD .u32 es).atKey (.int .u32 (x : Int)) zd = .held c) (hs : (getL x es).isSome = true) : getL x es = some c := by
 obtain ⟨d, hd⟩ := Option.isSome_iff_exists.1 hs
 have := h (.held c)
 rw [entsD_at, hd] at this
 simp only [Option.getD_some] at this
 injection this with this
 rw [hd, this]
structure Mixed (g bm bw : Nat) (nsi cs : List Node) (B : Nat) (w : World) (ss : List Nat) (wr : World) (nsk : List Node) : Prop where
 mod : Mod (fun b => b = bm) w wr
 pg : PG wr g bm nsk
 mem : ∀ n : Node, n ∈ nsk ↔ (n ∈ nsi ∧ n.x.id ∉ ss) ∨ (n ∈ cs ∧ n.x.id ∈ ss)
theorem Mixed.low {g bm bw B : Nat} {nsi cs nsk : List Node} {w wr : World} {ss : List Nat} (h : Mixed g bm bw nsi cs B w ss wr nsk) (hp : PG w g bm nsi) (hc : NM w bw cs) (b : Nat) (hb : Foot g bm nsk b) : Foot g bm nsi b ∨ ∃ n ∈ cs, b ∈ n.blocks ∧ n.x.id ∈ ss := by
 rcases hb with hb | hb | ⟨n, hn, hb⟩
 · exact .inl (.inl hb)
 · exact .inl (.inr (.inl hb))
 · rcases (h.mem n).1 hn with ⟨h1, _⟩ | ⟨h1, h2⟩
   · exact .inl (.inr (.inr ⟨n, h1, hb⟩))
   · exact .inr ⟨n, h1, hb, h2⟩
theorem Mixed.lt {g bm bw B : Nat} {nsi cs nsk : List Node} {w wr : World} {ss : List Nat} (h : Mixed g bm bw nsi cs B w ss wr nsk) (hp : PG w g bm nsi) (hc : NM w bw cs) (b : Nat) (hb : Foot g bm nsk b) : b < w.heap.size := by
 rcases h.low hp hc b hb with f | ⟨n, h1, h2, _⟩
 · exact hp.lt b f
 · exact hc.lt b (.inr ⟨n, h1, h2⟩)
theorem Mixed.grown {g bm bw B : Nat} {nsi cs nsk : List Node} {w wr wx : World} {ss : List Nat} (h : Mixed g bm bw nsi cs B w ss wr nsk) (hp : PG w g bm nsi) (hc : NM w bw cs) {r : Nat} (hr : w.heap.size ≤ r) (hg : wr.grownBy wx (some r)) : Mixed g bm bw nsi cs B w ss wx nsk := by
 have m1 : Mod (fun i => i = r) wr wx := (Mod.refl _ wr).grown hg (fun b hb _ => by injection hb with hb; exact hb.symm)
 exact ⟨h.mod.trans' m1 (fun i hi e => by omega), h.pg.mod m1 (fun b hb e => by have := h.lt hp hc b hb; omega), h.mem⟩
theorem Mixed.next {g bm bw B : Nat} {nsi cs nsk : List Node} {w wr w5 : World} {ss : List Nat} (h : Mixed g bm bw nsi cs B w ss wr nsk) (hp : PG w g bm nsi) (hc : NM w bw cs) (hd : ∀ b, FootN bw cs b → ¬ Foot g bm nsi b)
   {c : Node} (hcc : c ∈ cs) (hs : c.x.id ∉ ss) (hM : Mod (fun b => b = bm) wr w5) (hU : UMap Tryz.prog 32 .u32 w5 bm (putL c.x.id (.pointer (some ⟨c.p, 0, none⟩)) (nsk.map Node.f))) : ∃ nsk', Mixed g bm bw nsi cs B w (ss ++ [c.x.id]) w5 nsk' := by
 have hbl : ∀ b ∈ c.blocks, ¬ Foot g bm nsk b := fun b hb f => by
   rcases h.low hp hc b f with f | ⟨n, h1, h2, h3⟩
   · exact hd b (.inr ⟨c, hcc, hb⟩) f
   · have := hc.sep c hcc n h1 b hb h2
     subst this
     exact hs h3
 have hbm : bm ∉ c.blocks := fun hb => hd bm (.inr ⟨c, hcc, hb⟩) (.inr (.inl rfl))
 have hn : NAt w5 c := (hc.each c hcc).mod (h.mod.trans hM) (fun b hb e => hbm (e ▸ hb))
 refine ⟨layG keyN c false nsk, h.mod.trans hM, h.pg.add hM hU hn hbl (hc.own c hcc), fun n => ?_⟩
 rw [layG_mem h.pg.nm.rising, h.mem]
 simp only [List.mem_append, List.mem_singleton, keyN, true_and]
 constructor
 · rintro (⟨(⟨h1, h2⟩ | ⟨h1, h2⟩), hne⟩ | rfl)
   · exact .inl ⟨h1, fun e => e.elim h2 hne⟩
   · exact .inr ⟨h1, .inl h2⟩
   · exact .inr ⟨hcc, .inr rfl⟩
 · rintro (⟨h1, h2⟩ | ⟨h1, h2 | h2⟩)
   · exact .inl ⟨.inl ⟨h1, fun e => h2 (.inl e)⟩, fun e => h2 (.inr e)⟩
   · by_cases e : n.x.id = c.x.id
     · exact absurd (e ▸ h2) hs
     · exact .inl ⟨.inr ⟨h1, h2⟩, e⟩
   · exact .inr (hc.rising.uniq h1 hcc h2)
set_option maxRecDepth 100000 in
set_option maxHeartbeats 4000000 in
theorem mcopy_any (g bm bw : Nat) (nsi cs : List Node) (w : World) (hp : PG w g bm nsi) (hc : NM w bw cs) (hd : ∀ b, FootN bw cs b → ¬ Foot g bm nsi b) :
   Calls Tryz.prog 73 #[.map (some bm), .map (some bw)] w fun e w' => e = .returned (.tuple #[]) ∧ Mod (fun b => b = bm) w w' ∧ ∃ nsf, PG w' g bm nsf ∧ ∀ n : Node, n ∈ nsf ↔ (n ∈ nsi ∧ ∀ c ∈ cs, c.x.id ≠ n.x.id) ∨ n ∈ cs := by
 have HP := Lib.hid hp
 have HC := Lib.hid hc
 have HD := Lib.hid hd
 have hown := hc.map.own
 have HRI := Lib.hid (UMap.rising hc.map (int_keyed Tryz.underlying32))
 clear hp hc hd
 go_enter Tryz.func73, Tryz.ntmps73
 go_wp2_with (first
   | (at_range; refine wpList_range_own _ rfl _ 125 rfl 32 130 (int_keyed Tryz.underlying32) Tryz.underlying125 _ bw (cs.map Node.f).length _ rfl hown ?_; intro w0 hrg0 hg0 hs0)
   | go_in)
 go_frame
 go_loopw [4] (fun _ wr => ∃ (left : Lit → Bool) (cnt : Nat) (ss : List Nat) (nsk : List Node), wr.ranges Tryz.prog 32 rawE bw w.heap.size (cs.map Node.f).length (entsD .u32 (cs.map Node.f)) left cnt ∧ CollU .u32 (cs.map Node.f) left ss ∧ Mixed g bm bw nsi cs 0 w ss wr nsk)
   (fun _ wr => wr.rangeLeft bw w.heap.size)
 case atStart =>
   have hl : Mixed g bm bw nsi cs 0 w [] w nsi := ⟨Mod.refl _ _, HP.out, fun n => by simp⟩
   have m0 : Mod (fun b => b = bm) w w0 := (Mod.refl _ _).grown hg0 (fun b hb _ => by cases hb)
   exact ⟨_, _, [], nsi, hrg0, CollU.start _ _, ⟨m0, HP.out.mod ((Mod.refl (fun _ => False) w).grown hg0 (fun b hb _ => by cases hb)) (fun _ _ f => f), hl.mem⟩⟩
 case round =>
   obtain ⟨left, cnt, ss, nsk, hrg, hC, hL⟩ := hrel
   go_wp2_with (first
     | (at_next; refine wpList_next_ranges _ rfl _ rfl 32 (int_keyed Tryz.underlying32) rawE (keyV .u32) id (fun key kl hk => by obtain ⟨x, hx, _⟩ := key_nat (by simp) Tryz.underlying32 hk; exact ⟨x, hx⟩) (fun v _ _ => ⟨v, rfl⟩) bw w.heap.size (cs.map Node.f).length _ _ _ rfl hrg ?_ ?_)
     | go_in)
   · intro hc0 hl0
     have HR : Hid (∃ nsf, PG wr g bm nsf ∧ ∀ n : Node, n ∈ nsf ↔ (n ∈ nsi ∧ ∀ c ∈ cs, c.x.id ≠ n.x.id) ∨ n ∈ cs) := Lib.hid (by
       have hperm := hC.perm HRI.out hl0
       have key : ∀ i, i ∈ ss ↔ ∃ c ∈ cs, c.x.id = i := fun i => by
         rw [hperm.mem_iff]
         simp [Node.f]
       refine ⟨nsk, hL.pg, fun n => ?_⟩
       rw [hL.mem, key]
       constructor
       · rintro (⟨h1, h2⟩ | ⟨h1, _⟩)
         · exact .inl ⟨h1, fun c hc e => h2 ⟨c, hc, e⟩⟩
         · exact .inr h1
       · rintro (⟨h1, h2⟩ | h1)
         · exact .inl ⟨h1, fun ⟨c, hc, e⟩ => h2 c hc e⟩
         · exact .inr ⟨h1, n, h1, rfl⟩)
     have HML := Lib.hid hL.mod
     clear hrg hC hL hown hrg0 hc0 hl0
     go_wp2
     go_end0
     exact ⟨rfl, HML.out, HR.out⟩
   · intro x c kl yd yp w2 cnt2 hkey hlk hv hat hrg2 hlt hg2 hs2 hen
     obtain ⟨x', ex, rfl, _⟩ := key_nat (by simp) Tryz.underlying32 hkey
     obtain rfl : x = x' := keyV_inj ex
     have hy : yd = DataW.held c := by
       have h : some ((DataW.held c, []) : DataW Value × List MemPlace) = some (yd, yp) := hv
       injection h with h
       injection h with h1 h2
       exact h1.symm
     subst hy
     have hC2 := hC.step hlk hat
     have hhas : (getL x (cs.map Node.f)).isSome = true := by rw [← entsD_has .u32]; exact has_true_of_atKey hat
     have hgc := atKey_valU hat hhas
     rw [getL_nodes] at hgc
     obtain ⟨nc, hnc, hcv⟩ := Option.map_eq_some_iff.1 hgc
     subst hcv
     obtain ⟨hcc, hci⟩ := findN_mem hnc
     subst hci
     have hns : nc.x.id ∉ ss := fun h => by
       have := ((hC.2 nc.x.id).1 h).2
       rw [this] at hlk; cases hlk
     have hL2 := hL.grown HP.out HC.out (Nat.le_refl _) hg2
     have hlen : (nsk.map Node.f).length < maxLen := by
       have h1 := hL2.pg.nm.rising
       have h2 := Rising.short h1 (b := 0) (m := 4294967296) (fun n hn => ⟨Nat.zero_le _, (hL2.pg.nm.each n hn).fit.id⟩)
       rw [List.length_map]
       unfold maxLen; omega
     obtain ⟨w5, hrun, hU, hM⟩ := hL2.pg.nm.map.store Tryz.underlying32 Tryz.underlying125 hlen (u32key (HC.out.each nc hcc).fit.id) (.pointer (some ⟨nc.p, 0, none⟩))
     obtain ⟨nsk', hL5⟩ := hL2.next HP.out HC.out HD.out hcc hns hM hU
     have hbmw : some bm ≠ some bw := fun e => by
       injection e with e
       exact HD.out bw (.inl rfl) (.inr (.inl e.symm))
     have HRG5 := Lib.hid (hrg2.kept hM.oneGrown (fun e => hbmw e.symm) (fun e => by injection e with e; have := HP.out.lt bm (.inr (.inl rfl)); omega))
     have HL5 := Lib.hid hL5
     have HC2 := Lib.hid hC2
     have HLT : Hid (cnt2 < wr.rangeLeft bw w.heap.size) := Lib.hid (by rw [hrg.left_eq]; exact hlt)
     clear hrg hC hL hown hrg0 hg2 hg0 hs0 hs2 hC2 hrg2 hkey hlk hv hat hhas hgc hnc hlt hlen ex hL2 hL5 hns hcc hU hM hbmw
     simp only [keyV] at hen
     go_wp2
     go_roundw
     case rel => exact ⟨_, cnt2, _, nsk', by rw [List.length_map]; exact HRG5.out, HC2.out, HL5.out⟩
     case measure => rw [HRG5.out.left_eq]; exact HLT.out
end Go.Proofs.YtpigipgoopeeoaaGreatDoor
