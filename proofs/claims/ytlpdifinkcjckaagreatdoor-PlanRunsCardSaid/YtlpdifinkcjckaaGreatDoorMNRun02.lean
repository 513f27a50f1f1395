import Derived.Test.YtlpdifinkcjckaaGreatDoorMFw16
import Derived.Test.YtlpdifinkcjckaaGreatDoorMNRun01
set_option linter.unusedVariables false
set_option linter.unusedSimpArgs false
namespace Go.Proofs.YtlpdifinkcjckaaGreatDoor
open Go.RowKit
structure CpAt (w : World) (v : Value) (l : List Vs) (wr : World) : Prop where
 mod : Mod (fun _ => False) w wr
 box : wr.heap[w.heap.size]? = some (.cells #[v] 117 (0, 0))
 mine : LOwn wr v l
 own : ∀ b, v.ownBlock = some b → w.heap.size < b
theorem CpAt.more {w wr wy : World} {v : Value} {l : List Vs} (h : CpAt w v l wr) (m : Mod (fun _ => False) wr wy) : CpAt w v l wy :=
 ⟨h.mod.trans m, m.heap h.box (fun f => f), h.mine.mod m off_false_l, h.own⟩
theorem CpAt.start (w : World) : CpAt w (.slice none 0 0) [] (w.alloc (.cells #[.slice none 0 0] 117)) :=
 ⟨(Mod.refl _ _).alloc _, heap_alloc_new' _ _, LOwn.nil _, fun b hb => by simp [Value.ownBlock] at hb⟩
theorem CpAt.app {w wc wr wy : World} {v v' : Value} {l : List Vs} (s : Vs) (h : CpAt w v l wr) (hc : wc.heap.size ≤ wr.heap.size) (hmc : ∀ b, v.ownBlock = some b → b < wc.heap.size) (hbc : w.heap.size < wc.heap.size)
   (hv : VOwn wr s) (hp : ∀ b, s.vp.ownBlock = some b → wc.heap.size ≤ b) (hh : ∀ b, s.vh.ownBlock = some b → wc.heap.size ≤ b)
   (hs : Seg wy 47 4 v' (l.length + 1) (vcells l ++ s.cells)) (hg : wr.grownBy wy v.ownBlock) (ho : v'.ownBlock = v.ownBlock ∨ v'.ownBlock = some wr.heap.size) : CpAt w v' (l ++ [s]) (wy.setCell ⟨w.heap.size, 0, none⟩ v') := by
 have hm := mod_grown hg
 have hso : VOff (fun k => v.ownBlock = some k) s := ⟨fun b hb e => by have := hp b hb; have := hmc b e; omega, fun b hb e => by have := hh b hb; have := hmc b e; omega⟩
 have hbox : wy.heap[w.heap.size]? = some (.cells #[v] 117 (0, 0)) := hm.heap h.box (fun e => by have := h.own _ e; omega)
 have hown : ∀ b, v'.ownBlock = some b → w.heap.size < b := fun b hb => by
   rcases ho with ho | ho
   · exact h.own b (by rw [← ho]; exact hb)
   · rw [ho] at hb; injection hb with hb; omega
 have hl : LOwn wy v' (l ++ [s]) := by
   refine ⟨?_, ?_, ?_⟩
   · rw [vcells_snoc, List.length_append]; exact hs
   · intro t ht
     rcases List.mem_append.1 ht with ht | ht
     · exact (h.mine.each t ht).mod hm (h.mine.apart t ht)
     · rw [List.mem_singleton] at ht; subst ht; exact hv.mod hm hso
   · intro t ht
     rcases ho with ho | ho
     · rw [ho]
       rcases List.mem_append.1 ht with ht | ht
       · exact h.mine.apart t ht
       · rw [List.mem_singleton] at ht; subst ht; exact hso
     · rw [ho]
       have : VOff (fun k => wr.heap.size ≤ k) t := by
         rcases List.mem_append.1 ht with ht | ht
         · exact (h.mine.each t ht).lt
         · rw [List.mem_singleton] at ht; subst ht; exact hv.lt
       exact this.mono (fun k e => by injection e with e; omega)
 have m2 : Mod (fun k => k = w.heap.size) wy (wy.setCell ⟨w.heap.size, 0, none⟩ v') := (Mod.refl (fun k => k = w.heap.size) wy).setCell (p := ⟨w.heap.size, 0, none⟩) (fun _ => rfl) v'
 refine ⟨(h.mod.grown hg (fun b hb hlt => by have := h.own b hb; omega)).trans' m2 (fun i hi e => by omega), by simpa using row_setCell hbox 0 v', hl.mod m2 ⟨fun b hb e => by have := hown b hb; omega, fun t ht => ⟨?_, ?_⟩⟩, hown⟩
 · exact (hl.each t ht).props.off_box hbox (by decide)
 · exact (hl.each t ht).halves.off_box hbox (by decide)
set_option maxRecDepth 100000 in
set_option maxHeartbeats 4000000 in
theorem copy_any (g : Nat) (v : Value) (xl : List Vs) (w : World) (hg : GrAt w g v xl) (hn : xl.length ≤ 1000) (hz : ∀ x ∈ xl, Slim x.x) :
   Calls Tryz.prog 47 #[.pointer (some ⟨g, 0, none⟩)] w fun e w' => Mod (fun _ => False) w w' ∧ ∃ g' v' l', e = .returned (.pointer (some ⟨g', 0, none⟩)) ∧ GrAt w' g' v' l' ∧ l'.map Vs.x = xl.map Vs.x ∧ w.heap.size ≤ g' := by
 have HL := Lib.hid hg.lst
 have HZX := Lib.hid hz
 have HG := Lib.hid hg.box
 obtain ⟨al, cl, rfl, hcl1, hcl2, -⟩ := hg.lst.row.shape
 have g0 := cell_of_row hg.box 0
 have zg := lt_of_block hg.box
 simp at g0
 clear hg hz
 obtain ⟨m, hl⟩ : ∃ n, n = xl.length := ⟨_, rfl⟩
 have HML := Lib.hid hl
 rw [← hl] at HL hcl1 hn g0
 clear hl
 obtain ⟨i0, hi, hz0, hz1, hz2⟩ := info_parts infoVtx
 have HI : Hid (Tryz.prog.info? 47 = some i0 ∧ i0.zero = some (.agg #[.int .u32 0, .bool false, .slice none 0 0, .slice none 0 0]) ∧ i0.size = 4 ∧ i0.bytes = 56) := ⟨hi, hz0, hz1, hz2⟩
 clear hi hz0 hz1 hz2
 have HS := Lib.hid (CpAt.start w)
 go_enter Tryz.func47, Tryz.ntmps47
 go_wp2
 go_loopw [13] (fun i wr => ∃ (j : Nat) (v' : Value) (l' : List Vs), i = .int .i64 j ∧ j ≤ m ∧ CpAt w v' l' wr ∧ l'.map Vs.x = (xl.take j).map Vs.x ∧ l'.length = j) (fun i _ => m - (intOf i).toNat)
 case atStart => exact ⟨0, _, [], rfl, Nat.zero_le _, HS.out, rfl, rfl⟩
 case round =>
   obtain ⟨j, v', l', rfl, hj, hm, hd, hlj⟩ := hrel
   have HI2 := Lib.hid hm
   have HD2 := Lib.hid hd
   have HLJ := Lib.hid hlj
   have h0 := cell_of_row hm.box 0
   have h0f := free_of_row hm.box 0
   have zh := lt_of_block hm.box
   simp at h0
   clear hm hd hlj HS
   obtain ⟨am, cm, nm, hvv⟩ : ∃ ao co no, v' = .slice ao no co := by
     obtain ⟨a, c, e, _⟩ := HI2.out.mine.row.shape
     exact ⟨_, _, _, e⟩
   subst hvv
   by_cases hjm : j < m
   · obtain ⟨y, hy⟩ : ∃ y, xl[j]? = some y := ⟨_, List.getElem?_eq_getElem (by rw [← HML.out]; exact hjm)⟩
     obtain ⟨bl, offl, rfl, hbl, r0, r1, r2, r3⟩ := HL.out.ent hy rfl
     have r0 := HI2.out.mod.cell r0
     have r1 := HI2.out.mod.cell r1
     have r2 := HI2.out.mod.cell r2
     have r3 := HI2.out.mod.cell r3
     have zbl : bl < wr.heap.size := Nat.lt_of_lt_of_le hbl HI2.out.mod.size
     have HVR := Lib.hid (HL.out.at hy)
     have HTX : Hid ((xl.take (j + 1)).map Vs.x = (xl.take j).map Vs.x ++ [y.x]) := Lib.hid (take_map_succ _ hy)
     have hzy := HZX.out y (List.mem_of_getElem? hy)
     have HTW : Hid (∀ w', Mod (fun _ => False) wr w' → Calls Tryz.prog 26 #[vtxV y.x y.vp y.vh] w' (Twins w' y.x)) := Lib.hid (fun w' mm => twinV_any y.x y.vp y.vh w' (HVR.out.keep (HI2.out.mod.trans mm)) hzy.1 hzy.2)
     clear hy hzy
     obtain ⟨⟨id, there, xs, ys⟩, vp, vh⟩ := y
     obtain ⟨np, ap, cp, rfl⟩ : ∃ np ap cp, vp = .slice ap np cp := by
       obtain ⟨a, c, e, _⟩ := HVR.out.props.shape
       exact ⟨_, _, _, e⟩
     obtain ⟨nh, ah, ch, rfl⟩ : ∃ np ap cp, vh = .slice ap np cp := by
       obtain ⟨a, c, e, _⟩ := HVR.out.halves.shape
       exact ⟨_, _, _, e⟩
     simp only at r0 r1 r2 r3 HTX
     simp only [vtxV] at HTW
     clear HVR
     have HTW1 := Lib.hid (HTW.out _ (((Mod.refl (fun _ => False) wr).alloc (.cells #[.int .u32 (id : Int), .bool there, .slice ap np cp, .slice ah nh ch] 47)).drew))
     have HI3 := Lib.hid (HI2.out.more (((Mod.refl (fun _ => False) wr).alloc (.cells #[.int .u32 (id : Int), .bool there, .slice ap np cp, .slice ah nh ch] 47)).drew))
     have HOM := Lib.hid HI2.out.mine.row.lt
     clear HTW HI2
     go_wp2_with fail
     go_region_law (first
       | (go_simp; go_at_call 26; refine HTW1.out.mono ?_; rintro e w5 ⟨vp5, vh5, rfl, hm5, hn5⟩; have HI5 := Lib.hid (HI3.out.more hm5); have HN5 := Lib.hid hn5; have HZ5 := Lib.hid hm5.size; (obtain ⟨a5, c5, n5, rfl⟩ : ∃ a c n, vp5 = .slice a n c := (by obtain ⟨a, c, e, _⟩ := hn5.props.shape; exact ⟨_, _, _, e⟩)); (obtain ⟨a6, c6, n6, rfl⟩ : ∃ a c n, vh5 = .slice a n c := (by obtain ⟨a, c, e, _⟩ := hn5.halves.shape; exact ⟨_, _, _, e⟩)); have q0 := cell_of_row HI5.out.box 0; have q0f := free_of_row HI5.out.box 0; have zq := lt_of_block HI5.out.box; simp at q0; clear hm5 hn5;
          have HI6 := Lib.hid (HI5.out.more ((Mod.refl (fun _ => False) w5).alloc (.cells #[.int .u32 (id : Int), .bool there, .slice a5 n5 c5, .slice a6 n6 c6] 47)));
          have HV6 := Lib.hid (HN5.out.vown.mod ((Mod.refl (fun _ => False) w5).alloc (.cells #[.int .u32 (id : Int), .bool there, .slice a5 n5 c5, .slice a6 n6 c6] 47)) ⟨fun _ _ f => f, fun _ _ f => f⟩);
          have HSR := Lib.hid (src_cells (w := w5) rfl (size := 4) 47 #[.int .u32 (id : Int), .bool there, .slice a5 n5 c5, .slice a6 n6 c6] rfl (by simp [Value.oneCell'])))
       | (refine step_append_seg rfl (.tmp 21) (.tmp 24) 41 rfl i0 _ 4 56 Tryz.underlying41 HI.out.1 HI.out.2.1 HI.out.2.2.1 HI.out.2.2.2 rfl (by decide) rfl HI6.out.mine.row _ 1 _ rfl HSR.out (by have := HLJ.out; unfold maxLen; omega) (by have := HLJ.out; omega) ?_; intro v3 w3 hs3 hg3 ho3;
          have H3 := Lib.hid (HI6.out.app ⟨⟨id, there, xs, ys⟩, .slice a5 n5 c5, .slice a6 n6 c6⟩ (wc := wr.alloc (.cells #[.int .u32 (id : Int), .bool there, .slice ap np cp, .slice ah nh ch] 47)) (Nat.le_trans HZ5.out (by simp)) (fun b hb => by have := HOM.out b hb; simp; omega) (by simp; omega) HV6.out HN5.out.newp HN5.out.newh hs3 hg3 ho3); have HBX := Lib.hid (lt_of_block H3.out.box); (obtain ⟨a3, c3, n3, rfl⟩ : ∃ a c n, v3 = .slice a n c := (by obtain ⟨a, c, e, _⟩ := hs3.shape; exact ⟨_, _, _, e⟩)); have hb3 := grown_heap hg3 HI6.out.box (fun b hb => Nat.ne_of_gt (HI6.out.own b hb)); have q3 := cell_of_row hb3 0; have q3f := free_of_row hb3 0; have z3 := lt_of_block hb3; simp at q3; clear hs3 hg3 ho3 hb3))
     all_goals
       go_wp2
       go_roundw
       case rel => exact ⟨j + 1, _, _, by go_num, by omega, H3.out, by rw [List.map_append, HTX.out, HD2.out]; rfl, by rw [List.length_append, HLJ.out]; rfl⟩
       case measure => simp [intOf]; omega
   · have HEQ : Hid (l'.map Vs.x = xl.map Vs.x) := Lib.hid (by rw [HD2.out, List.take_of_length_le (by have := HML.out; omega)])
     go_wp2
     go_ret
     exact ⟨HI2.out.mod, _, _, _, rfl, ⟨HI2.out.box, HI2.out.mine.rd⟩, HEQ.out, Nat.le_refl _⟩
open Go.RowKit
open Go.RowKit
open Go.RowKit
theorem layG_set {α : Type} {key : α → Nat} {x : α} : ∀ {l : List α}, Rising key l → ∀ {i : Nat} {y : α}, l[i]? = some y → key x = key y → layG key x false l = l.set i x
 | [], _, i, y, hy, _ => by simp at hy
 | z :: r, h, i, y, hy, hk => by
   obtain ⟨h1, h2⟩ := List.pairwise_cons.1 h
   cases i with
   | zero =>
     simp at hy
     subst hy
     have g : ∀ t ∈ r, key x < key t := fun t ht => by have := h1 t ht; omega
     have e1 : r.filter (fun t => decide (key t < key x)) = [] := by
       rw [List.filter_eq_nil_iff]; intro t ht; have := g t ht; simp; omega
     have e2 : r.filter (fun t => decide (key x < key t)) = r := by
       rw [List.filter_eq_self]; intro t ht; simpa using g t ht
     rw [layG, show (false || decide (key x < key z)) = false by simp; omega, layG_open x r h2, e1, e2]
     have n1 : ¬ key x < key z := by omega
     have n2 : key z = key x := by omega
     simp [n1, n2]
   | succ i =>
     simp at hy
     have hz := h1 y (List.mem_of_getElem? hy)
     have n1 : ¬ key x < key z := by omega
     have n2 : ¬ key z = key x := by omega
     rw [layG, show (false || decide (key x < key z)) = false by simp [n1], layG_set h2 hy hk]
     simp [n1, n2]
theorem layG_map {α β : Type} (f : α → β) (ka : α → Nat) (kb : β → Nat) (hk : ∀ a, kb (f a) = ka a) (x : α) : ∀ (l : List α) (d : Bool), (layG ka x d l).map f = layG kb (f x) d (l.map f)
 | [], d => by cases d <;> simp [layG]
 | y :: r, d => by
   rw [layG, List.map_cons, layG, List.map_append, List.map_append, layG_map f ka kb hk x r]
   simp only [hk]
   congr 1
   congr 1
   · split <;> simp
   · split <;> simp
theorem lay_map (s : Vs) (l : List Vs) (d : Bool) : (layG keyS s d l).map Vs.x = layG Vtx.id s.x d (l.map Vs.x) := layG_map Vs.x keyS Vtx.id (fun _ => rfl) s l d
theorem find_map (l : List Vs) (v : Nat) : findV (l.map Vs.x) v = (l.find? fun s => s.x.id == v).map Vs.x := by
 unfold findV
 rw [List.find?_map]
 rfl
theorem find_none {l : List Vs} {v : Nat} (h : findV (l.map Vs.x) v = none) : atI l v = -1 := by
 rw [find_map, Option.map_eq_none_iff, List.find?_eq_none] at h
 exact atI_none (fun s hs => by simpa using h s hs)
theorem find_some {l : List Vs} {v : Nat} {x : Vtx} (h : findV (l.map Vs.x) v = some x) : ∃ (i : Nat) (s : Vs), atI l v = (i : Int) ∧ l[i]? = some s ∧ s.x = x ∧ x.id = v := by
 rw [find_map, Option.map_eq_some_iff] at h
 obtain ⟨s, hs, rfl⟩ := h
 rw [List.find?_eq_some_iff_getElem] at hs
 obtain ⟨h1, i, hi, h2, h3⟩ := hs
 have hid : s.x.id = v := by simpa using h1
 refine ⟨i, s, atI_some (by rw [← h2]; exact List.getElem?_eq_getElem hi) hid (fun t ht => ?_), by rw [← h2]; exact List.getElem?_eq_getElem hi, rfl, hid⟩
 obtain ⟨j, hj, rfl⟩ := List.mem_take_iff_getElem.1 ht
 simpa using h3 j (by omega)
structure Tame (l : List Vs) : Prop where
 rise : Rising keyS l
 len : l.length ≤ 900
 each : ∀ s ∈ l, s.x.there = true ∧ s.x.props.length ≤ 900 ∧ s.x.halves.length ≤ 900
def OneP (g : Nat) (l : List Vs) (o : Opr) (w : World) (e : Ending) (w' : World) : Prop :=
 Mod (fun k => k = g) w w' ∧ ∃ vo v' l', e = .returned (.tuple #[.int .i64 ((oneG (l.map Vs.x) o).e : Nat), vo]) ∧ GrAt w' g v' l' ∧ l'.map Vs.x = (oneG (l.map Vs.x) o).g ∧ RdS w' 3 vo (oneG (l.map Vs.x) o).vals.length (vvcells (oneG (l.map Vs.x) o).vals)
theorem OneP.stay {g : Nat} {v vo : Value} {l : List Vs} {o : Opr} {w w' : World} {z : Nat} {vals : List Val} (hg : GrAt w g v l) (m : Mod (fun _ => False) w w') (he : oneG (l.map Vs.x) o = ⟨z, l.map Vs.x, vals⟩) (hv : RdS w' 3 vo vals.length (vvcells vals)) :
   OneP g l o w (.returned (.tuple #[.int .i64 (z : Int), vo])) w' := by
 refine ⟨m.mono (fun _ _ f => f.elim), vo, v, l, by rw [he], hg.keep m, by rw [he], by rw [he]; exact hv⟩
theorem OneP.laid {g : Nat} {v' : Value} {l l' : List Vs} {o : Opr} {w w' : World} {L : Gr} (hg : GrAt w' g v' l') (m : Mod (fun k => k = g) w w') (he : oneG (l.map Vs.x) o = ⟨0, L, []⟩) (hl : l'.map Vs.x = L) :
   OneP g l o w (.returned (.tuple #[.int .i64 0, .slice none 0 0])) w' := by
 refine ⟨m, _, v', l', by rw [he]; rfl, hg, by rw [he]; exact hl, by rw [he]; exact RdS.none _ _⟩
set_option maxRecDepth 100000 in
set_option maxHeartbeats 4000000 in
theorem one_1 (g : Nat) (v : Value) (l : List Vs) (a b key vk : Nat) (vn : Int) (vs : ByteArray) (w : World) (hg : GrAt w g v l) (ht : Tame l) (hf : Opr.Fits ⟨1, a, b, key, ⟨vk, vn, vs⟩⟩) :
   Calls Tryz.prog 77 #[.pointer (some ⟨g, 0, none⟩), .agg #[.int .u8 1, .int .u32 (a : Int), .int .u32 (b : Int), .int .u8 (key : Int), .int .u8 (vk : Int), .int .i64 vn, .string vs]] w (OneP g l ⟨1, a, b, key, ⟨vk, vn, vs⟩⟩ w) := by
 have HG := Lib.hid hg
 have HT := Lib.hid ht
 have HF := Lib.hid hf
 obtain ⟨W, hW⟩ : ∃ W, W = w.alloc (.cells #[.int .u8 1, .int .u32 (a : Int), .int .u32 (b : Int), .int .u8 (key : Int), .int .u8 (vk : Int), .int .i64 vn, .string vs] 82) := ⟨_, rfl⟩
 have HW := Lib.hid hW
 have hb : W.heap[w.heap.size]? = some (.cells #[.int .u8 1, .int .u32 (a : Int), .int .u32 (b : Int), .int .u8 (key : Int), .int .u8 (vk : Int), .int .i64 vn, .string vs] 82 (0, 0)) := by rw [hW]; exact heap_alloc_new' w _
 have HB := Lib.hid hb
 have c1 := cell_of_row hb 1
 have c2 := cell_of_row hb 2
 simp at c1 c2
 have c1 : ∀ x : MW W, x.w.cell? _ = some _ := fun x => x.cell c1
 have c2 : ∀ x : MW W, x.w.cell? _ = some _ := fun x => x.cell c2
 have HGW : Hid (GrAt W g v l) := Lib.hid (hg.keep (by rw [hW]; exact (Mod.refl _ _).alloc _))
 have HAT : Hid (∀ (x : MW W) (f : Nat), Calls Tryz.prog 75 #[.pointer (some ⟨g, 0, none⟩), .int .u32 (f : Int)] x.w fun e w' => e = .returned (.int .i64 (atI l f)) ∧ ∃ x' : MW W, w' = x'.w) := Lib.hid (fun x f => Calls.quietM (at_any g v l f x.w (HGW.out.keep x.mod)))
 clear hb hg ht hf
 go_enter Tryz.func77, Tryz.ntmps77
 go_wp2_with fail
 rw [← HW.out]
 clear hW
 refine wp_region_quietM (by kernel_rfl) (by kernel_rfl) ?_
 repeat (go_big_quiet_step ((go_at_call 75; exact HAT.out _ _)))
 refine wpQuiet_nil ?_
 intro w3 hm3
 have M3 := Lib.hid (MW.mod_of hm3)
 have M3' : Hid (Mod (fun _ => False) w w3) := Lib.hid (by have h : Mod (fun _ => False) w W := by { rw [HW.out]; exact (Mod.refl _ _).alloc _ }; exact h.trans M3.out)
 have hb3 := M3.out.heap HB.out (fun f => f)
 have d0 := cell_of_row hb3 0
 have d1 := cell_of_row hb3 1
 simp at d0 d1
 clear hm3 c1 c2 HAT hb3
 generalize atI l b = ib
 cases hfa : findV (l.map Vs.x) a with
 | some x =>
   obtain ⟨i, s, hi, hs, rfl, hid⟩ := find_some hfa
   have HE : Hid (oneG (l.map Vs.x) ⟨1, a, b, key, ⟨vk, vn, vs⟩⟩ = ⟨7, l.map Vs.x, []⟩) := Lib.hid (by unfold oneG; rw [hfa]; simp)
   rw [hi]
   clear hi hs hfa hid
   go_wp2
   refine bodyPost_ret (v := .tuple #[.int .i64 7, .slice none 0 0]) (by simp [results, Tryz.results77, go_sem]) rfl ?_
   exact OneP.stay HG.out M3'.out HE.out (RdS.none _ _)
 | none =>
   rw [find_none hfa]
   have HE : Hid (oneG (l.map Vs.x) ⟨1, a, b, key, ⟨vk, vn, vs⟩⟩ = ⟨0, layV ⟨a, true, [], []⟩ (l.map Vs.x), []⟩) := Lib.hid (by unfold oneG; rw [hfa]; simp)
   clear hfa
   have HLAY := Lib.hid (lay_any g v l ⟨⟨a, true, [], []⟩, .slice none 0 0, .slice none 0 0⟩ w3 (HG.out.keep M3'.out) (vrd_empty _ _ _ HF.out.a) (by have := HT.out.len; omega))
   go_wp2_with (go_at_call 74; refine HLAY.out.mono ?_; (rintro e w4 ⟨rfl, hm4, v4, hg4⟩); have M4 := Lib.hid ((M3'.out.mono (fun _ _ f => f.elim)).trans hm4); have HG4 := Lib.hid hg4; clear hm4 hg4)
   refine bodyPost_ret (v := .tuple #[.int .i64 0, .slice none 0 0]) (by simp [results, Tryz.results77, go_sem]) rfl ?_
   exact OneP.laid HG4.out M4.out HE.out (by rw [lay_map]; rfl)
theorem Good.tame {l : List Vs} (h : Good (l.map Vs.x)) : Tame l := by
 refine ⟨?_, ?_, fun s hs => ?_⟩
 · have := h.rise
   unfold Rising at this ⊢
   rw [List.pairwise_map] at this
   exact this
 · have := h.short; rw [List.length_map] at this; omega
 · have hg := h.each s.x (List.mem_map_of_mem hs)
   have := hg.props_short
   have := hg.few
   exact ⟨hg.there, by omega, by omega⟩
theorem Fair.tame {l : List Vs} (h : Fair (l.map Vs.x)) : Tame l := by
 refine ⟨?_, ?_, fun s hs => ?_⟩
 · have := h.rise
   unfold Rising at this ⊢
   rw [List.pairwise_map] at this
   exact this
 · have := h.short; rw [List.length_map] at this; omega
 · have hg := h.each s.x (List.mem_map_of_mem hs)
   have := hg.props_short
   have := hg.few
   exact ⟨hg.there, by omega, by omega⟩
open Go.RowKit
set_option maxRecDepth 100000 in
set_option maxHeartbeats 2000000 in
theorem nsame_any (v u : Value) (l m : List Nat) (w : World) (hv : RdS w 1 v l.length (l.map (keyV .u32))) (hu : RdS w 1 u m.length (m.map (keyV .u32))) :
   Calls Tryz.prog 23 #[v, u] w fun e w' => e = .returned (.bool (decide (l = m))) ∧ Mod (fun _ => False) w w' := by
 have HV := Lib.hid hv
 have HU := Lib.hid hu
 obtain ⟨a, c, rfl, hc1, hc2, -⟩ := hv.shape
 obtain ⟨a', c', rfl, hc1', hc2', -⟩ := hu.shape
 clear hv hu
 obtain ⟨n, hl⟩ : ∃ n, n = l.length := ⟨_, rfl⟩
 obtain ⟨n', hl'⟩ : ∃ n, n = m.length := ⟨_, rfl⟩
 have HN := Lib.hid hl
 have HN' := Lib.hid hl'
 rw [← hl] at HV hc1 ⊢
 rw [← hl'] at HU hc1' ⊢
 clear hl hl'
 by_cases hnn : n = n'
 · subst hnn
   go_enter Tryz.func23, Tryz.ntmps23
   go_wp2
   go_loopw [13] (fun i wr => ∃ k : Nat, i = .int .i64 k ∧ k ≤ n ∧ Mod (fun _ => False) w wr ∧ l.take k = m.take k) (fun i _ => n - (intOf i).toNat)
   case atStart => exact ⟨0, rfl, Nat.zero_le _, Mod.refl _ _, rfl⟩
   case round =>
     obtain ⟨k, rfl, hk, hm, htk⟩ := hrel
     have HM := Lib.hid hm
     have HTK := Lib.hid htk
     clear hm htk
     by_cases hkn : k < n
     · obtain ⟨x, hx⟩ : ∃ x, l[k]? = some x := ⟨_, List.getElem?_eq_getElem (by rw [← HN.out]; exact hkn)⟩
       obtain ⟨y, hy⟩ : ∃ y, m[k]? = some y := ⟨_, List.getElem?_eq_getElem (by rw [← HN'.out]; exact hkn)⟩
       obtain ⟨b, off, rfl, hb, p0⟩ := num_ent HV.out hx rfl
       obtain ⟨b', off', rfl, hb', q0⟩ := num_ent HU.out hy rfl
       have p0 : ∀ x : MW wr, x.w.cell? _ = some _ := fun x => x.cell (HM.out.cell p0)
       have q0 : ∀ x : MW wr, x.w.cell? _ = some _ := fun x => x.cell (HM.out.cell q0)
       by_cases hxy : x = y
       · subst hxy
         have HTS := Lib.hid (takes_eq HTK.out hx hy)
         clear hx hy
         go_wp2_with fail
         refine wp_region_quietM (by kernel_rfl) (by kernel_rfl) ?_
         repeat (go_big_quiet_step (fail))
         refine wpQuiet_nil ?_
         intro w3 hm3
         have M3 : Hid (Mod (fun _ => False) w w3) := Lib.hid (HM.out.trans (MW.mod_of hm3))
         clear hm3 p0 q0
         go_wp2
         go_roundw
         case rel => exact ⟨k + 1, by go_num, by omega, M3.out, HTS.out⟩
         case measure => simp [intOf]; omega
       · have HNE := Lib.hid (at_ne hx hy hxy)
         have f1 : ((x : Int) == (y : Int)) = false := by simp; omega
         clear hx hy hxy
         go_wp2_with fail
         refine wp_region_quietM (by kernel_rfl) (by kernel_rfl) ?_
         repeat (go_big_quiet_step (fail))
         refine wpQuiet_nil ?_
         intro w3 hm3
         have M3 : Hid (Mod (fun _ => False) w w3) := Lib.hid (HM.out.trans (MW.mod_of hm3))
         clear hm3 p0 q0
         go_wp2
         go_ret
         exact ⟨by rw [decide_eq_false HNE.out]; rfl, M3.out⟩
     · have HEQ : Hid (l = m) := Lib.hid (by
         have h := HTK.out
         rwa [List.take_of_length_le (by have := HN.out; omega), List.take_of_length_le (by have := HN'.out; omega)] at h)
       go_wp2
       go_ret
       exact ⟨by rw [decide_eq_true HEQ.out]; rfl, HM.out⟩
 · have HNE : Hid (l ≠ m) := Lib.hid (by rintro rfl; exact hnn (HN.out.trans HN'.out.symm))
   go_enter Tryz.func23, Tryz.ntmps23
   go_wp2
   go_ret
   exact ⟨by rw [decide_eq_false HNE.out]; rfl, Mod.refl _ _⟩
theorem val_ent {w : World} {v : Value} {l : List Val} {n : Nat} (h : RdS w 3 v n (vvcells l)) {i : Nat} {x : Val} (hi : l[i]? = some x) {a : Option Addr} {m c : Nat} (e : v = .slice a m c) :
   ∃ b off, a = some ⟨b, off, none⟩ ∧ b < w.heap.size ∧ w.cell? ⟨b, off + i * 3, none⟩ = some (.int .u8 (x.k : Int)) ∧ w.cell? ⟨b, off + i * 3 + 1, none⟩ = some (.int .i64 x.n) ∧ w.cell? ⟨b, off + i * 3 + 2, none⟩ = some (.string x.s) := by
 have g := fun j hj => flat_get Val.cells (fun _ => rfl) l i j x hi (show j < 3 from hj)
 obtain ⟨a', c', e', -⟩ := h.shape
 rw [e] at e'
 injection e' with e1 e2 e3
 rw [e2] at e
 have k : ∀ j u, j < 3 → x.cells[j]? = some u → ∃ b off, a = some ⟨b, off, none⟩ ∧ b < w.heap.size ∧ w.cell? ⟨b, off + (i * 3 + j), none⟩ = some u := fun j u hj hu => h.cell a c e (i * 3 + j) u (by unfold vvcells; rw [g j hj]; exact hu)
 obtain ⟨b, off, ea, hb, h0⟩ := k 0 _ (by omega) rfl
 have r : ∀ j u, j < 3 → x.cells[j]? = some u → w.cell? ⟨b, off + (i * 3 + j), none⟩ = some u := fun j u hj hu => by
   obtain ⟨b1, off1, ea1, _, h1⟩ := k j u hj hu
   rw [ea] at ea1
   injection ea1 with e1; injection e1 with e1 e2
   subst e1 e2
   exact h1
 refine ⟨b, off, ea, hb, h0, ?_, ?_⟩
 · rw [Nat.add_assoc]; exact r 1 _ (by omega) rfl
 · rw [Nat.add_assoc]; exact r 2 _ (by omega) rfl
set_option maxRecDepth 100000 in
set_option maxHeartbeats 2000000 in
theorem valsame_any (v u : Value) (l m : List Val) (w : World) (hv : RdS w 3 v l.length (vvcells l)) (hu : RdS w 3 u m.length (vvcells m)) :
   Calls Tryz.prog 43 #[v, u] w fun e w' => e = .returned (.bool (decide (l = m))) ∧ Mod (fun _ => False) w w' := by
 have HV := Lib.hid hv
 have HU := Lib.hid hu
 obtain ⟨a, c, rfl, hc1, hc2, -⟩ := hv.shape
 obtain ⟨a', c', rfl, hc1', hc2', -⟩ := hu.shape
 clear hv hu
 obtain ⟨n, hl⟩ : ∃ n, n = l.length := ⟨_, rfl⟩
 obtain ⟨n', hl'⟩ : ∃ n, n = m.length := ⟨_, rfl⟩
 have HN := Lib.hid hl
 have HN' := Lib.hid hl'
 rw [← hl] at HV hc1 ⊢
 rw [← hl'] at HU hc1' ⊢
 clear hl hl'
 by_cases hnn : n = n'
 · subst hnn
   go_enter Tryz.func43, Tryz.ntmps43
   go_wp2
   go_loopw [13] (fun i wr => ∃ k : Nat, i = .int .i64 k ∧ k ≤ n ∧ Mod (fun _ => False) w wr ∧ l.take k = m.take k) (fun i _ => n - (intOf i).toNat)
   case atStart => exact ⟨0, rfl, Nat.zero_le _, Mod.refl _ _, rfl⟩
   case round =>
     obtain ⟨k, rfl, hk, hm, htk⟩ := hrel
     have HM := Lib.hid hm
     have HTK := Lib.hid htk
     clear hm htk
     by_cases hkn : k < n
     · obtain ⟨x, hx⟩ : ∃ x, l[k]? = some x := ⟨_, List.getElem?_eq_getElem (by rw [← HN.out]; exact hkn)⟩
       obtain ⟨y, hy⟩ : ∃ y, m[k]? = some y := ⟨_, List.getElem?_eq_getElem (by rw [← HN'.out]; exact hkn)⟩
       obtain ⟨b, off, rfl, hb, p0, p1, p2⟩ := val_ent HV.out hx rfl
       obtain ⟨b', off', rfl, hb', q0, q1, q2⟩ := val_ent HU.out hy rfl
       have p0 : ∀ x : MW wr, x.w.cell? _ = some _ := fun x => x.cell (HM.out.cell p0)
       have p1 : ∀ x : MW wr, x.w.cell? _ = some _ := fun x => x.cell (HM.out.cell p1)
       have p2 : ∀ x : MW wr, x.w.cell? _ = some _ := fun x => x.cell (HM.out.cell p2)
       have q0 : ∀ x : MW wr, x.w.cell? _ = some _ := fun x => x.cell (HM.out.cell q0)
       have q1 : ∀ x : MW wr, x.w.cell? _ = some _ := fun x => x.cell (HM.out.cell q1)
       have q2 : ∀ x : MW wr, x.w.cell? _ = some _ := fun x => x.cell (HM.out.cell q2)
       rcases val_cases x y with hxy | ⟨hxy, hcs⟩
       · subst hxy
         have HTS := Lib.hid (takes_eq HTK.out hx hy)
         clear hx hy
         obtain ⟨xk, xn, xs⟩ := x
         simp only at p0 p1 p2 q0 q1 q2
         go_wp2_with fail
         refine wp_region_quietM (by kernel_rfl) (by kernel_rfl) ?_
         repeat (go_big_quiet_step (fail))
         refine wpQuiet_nil ?_
         intro w3 hm3
         have M3 : Hid (Mod (fun _ => False) w w3) := Lib.hid (HM.out.trans (MW.mod_of hm3))
         clear hm3 p0 q0 p1 q1 p2 q2
         go_wp2
         go_roundw
         case rel => exact ⟨k + 1, by go_num, by omega, M3.out, HTS.out⟩
         case measure => simp [intOf]; omega
       · have HNE := Lib.hid (at_ne hx hy hxy)
         clear hx hy hxy
         obtain ⟨xk, xn, xs⟩ := x
         obtain ⟨yk, yn, ys⟩ := y
         simp only at p0 p1 p2 q0 q1 q2 hcs
         rcases hcs with ⟨f1, f2⟩ | ⟨rfl, f1, f2⟩ | ⟨rfl, rfl, f1⟩
         all_goals
           go_wp2_with fail
           refine wp_region_quietM (by kernel_rfl) (by kernel_rfl) ?_
           repeat (go_big_quiet_step (fail))
           refine wpQuiet_nil ?_
           intro w3 hm3
           have M3 : Hid (Mod (fun _ => False) w w3) := Lib.hid (HM.out.trans (MW.mod_of hm3))
           clear hm3 p0 q0 p1 q1 p2 q2
           go_wp2
           go_ret
           exact ⟨by rw [decide_eq_false HNE.out]; rfl, M3.out⟩
     · have HEQ : Hid (l = m) := Lib.hid (by
         have h := HTK.out
         rwa [List.take_of_length_le (by have := HN.out; omega), List.take_of_length_le (by have := HN'.out; omega)] at h)
       go_wp2
       go_ret
       exact ⟨by rw [decide_eq_true HEQ.out]; rfl, HM.out⟩
 · have HNE : Hid (l ≠ m) := Lib.hid (by rintro rfl; exact hnn (HN.out.trans HN'.out.symm))
   go_enter Tryz.func43, Tryz.ntmps43
   go_wp2
   go_ret
   exact ⟨by rw [decide_eq_false HNE.out]; rfl, Mod.refl _ _⟩
structure AnsB (w : World) (e p : Int) (vv vl : Value) (e' p' : Int) (vv' vl' : Value) (wr : World) : Prop where
 mod : Mod (fun _ => False) w wr
 one : wr.heap[w.heap.size]? = some (.cells #[.int .i64 e, .int .i64 p, vv, vl] 34 (0, 0))
 two : wr.heap[w.heap.size + 1]? = some (.cells #[.int .i64 e', .int .i64 p', vv', vl'] 34 (0, 0))
theorem AnsB.keep {w wr wx : World} {e p e' p' : Int} {vv vl vv' vl' : Value} (h : AnsB w e p vv vl e' p' vv' vl' wr) (m : Mod (fun _ => False) wr wx) : AnsB w e p vv vl e' p' vv' vl' wx :=
 ⟨h.mod.trans m, m.heap h.one (fun f => f), m.heap h.two (fun f => f)⟩
theorem AnsB.start (w : World) (e p : Int) (vv vl : Value) (e' p' : Int) (vv' vl' : Value) : AnsB w e p vv vl e' p' vv' vl' ((w.alloc (.cells #[.int .i64 e, .int .i64 p, vv, vl] 34)).alloc (.cells #[.int .i64 e', .int .i64 p', vv', vl'] 34)) :=
 ⟨((Mod.refl _ w).alloc _).alloc _, heap_alloc_old (heap_alloc_new' w _), by have := heap_alloc_new' (w.alloc (.cells #[.int .i64 e, .int .i64 p, vv, vl] 34)) (.cells #[.int .i64 e', .int .i64 p', vv', vl'] 34); simpa using this⟩
set_option maxRecDepth 100000 in
set_option maxHeartbeats 4000000 in
theorem anssame_any (e p e' p' : Int) (vals vals' : List Val) (list list' : List Nat) (vv vl vv' vl' : Value) (w : World) (hv : RdS w 3 vv vals.length (vvcells vals)) (hv' : RdS w 3 vv' vals'.length (vvcells vals')) (hl : RdS w 1 vl list.length (list.map (keyV .u32))) (hl' : RdS w 1 vl' list'.length (list'.map (keyV .u32))) :
   Calls Tryz.prog 16 #[.agg #[.int .i64 e, .int .i64 p, vv, vl], .agg #[.int .i64 e', .int .i64 p', vv', vl']] w fun en w' => en = .returned (.bool (decide (e = e' ∧ p = p' ∧ vals = vals' ∧ list = list'))) ∧ Mod (fun _ => False) w w' := by
 have HVS : Hid (∀ w', Mod (fun _ => False) w w' → Calls Tryz.prog 43 #[vv, vv'] w' fun e w'' => e = .returned (.bool (decide (vals = vals'))) ∧ Mod (fun _ => False) w' w'') := Lib.hid (fun w' m => valsame_any vv vv' vals vals' w' (hv.keep m) (hv'.keep m))
 have HLS : Hid (∀ w', Mod (fun _ => False) w w' → Calls Tryz.prog 23 #[vl, vl'] w' fun e w'' => e = .returned (.bool (decide (list = list'))) ∧ Mod (fun _ => False) w' w'') := Lib.hid (fun w' m => nsame_any vl vl' list list' w' (hl.keep m) (hl'.keep m))
 have HB0 := Lib.hid (AnsB.start w e p vv vl e' p' vv' vl')
 obtain ⟨av, cv, rfl, -⟩ := hv.shape
 obtain ⟨av', cv', rfl, -⟩ := hv'.shape
 obtain ⟨al, cl, rfl, -⟩ := hl.shape
 obtain ⟨al', cl', rfl, -⟩ := hl'.shape
 obtain ⟨nv, hnv⟩ : ∃ n, n = vals.length := ⟨_, rfl⟩
 obtain ⟨nv', hnv'⟩ : ∃ n, n = vals'.length := ⟨_, rfl⟩
 obtain ⟨nl, hnl⟩ : ∃ n, n = list.length := ⟨_, rfl⟩
 obtain ⟨nl', hnl'⟩ : ∃ n, n = list'.length := ⟨_, rfl⟩
 simp only [← hnv, ← hnv', ← hnl, ← hnl'] at HVS HLS HB0 ⊢
 clear hv hv' hl hl' hnv hnv' hnl hnl'
 obtain ⟨bv, hbv⟩ : ∃ b, b = decide (vals = vals') := ⟨_, rfl⟩
 obtain ⟨bl, hbl⟩ : ∃ b, b = decide (list = list') := ⟨_, rfl⟩
 have HR : Hid (decide (e = e' ∧ p = p' ∧ vals = vals' ∧ list = list') = (decide (e = e') && (decide (p = p') && (bv && bl)))) := Lib.hid (by rw [hbv, hbl]; simp only [Bool.decide_and])
 rw [HR.out]
 rw [← hbv] at HVS
 rw [← hbl] at HLS
 clear hbv hbl HR
 by_cases he : e = e'
 · subst he
   by_cases hp : p = p'
   · subst hp
     cases bv with
     | true =>
       cases bl with
       | true =>
         go_enter Tryz.func16, Tryz.ntmps16
         go_wp2_with (first
           | (have hq := HB1.out.mod; go_at_call 23; go_loud (refine (HLS.out _ HB1.out.mod).mono ?_; (rintro en w2 ⟨rfl, hm2⟩); have HB2 := Lib.hid (HB1.out.keep hm2); clear hm2 hq))
           | (go_at_call 43; go_loud (refine (HVS.out _ HB0.out.mod).mono ?_; (rintro en w1 ⟨rfl, hm1⟩); have HB1 := Lib.hid (HB0.out.keep hm1); have b0 := cell_of_row HB1.out.one 0; have b1 := cell_of_row HB1.out.one 1; have b2 := cell_of_row HB1.out.one 2; have b3 := cell_of_row HB1.out.one 3; have d0 := cell_of_row HB1.out.two 0; have d1 := cell_of_row HB1.out.two 1; have d2 := cell_of_row HB1.out.two 2; have d3 := cell_of_row HB1.out.two 3; have z1 := lt_of_block HB1.out.one; have z2 := lt_of_block HB1.out.two; simp at b0 b1 b2 b3 d0 d1 d2 d3; clear hm1)))
         go_ret
         exact ⟨by simp, HB2.out.mod⟩
       | false =>
         go_enter Tryz.func16, Tryz.ntmps16
         go_wp2_with (first
           | (have hq := HB1.out.mod; go_at_call 23; go_loud (refine (HLS.out _ HB1.out.mod).mono ?_; (rintro en w2 ⟨rfl, hm2⟩); have HB2 := Lib.hid (HB1.out.keep hm2); clear hm2 hq))
           | (go_at_call 43; go_loud (refine (HVS.out _ HB0.out.mod).mono ?_; (rintro en w1 ⟨rfl, hm1⟩); have HB1 := Lib.hid (HB0.out.keep hm1); have b0 := cell_of_row HB1.out.one 0; have b1 := cell_of_row HB1.out.one 1; have b2 := cell_of_row HB1.out.one 2; have b3 := cell_of_row HB1.out.one 3; have d0 := cell_of_row HB1.out.two 0; have d1 := cell_of_row HB1.out.two 1; have d2 := cell_of_row HB1.out.two 2; have d3 := cell_of_row HB1.out.two 3; have z1 := lt_of_block HB1.out.one; have z2 := lt_of_block HB1.out.two; simp at b0 b1 b2 b3 d0 d1 d2 d3; clear hm1)))
         go_ret
         exact ⟨by simp, HB2.out.mod⟩
     | false =>
       go_enter Tryz.func16, Tryz.ntmps16
       go_wp2_with (first
         | (go_at_call 43; go_loud (refine (HVS.out _ HB0.out.mod).mono ?_; (rintro en w1 ⟨rfl, hm1⟩); have HB1 := Lib.hid (HB0.out.keep hm1); have b0 := cell_of_row HB1.out.one 0; have b1 := cell_of_row HB1.out.one 1; have b2 := cell_of_row HB1.out.one 2; have b3 := cell_of_row HB1.out.one 3; have d0 := cell_of_row HB1.out.two 0; have d1 := cell_of_row HB1.out.two 1; have d2 := cell_of_row HB1.out.two 2; have d3 := cell_of_row HB1.out.two 3; have z1 := lt_of_block HB1.out.one; have z2 := lt_of_block HB1.out.two; simp at b0 b1 b2 b3 d0 d1 d2 d3; clear hm1)))
       go_ret
       exact ⟨by simp, HB1.out.mod⟩
   · have f1 : (p == p') = false := by simpa using hp
     go_enter Tryz.func16, Tryz.ntmps16
     go_wp2
     go_ret
     exact ⟨by simp [hp], HB0.out.mod⟩
 · have f1 : (e == e') = false := by simpa using he
   go_enter Tryz.func16, Tryz.ntmps16
   go_wp2
   go_ret
   exact ⟨by simp [he], HB0.out.mod⟩
open Go.RowKit
theorem sameB_iff {x y : Vtx} (h : x.id = y.id) : sameB x y = true ↔ x = y := by
 obtain ⟨i, t, p, q⟩ := x
 obtain ⟨i', t', p', q'⟩ := y
 simp only at h
 subst h
 unfold sameB
 simp
end Go.Proofs.YtlpdifinkcjckaaGreatDoor
