import Derived.Test.YtpigipgoopeeoaaGreatDoorMOn09
import Derived.Test.YtpigipgoopeeoaaGreatDoorMOn10
set_option linter.unusedVariables false
set_option linter.unusedSimpArgs false
namespace Go.Proofs.YtpigipgoopeeoaaGreatDoor
open Go.RowKit
theorem Seg.off_box {w : World} {t t' : TypeId} {size n g : Nat} {v : Value} {xs : List Value} {cs : Array Value} (h : Seg w t size v n xs) (hg : w.heap[g]? = some (.cells cs t' (0, 0))) (hne : t ≠ t') : ∀ b, v.ownBlock = some b → ¬ b = g := by
 intro b hb e
 subst e
 rcases h.2.2 with ⟨rfl, _⟩ | ⟨g, off, cap, cur, rfl, hc, _⟩
 · simp [Value.ownBlock] at hb
 · simp [Value.ownBlock] at hb
   subst hb
   rw [hc] at hg
   injection hg with hg
   injection hg with _ h2
   exact hne h2
structure CpAt (w : World) (v : Value) (l : List Vs) (wr : World) : Prop where
 mod : Mod (fun _ => False) w wr
 box : wr.heap[w.heap.size]? = some (.cells #[v] 28 (0, 0))
 mine : LOwn wr v l
 own : ∀ b, v.ownBlock = some b → w.heap.size < b
theorem CpAt.more {w wr wy : World} {v : Value} {l : List Vs} (h : CpAt w v l wr) (m : Mod (fun _ => False) wr wy) : CpAt w v l wy :=
 ⟨h.mod.trans m, m.heap h.box (fun f => f), h.mine.mod m off_false_l, h.own⟩
theorem CpAt.start (w : World) : CpAt w (.slice none 0 0) [] (w.alloc (.cells #[.slice none 0 0] 28)) :=
 ⟨(Mod.refl _ _).alloc _, heap_alloc_new' _ _, LOwn.nil _, fun b hb => by simp [Value.ownBlock] at hb⟩
theorem CpAt.app {w wc wr wy : World} {v v' : Value} {l : List Vs} (s : Vs) (h : CpAt w v l wr) (hc : wc.heap.size ≤ wr.heap.size) (hmc : ∀ b, v.ownBlock = some b → b < wc.heap.size) (hbc : w.heap.size < wc.heap.size)
   (hv : VOwn wr s) (hp : ∀ b, s.vp.ownBlock = some b → wc.heap.size ≤ b) (hh : ∀ b, s.vh.ownBlock = some b → wc.heap.size ≤ b)
   (hs : Seg wy 104 4 v' (l.length + 1) (vcells l ++ s.cells)) (hg : wr.grownBy wy v.ownBlock) (ho : v'.ownBlock = v.ownBlock ∨ v'.ownBlock = some wr.heap.size) : CpAt w v' (l ++ [s]) (wy.setCell ⟨w.heap.size, 0, none⟩ v') := by
 have hm := mod_grown hg
 have hso : VOff (fun k => v.ownBlock = some k) s := ⟨fun b hb e => by have := hp b hb; have := hmc b e; omega, fun b hb e => by have := hh b hb; have := hmc b e; omega⟩
 have hbox : wy.heap[w.heap.size]? = some (.cells #[v] 28 (0, 0)) := hm.heap h.box (fun e => by have := h.own _ e; omega)
 have hown : ∀ b, v'.ownBlock = some b → w.heap.size < b := fun b hb => by
   rcases ho with ho | ho
   · exact h.own b (by rw [← ho]; exact hb)
   · rw [ho] at hb; injection hb with hb; omega
 have hl : LOwn wy v' (l ++ [s]) := by
   refine ⟨?_, ?_, ?_⟩
   · rw [vcells_snoc, List.length_append]; exact hs
   · intro t ht
     rcases List.mem_append.1 ht with ht | ht
     · exact (h.mine.each t ht).mod hm (h.mine.apart t ht)
     · rw [List.mem_singleton] at ht; subst ht; exact hv.mod hm hso
   · intro t ht
     rcases ho with ho | ho
     · rw [ho]
       rcases List.mem_append.1 ht with ht | ht
       · exact h.mine.apart t ht
       · rw [List.mem_singleton] at ht; subst ht; exact hso
     · rw [ho]
       have : VOff (fun k => wr.heap.size ≤ k) t := by
         rcases List.mem_append.1 ht with ht | ht
         · exact (h.mine.each t ht).lt
         · rw [List.mem_singleton] at ht; subst ht; exact hv.lt
       exact this.mono (fun k e => by injection e with e; omega)
 have m2 : Mod (fun k => k = w.heap.size) wy (wy.setCell ⟨w.heap.size, 0, none⟩ v') := (Mod.refl (fun k => k = w.heap.size) wy).setCell (p := ⟨w.heap.size, 0, none⟩) (fun _ => rfl) v'
 refine ⟨(h.mod.grown hg (fun b hb hlt => by have := h.own b hb; omega)).trans' m2 (fun i hi e => by omega), by simpa using row_setCell hbox 0 v', hl.mod m2 ⟨fun b hb e => by have := hown b hb; omega, fun t ht => ⟨?_, ?_⟩⟩, hown⟩
 · exact (hl.each t ht).props.off_box hbox (by decide)
 · exact (hl.each t ht).halves.off_box hbox (by decide)
set_option maxRecDepth 100000 in
set_option maxHeartbeats 4000000 in
theorem copy_any (g : Nat) (v : Value) (xl : List Vs) (w : World) (hg : GrAt w g v xl) (hn : xl.length ≤ 1000) (hz : ∀ x ∈ xl, Slim x.x) :
   Calls Tryz.prog 25 #[.pointer (some ⟨g, 0, none⟩)] w fun e w' => Mod (fun _ => False) w w' ∧ ∃ g' v' l', e = .returned (.pointer (some ⟨g', 0, none⟩)) ∧ GrAt w' g' v' l' ∧ l'.map Vs.x = xl.map Vs.x ∧ w.heap.size ≤ g' := by
 have HL := Lib.hid hg.lst
 have HZX := Lib.hid hz
 have HG := Lib.hid hg.box
 obtain ⟨al, cl, rfl, hcl1, hcl2, -⟩ := hg.lst.row.shape
 have g0 := cell_of_row hg.box 0
 have zg := lt_of_block hg.box
 simp at g0
 clear hg hz
 obtain ⟨m, hl⟩ : ∃ n, n = xl.length := ⟨_, rfl⟩
 have HML := Lib.hid hl
 rw [← hl] at HL hcl1 hn g0
 clear hl
 obtain ⟨i0, hi, hz0, hz1, hz2⟩ := info_parts infoVtx
 have HI : Hid (Tryz.prog.info? 104 = some i0 ∧ i0.zero = some (.agg #[.int .u32 0, .bool false, .slice none 0 0, .slice none 0 0]) ∧ i0.size = 4 ∧ i0.bytes = 56) := ⟨hi, hz0, hz1, hz2⟩
 clear hi hz0 hz1 hz2
 have HS := Lib.hid (CpAt.start w)
 go_enter Tryz.func25, Tryz.ntmps25
 go_wp2
 go_loopw [13] (fun i wr => ∃ (j : Nat) (v' : Value) (l' : List Vs), i = .int .i64 j ∧ j ≤ m ∧ CpAt w v' l' wr ∧ l'.map Vs.x = (xl.take j).map Vs.x ∧ l'.length = j) (fun i _ => m - (intOf i).toNat)
 case atStart => exact ⟨0, _, [], rfl, Nat.zero_le _, HS.out, rfl, rfl⟩
 case round =>
   obtain ⟨j, v', l', rfl, hj, hm, hd, hlj⟩ := hrel
   have HI2 := Lib.hid hm
   have HD2 := Lib.hid hd
   have HLJ := Lib.hid hlj
   have h0 := cell_of_row hm.box 0
   have h0f := free_of_row hm.box 0
   have zh := lt_of_block hm.box
   simp at h0
   clear hm hd hlj HS
   obtain ⟨am, cm, nm, hvv⟩ : ∃ ao co no, v' = .slice ao no co := by
     obtain ⟨a, c, e, _⟩ := HI2.out.mine.row.shape
     exact ⟨_, _, _, e⟩
   subst hvv
   by_cases hjm : j < m
   · obtain ⟨y, hy⟩ : ∃ y, xl[j]? = some y := ⟨_, List.getElem?_eq_getElem (by rw [← HML.out]; exact hjm)⟩
     obtain ⟨bl, offl, rfl, hbl, r0, r1, r2, r3⟩ := HL.out.ent hy rfl
     have r0 := HI2.out.mod.cell r0
     have r1 := HI2.out.mod.cell r1
     have r2 := HI2.out.mod.cell r2
     have r3 := HI2.out.mod.cell r3
     have zbl : bl < wr.heap.size := Nat.lt_of_lt_of_le hbl HI2.out.mod.size
     have HVR := Lib.hid (HL.out.at hy)
     have HTX : Hid ((xl.take (j + 1)).map Vs.x = (xl.take j).map Vs.x ++ [y.x]) := Lib.hid (take_map_succ _ hy)
     have hzy := HZX.out y (List.mem_of_getElem? hy)
     have HTW : Hid (∀ w', Mod (fun _ => False) wr w' → Calls Tryz.prog 49 #[vtxV y.x y.vp y.vh] w' (Twins w' y.x)) := Lib.hid (fun w' mm => twinV_any y.x y.vp y.vh w' (HVR.out.keep (HI2.out.mod.trans mm)) hzy.1 hzy.2)
     clear hy hzy
     obtain ⟨⟨id, there, xs, ys⟩, vp, vh⟩ := y
     obtain ⟨np, ap, cp, rfl⟩ : ∃ np ap cp, vp = .slice ap np cp := by
       obtain ⟨a, c, e, _⟩ := HVR.out.props.shape
       exact ⟨_, _, _, e⟩
     obtain ⟨nh, ah, ch, rfl⟩ : ∃ np ap cp, vh = .slice ap np cp := by
       obtain ⟨a, c, e, _⟩ := HVR.out.halves.shape
       exact ⟨_, _, _, e⟩
     simp only at r0 r1 r2 r3 HTX
     simp only [vtxV] at HTW
     clear HVR
     have HTW1 := Lib.hid (HTW.out _ (((Mod.refl (fun _ => False) wr).alloc (.cells #[.int .u32 (id : Int), .bool there, .slice ap np cp, .slice ah nh ch] 104)).drew))
     have HI3 := Lib.hid (HI2.out.more (((Mod.refl (fun _ => False) wr).alloc (.cells #[.int .u32 (id : Int), .bool there, .slice ap np cp, .slice ah nh ch] 104)).drew))
     have HOM := Lib.hid HI2.out.mine.row.lt
     clear HTW HI2
     go_wp2_with fail
     go_region_law (first
       | (go_simp; go_at_call 49; refine HTW1.out.mono ?_; rintro e w5 ⟨vp5, vh5, rfl, hm5, hn5⟩; have HI5 := Lib.hid (HI3.out.more hm5); have HN5 := Lib.hid hn5; have HZ5 := Lib.hid hm5.size; (obtain ⟨a5, c5, n5, rfl⟩ : ∃ a c n, vp5 = .slice a n c := (by obtain ⟨a, c, e, _⟩ := hn5.props.shape; exact ⟨_, _, _, e⟩)); (obtain ⟨a6, c6, n6, rfl⟩ : ∃ a c n, vh5 = .slice a n c := (by obtain ⟨a, c, e, _⟩ := hn5.halves.shape; exact ⟨_, _, _, e⟩)); have q0 := cell_of_row HI5.out.box 0; have q0f := free_of_row HI5.out.box 0; have zq := lt_of_block HI5.out.box; simp at q0; clear hm5 hn5;
          have HI6 := Lib.hid (HI5.out.more ((Mod.refl (fun _ => False) w5).alloc (.cells #[.int .u32 (id : Int), .bool there, .slice a5 n5 c5, .slice a6 n6 c6] 104)));
          have HV6 := Lib.hid (HN5.out.vown.mod ((Mod.refl (fun _ => False) w5).alloc (.cells #[.int .u32 (id : Int), .bool there, .slice a5 n5 c5, .slice a6 n6 c6] 104)) ⟨fun _ _ f => f, fun _ _ f => f⟩);
          have HSR := Lib.hid (src_cells (w := w5) rfl (size := 4) 104 #[.int .u32 (id : Int), .bool there, .slice a5 n5 c5, .slice a6 n6 c6] rfl (by simp [Value.oneCell'])))
       | (refine step_append_seg rfl (.tmp 21) (.tmp 24) 26 rfl i0 _ 4 56 Tryz.underlying26 HI.out.1 HI.out.2.1 HI.out.2.2.1 HI.out.2.2.2 rfl (by decide) rfl HI6.out.mine.row _ 1 _ rfl HSR.out (by have := HLJ.out; unfold maxLen; omega) (by have := HLJ.out; omega) ?_; intro v3 w3 hs3 hg3 ho3;
          have H3 := Lib.hid (HI6.out.app ⟨⟨id, there, xs, ys⟩, .slice a5 n5 c5, .slice a6 n6 c6⟩ (wc := wr.alloc (.cells #[.int .u32 (id : Int), .bool there, .slice ap np cp, .slice ah nh ch] 104)) (Nat.le_trans HZ5.out (by simp)) (fun b hb => by have := HOM.out b hb; simp; omega) (by simp; omega) HV6.out HN5.out.newp HN5.out.newh hs3 hg3 ho3); have HBX := Lib.hid (lt_of_block H3.out.box); (obtain ⟨a3, c3, n3, rfl⟩ : ∃ a c n, v3 = .slice a n c := (by obtain ⟨a, c, e, _⟩ := hs3.shape; exact ⟨_, _, _, e⟩)); have hb3 := grown_heap hg3 HI6.out.box (fun b hb => Nat.ne_of_gt (HI6.out.own b hb)); have q3 := cell_of_row hb3 0; have q3f := free_of_row hb3 0; have z3 := lt_of_block hb3; simp at q3; clear hs3 hg3 ho3 hb3))
     all_goals
       go_wp2
       go_roundw
       case rel => exact ⟨j + 1, _, _, by go_num, by omega, H3.out, by rw [List.map_append, HTX.out, HD2.out]; rfl, by rw [List.length_append, HLJ.out]; rfl⟩
       case measure => simp [intOf]; omega
   · have HEQ : Hid (l'.map Vs.x = xl.map Vs.x) := Lib.hid (by rw [HD2.out, List.take_of_length_le (by have := HML.out; omega)])
     go_wp2
     go_ret
     exact ⟨HI2.out.mod, _, _, _, rfl, ⟨HI2.out.box, HI2.out.mine.rd⟩, HEQ.out, Nat.le_refl _⟩
open Go.RowKit
def Opr.cells (o : Opr) : List Value := [.int .u8 (o.kind : Int), .int .u32 (o.a : Int), .int .u32 (o.b : Int), .int .u8 (o.key : Int), .int .u8 (o.val.k : Int), .int .i64 o.val.n, .string o.val.s]
def Opr.v (o : Opr) : Value := .agg o.cells.toArray
structure Opr.Fits (o : Opr) : Prop where
 kind : o.kind < 256
 a : o.a < 4294967296
 b : o.b < 4294967296
 key : o.key < 256
 val : o.val.Fits
theorem noVal_iff (vk : Nat) (vn : Int) (vs : ByteArray) : ((⟨vk, vn, vs⟩ : Val) = noVal) ↔ (vk = 0 ∧ vn = 0 ∧ vs.toList = []) := by
 unfold noVal
 rw [Val.mk.injEq]
 have : vs = ⟨#[]⟩ ↔ vs.toList = [] := by
   rw [ByteArray.toList_eq]
   obtain ⟨⟨l⟩⟩ := vs
   constructor
   · intro h; injection h with h; injection h with h
   · intro h; simp at h; rw [h]
 rw [this]
set_option maxRecDepth 100000 in
set_option maxHeartbeats 4000000 in
theorem op_1 (kind a b key vk : Nat) (vn : Int) (vs : ByteArray) (w : World) (hv : Val.Fits ⟨vk, vn, vs⟩) (hkey : key < 256) (hb : b < 4294967296) (hkd : kind = 1 ∨ kind = 2 ∨ kind = 8) :
   Calls Tryz.prog 47 #[.agg #[.int .u8 (kind : Int), .int .u32 (a : Int), .int .u32 (b : Int), .int .u8 (key : Int), .int .u8 (vk : Int), .int .i64 vn, .string vs]] w fun e w' => e = .returned (.bool (opOK ⟨kind, a, b, key, ⟨vk, vn, vs⟩⟩)) ∧ Mod (fun _ => False) w w' := by
 rcases hkd with rfl | rfl | rfl
 all_goals
   go_enter Tryz.func47, Tryz.ntmps47
   go_wp2_with (first
     | (go_at_call 48; refine (num_any _ _).mono ?_; (rintro e w1 ⟨rfl, rfl⟩)))
   all_goals
     go_ret
     refine ⟨ret_bool ?_, (Mod.refl _ _).alloc _⟩
     simp_all [opOK, Opr.two, Opr.hasKey, Opr.hasVal, noVal_iff]
set_option maxRecDepth 100000 in
set_option maxHeartbeats 4000000 in
theorem op_2 (kind a b key vk : Nat) (vn : Int) (vs : ByteArray) (w : World) (hv : Val.Fits ⟨vk, vn, vs⟩) (hkey : key < 256) (hb : b < 4294967296) (hkd : kind = 4 ∨ kind = 6 ∨ kind = 7) :
   Calls Tryz.prog 47 #[.agg #[.int .u8 (kind : Int), .int .u32 (a : Int), .int .u32 (b : Int), .int .u8 (key : Int), .int .u8 (vk : Int), .int .i64 vn, .string vs]] w fun e w' => e = .returned (.bool (opOK ⟨kind, a, b, key, ⟨vk, vn, vs⟩⟩)) ∧ Mod (fun _ => False) w w' := by
 by_cases hab : b = a
 · subst hab
   rcases hkd with rfl | rfl | rfl
   all_goals
     go_enter Tryz.func47, Tryz.ntmps47
     go_wp2_with (first
       | (go_at_call 48; refine (num_any _ _).mono ?_; (rintro e w1 ⟨rfl, rfl⟩)))
     all_goals
       go_ret
       refine ⟨ret_bool ?_, (Mod.refl _ _).alloc _⟩
       simp_all [opOK, Opr.two, Opr.hasKey, Opr.hasVal, noVal_iff]
       try omega
 · have hab' : ((b : Int) == (a : Int)) = false := by simp; omega
   rcases hkd with rfl | rfl | rfl
   all_goals
     go_enter Tryz.func47, Tryz.ntmps47
     go_wp2_with (first
       | (go_at_call 48; refine (num_any _ _).mono ?_; (rintro e w1 ⟨rfl, rfl⟩)))
     all_goals
       go_ret
       refine ⟨ret_bool ?_, (Mod.refl _ _).alloc _⟩
       simp_all [opOK, Opr.two, Opr.hasKey, Opr.hasVal, noVal_iff]
       try omega
theorem form_call (vk : Nat) (vn : Int) (vs : ByteArray) (hv : Val.Fits ⟨vk, vn, vs⟩) (w : World) : Calls Tryz.prog 68 #[.agg #[.int .u8 (vk : Int), .int .i64 vn, .string vs]] w fun e w' => e = .returned (.bool (Val.ok ⟨vk, vn, vs⟩)) ∧ Mod (fun _ => False) w w' := form_any ⟨vk, vn, vs⟩ hv w
set_option maxRecDepth 100000 in
set_option maxHeartbeats 4000000 in
theorem op_3 (kind a b key vk : Nat) (vn : Int) (vs : ByteArray) (w : World) (hv : Val.Fits ⟨vk, vn, vs⟩) (hkey : key < 256) (hb : b < 4294967296) (hkd : kind = 3 ∨ kind = 5 ∨ kind = 9) :
   Calls Tryz.prog 47 #[.agg #[.int .u8 (kind : Int), .int .u32 (a : Int), .int .u32 (b : Int), .int .u8 (key : Int), .int .u8 (vk : Int), .int .i64 vn, .string vs]] w fun e w' => e = .returned (.bool (opOK ⟨kind, a, b, key, ⟨vk, vn, vs⟩⟩)) ∧ Mod (fun _ => False) w w' := by
 have HFM := Lib.hid (form_call vk vn vs hv)
 obtain ⟨vok, hvok⟩ : ∃ vok, vok = Val.ok ⟨vk, vn, vs⟩ := ⟨_, rfl⟩
 rw [← hvok] at HFM
 have hm : ∀ (w w' : World) (o : Obj), Mod (fun _ => False) (w.alloc o) w' → Mod (fun _ => False) w w' := fun w w' o m => ((Mod.refl _ _).alloc _).trans m
 have HMM := Lib.hid hm
 clear hm
 by_cases hab : b = a
 · subst hab
   rcases hkd with rfl | rfl | rfl
   all_goals
     go_enter Tryz.func47, Tryz.ntmps47
     go_wp2_with (first
       | (go_at_call 48; refine (num_any _ _).mono ?_; (rintro e w1 ⟨rfl, rfl⟩))
       | (go_at_call 68; refine (HFM.out _).mono ?_; (rintro e w1 ⟨rfl, hm1⟩); have HM1 := Lib.hid (HMM.out _ _ _ hm1); clear hm1))
     all_goals
       go_ret
       refine ⟨ret_bool ?_, by first | exact HM1.out | exact (Mod.refl _ _).alloc _⟩
       simp_all [opOK, Opr.two, Opr.hasKey, Opr.hasVal, noVal_iff]
       try omega
 · have hab' : ((b : Int) == (a : Int)) = false := by simp; omega
   rcases hkd with rfl | rfl | rfl
   all_goals
     go_enter Tryz.func47, Tryz.ntmps47
     go_wp2_with (first
       | (go_at_call 48; refine (num_any _ _).mono ?_; (rintro e w1 ⟨rfl, rfl⟩))
       | (go_at_call 68; refine (HFM.out _).mono ?_; (rintro e w1 ⟨rfl, hm1⟩); have HM1 := Lib.hid (HMM.out _ _ _ hm1); clear hm1))
     all_goals
       go_ret
       refine ⟨ret_bool ?_, by first | exact HM1.out | exact (Mod.refl _ _).alloc _⟩
       simp_all [opOK, Opr.two, Opr.hasKey, Opr.hasVal, noVal_iff]
       try omega
set_option maxRecDepth 100000 in
set_option maxHeartbeats 4000000 in
theorem op_0 (kind a b key vk : Nat) (vn : Int) (vs : ByteArray) (w : World) (hk : kind < 1 ∨ 9 < kind) :
   Calls Tryz.prog 47 #[.agg #[.int .u8 (kind : Int), .int .u32 (a : Int), .int .u32 (b : Int), .int .u8 (key : Int), .int .u8 (vk : Int), .int .i64 vn, .string vs]] w fun e w' => e = .returned (.bool (opOK ⟨kind, a, b, key, ⟨vk, vn, vs⟩⟩)) ∧ Mod (fun _ => False) w w' := by
 have HF : Hid (opOK ⟨kind, a, b, key, ⟨vk, vn, vs⟩⟩ = false) := Lib.hid (by
   unfold opOK
   rcases hk with h | h
   · have : ¬ 1 ≤ kind := by omega
     simp [this]
   · have : ¬ kind ≤ 9 := by omega
     simp [this])
 have k3 : ((kind : Int) == 3) = false := by simp; omega
 have k4 : ((kind : Int) == 4) = false := by simp; omega
 have k5 : ((kind : Int) == 5) = false := by simp; omega
 have k6 : ((kind : Int) == 6) = false := by simp; omega
 have k7 : ((kind : Int) == 7) = false := by simp; omega
 have k9 : ((kind : Int) == 9) = false := by simp; omega
 rcases hk with h | h
 · obtain rfl : kind = 0 := by omega
   clear k3 k4 k5 k6 k7 k9 h
   go_enter Tryz.func47, Tryz.ntmps47
   go_wp2
   go_ret
   exact ⟨ret_bool HF.out.symm, (Mod.refl _ _).alloc _⟩
 · have h1 : ¬ (kind : Int) < 1 := by omega
   have h9 : (9 : Int) < (kind : Int) := by omega
   clear h
   go_enter Tryz.func47, Tryz.ntmps47
   go_wp2
   go_ret
   exact ⟨ret_bool HF.out.symm, (Mod.refl _ _).alloc _⟩
theorem opd_any (o : Opr) (ho : o.Fits) (w : World) : Calls Tryz.prog 47 #[o.v] w fun e w' => e = .returned (.bool (opOK o)) ∧ Mod (fun _ => False) w w' := by
 obtain ⟨kind, a, b, key, ⟨vk, vn, vs⟩⟩ := o
 by_cases h0 : kind < 1 ∨ 9 < kind
 · exact op_0 kind a b key vk vn vs w h0
 · by_cases h1 : kind = 1 ∨ kind = 2 ∨ kind = 8
   · exact op_1 kind a b key vk vn vs w ho.val ho.key ho.b h1
   · by_cases h2 : kind = 4 ∨ kind = 6 ∨ kind = 7
     · exact op_2 kind a b key vk vn vs w ho.val ho.key ho.b h2
     · exact op_3 kind a b key vk vn vs w ho.val ho.key ho.b (by omega)
open Go.RowKit
def ocells (l : List Opr) : List Value := l.flatMap Opr.cells
theorem opr_cells (o : Opr) : o.cells.length = 7 := rfl
structure ORd (w : World) (v : Value) (l : List Opr) : Prop where
 row : RdS w 7 v l.length (ocells l)
 fits : ∀ o ∈ l, o.Fits
theorem ORd.keep {w w' : World} {v : Value} {l : List Opr} (h : ORd w v l) (m : Mod (fun _ => False) w w') : ORd w' v l := ⟨h.row.keep m, h.fits⟩
theorem ORd.ent {w : World} {v : Value} {l : List Opr} (h : ORd w v l) {i : Nat} {x : Opr} (hi : l[i]? = some x) {a : Option Addr} {n c : Nat} (e : v = .slice a n c) :
   ∃ b off, a = some ⟨b, off, none⟩ ∧ b < w.heap.size ∧ w.cell? ⟨b, off + i * 7, none⟩ = some (.int .u8 (x.kind : Int)) ∧ w.cell? ⟨b, off + i * 7 + 1, none⟩ = some (.int .u32 (x.a : Int)) ∧ w.cell? ⟨b, off + i * 7 + 2, none⟩ = some (.int .u32 (x.b : Int)) ∧ w.cell? ⟨b, off + i * 7 + 3, none⟩ = some (.int .u8 (x.key : Int)) ∧ w.cell? ⟨b, off + i * 7 + 4, none⟩ = some (.int .u8 (x.val.k : Int)) ∧ w.cell? ⟨b, off + i * 7 + 5, none⟩ = some (.int .i64 x.val.n) ∧ w.cell? ⟨b, off + i * 7 + 6, none⟩ = some (.string x.val.s) := by
 have g := fun j hj => flat_get Opr.cells opr_cells l i j x hi (show j < 7 from hj)
 obtain ⟨a', c', e', -⟩ := h.row.shape
 rw [e] at e'
 injection e' with e1 e2 e3
 rw [e2] at e
 have k : ∀ j u, j < 7 → x.cells[j]? = some u → ∃ b off, a = some ⟨b, off, none⟩ ∧ b < w.heap.size ∧ w.cell? ⟨b, off + (i * 7 + j), none⟩ = some u := fun j u hj hu => h.row.cell a c e (i * 7 + j) u (by unfold ocells; rw [g j hj]; exact hu)
 obtain ⟨b, off, ea, hb, h0⟩ := k 0 _ (by omega) rfl
 have r : ∀ j u, j < 7 → x.cells[j]? = some u → w.cell? ⟨b, off + (i * 7 + j), none⟩ = some u := fun j u hj hu => by
   obtain ⟨b1, off1, ea1, _, h1⟩ := k j u hj hu
   rw [ea] at ea1
   injection ea1 with e1; injection e1 with e1 e2
   subst e1 e2
   exact h1
 refine ⟨b, off, ea, hb, h0, ?_, ?_, ?_, ?_, ?_, ?_⟩
 · rw [Nat.add_assoc]; exact r 1 _ (by omega) rfl
 · rw [Nat.add_assoc]; exact r 2 _ (by omega) rfl
 · rw [Nat.add_assoc]; exact r 3 _ (by omega) rfl
 · rw [Nat.add_assoc]; exact r 4 _ (by omega) rfl
 · rw [Nat.add_assoc]; exact r 5 _ (by omega) rfl
 · rw [Nat.add_assoc]; exact r 6 _ (by omega) rfl
def rqV (r : Rqt) (vo : Value) : Value := .agg #[.int .u8 (r.kind : Int), vo, .int .u32 (r.v : Int), .int .i64 r.k, .int .i64 r.dest]
structure Rqt.Fits (r : Rqt) : Prop where
 kind : r.kind < 256
 v : r.v < 4294967296
 k : -9223372036854775808 ≤ r.k ∧ r.k < 9223372036854775808
 dest : -9223372036854775808 ≤ r.dest ∧ r.dest < 9223372036854775808
theorem op_call (kind a b key vk : Nat) (vn : Int) (vs : ByteArray) (ho : Opr.Fits ⟨kind, a, b, key, ⟨vk, vn, vs⟩⟩) (w : World) : Calls Tryz.prog 47 #[.agg #[.int .u8 (kind : Int), .int .u32 (a : Int), .int .u32 (b : Int), .int .u8 (key : Int), .int .u8 (vk : Int), .int .i64 vn, .string vs]] w fun e w' => e = .returned (.bool (opOK ⟨kind, a, b, key, ⟨vk, vn, vs⟩⟩)) ∧ Mod (fun _ => False) w w' := opd_any ⟨kind, a, b, key, ⟨vk, vn, vs⟩⟩ ho w
def checkT (n : Nat) (ok : Bool) (v : Nat) (k d : Int) : Nat := if n < 1 ∨ 6 < n then 2 else if ok = false then 3 else if v ≠ 0 ∨ k ≠ 0 ∨ d ≠ 0 then 3 else 0
theorem checkR_1 (ops : List Opr) (v : Nat) (k d : Int) : checkR ⟨1, ops, v, k, d⟩ = checkT ops.length (ops.all opOK) v k d := by
 unfold checkR checkT
 simp
set_option maxRecDepth 100000 in
set_option maxHeartbeats 4000000 in
theorem dcheck_1 (ops : List Opr) (v : Nat) (k d : Int) (vo : Value) (w : World) (ho : ORd w vo ops) :
   Calls Tryz.prog 20 #[.agg #[.int .u8 1, vo, .int .u32 (v : Int), .int .i64 k, .int .i64 d]] w fun e w' => e = .returned (.int .i64 (checkR ⟨1, ops, v, k, d⟩ : Nat)) ∧ Mod (fun _ => False) w w' := by
 rw [checkR_1]
 have HV := Lib.hid ho
 obtain ⟨a, c, rfl, hc1, hc2, -⟩ := ho.row.shape
 obtain ⟨n, hn⟩ : ∃ n, n = ops.length := ⟨_, rfl⟩
 have HN := Lib.hid hn
 rw [← hn] at HV hc1 ⊢
 clear hn ho
 have hcode : ∀ z : Nat, checkT n (ops.all opOK) v k d = z → ∀ e, e = Ending.returned (.int .i64 (z : Int)) → e = .returned (.int .i64 (checkT n (ops.all opOK) v k d : Nat)) := fun z h e he => by rw [h]; exact he
 have HC := Lib.hid hcode
 clear hcode
 have hbx := Lib.hid (heap_alloc_new' w (.cells #[.int .u8 1, .slice a n c, .int .u32 (v : Int), .int .i64 k, .int .i64 d] 34))
 by_cases hl : n < 1 ∨ 6 < n
 · have HR : Hid (checkT n (ops.all opOK) v k d = 2) := Lib.hid (by unfold checkT; rw [if_pos hl])
   rcases hl with hl | hl
   · obtain rfl : n = 0 := by omega
     go_enter Tryz.func20, Tryz.ntmps20
     go_wp2
     go_ret
     exact ⟨HC.out _ HR.out _ rfl, (Mod.refl _ _).alloc _⟩
   · have h6 : (6 : Int) < (n : Int) := by omega
     have h1 : ¬ (n : Int) < 1 := by omega
     go_enter Tryz.func20, Tryz.ntmps20
     go_wp2
     go_ret
     exact ⟨HC.out _ HR.out _ rfl, (Mod.refl _ _).alloc _⟩
 · have h6 : ¬ (6 : Int) < (n : Int) := by omega
   have h1 : ¬ (n : Int) < 1 := by omega
   have HNL := Lib.hid hl
   clear hl
   go_enter Tryz.func20, Tryz.ntmps20
   go_wp2
   go_loopw [67] (fun i wr => ∃ j : Nat, i = .int .i64 j ∧ j ≤ n ∧ (ops.take j).all opOK = true ∧ Mod (fun _ => False) (w.alloc (.cells #[.int .u8 1, .slice a n c, .int .u32 (v : Int), .int .i64 k, .int .i64 d] 34)) wr) (fun i _ => n - (intOf i).toNat)
   case atStart => exact ⟨0, rfl, Nat.zero_le _, by simp, Mod.refl _ _⟩
   case round =>
     obtain ⟨j, rfl, hj, hall, hm⟩ := hrel
     have HALL := Lib.hid hall
     have HM0 := Lib.hid hm
     have HM : Hid (Mod (fun _ => False) w wr) := Lib.hid (((Mod.refl _ _).alloc _).trans hm)
     have hb := hm.heap hbx.out (fun f => f)
     have b2 := cell_of_row hb 2
     have b3 := cell_of_row hb 3
     have b4 := cell_of_row hb 4
     simp at b2 b3 b4
     clear hall hm hb
     by_cases hjn : j < n
     · obtain ⟨x, hx⟩ : ∃ x, ops[j]? = some x := ⟨_, List.getElem?_eq_getElem (by rw [← HN.out]; exact hjn)⟩
       obtain ⟨bl, offl, e0, hbl, r0, r1, r2, r3, r4, r5, r6⟩ := HV.out.ent hx rfl
       have r0 := HM.out.cell r0
       have r1 := HM.out.cell r1
       have r2 := HM.out.cell r2
       have r3 := HM.out.cell r3
       have r4 := HM.out.cell r4
       have r5 := HM.out.cell r5
       have r6 := HM.out.cell r6
       have zbl : bl < wr.heap.size := Nat.lt_of_lt_of_le hbl HM.out.size
       have HTK := Lib.hid (take_snoc hx)
       have HFO := Lib.hid (HV.out.fits x (List.mem_of_getElem? hx))
       have HMEM := Lib.hid (List.mem_of_getElem? hx)
       clear hx hbl
       obtain ⟨kind, oa, ob, okey, ⟨vk, vn, vs⟩⟩ := x
       simp only at r0 r1 r2 r3 r4 r5 r6
       subst e0
       obtain ⟨bo, hbo⟩ : ∃ bo, opOK ⟨kind, oa, ob, okey, ⟨vk, vn, vs⟩⟩ = bo := ⟨_, rfl⟩
       have HBO := Lib.hid hbo
       have HOP := Lib.hid (op_call kind oa ob okey vk vn vs HFO.out)
       rw [hbo] at HOP
       clear hbo
       cases bo with
       | true =>
         go_wp2_with (go_at_call 47; refine (HOP.out _).mono ?_; (rintro e w1 ⟨rfl, hm1⟩); have HM1 := Lib.hid (((Mod.refl (fun _ => False) wr).alloc _).trans hm1); clear hm1)
         go_roundw
         case rel => exact ⟨j + 1, by go_num, by omega, by rw [HTK.out, List.all_append, HALL.out]; simp [HBO.out], HM0.out.trans HM1.out⟩
         case measure => simp [intOf]; omega
       | false =>
         have HR : Hid (checkT n (ops.all opOK) v k d = 3) := Lib.hid (by
           have : ops.all opOK = false := by
             rw [List.all_eq_false]
             exact ⟨_, HMEM.out, by rw [HBO.out]; simp⟩
           unfold checkT; rw [if_neg HNL.out, if_pos this])
         go_wp2_with (go_at_call 47; refine (HOP.out _).mono ?_; (rintro e w1 ⟨rfl, hm1⟩); have HM1 := Lib.hid (((Mod.refl (fun _ => False) wr).alloc _).trans hm1); clear hm1)
         go_ret
         exact ⟨HC.out _ HR.out _ rfl, HM.out.trans HM1.out⟩
     · have HALT : Hid (ops.all opOK = true) := Lib.hid (by
         have h := HALL.out
         rwa [List.take_of_length_le (by have := HN.out; omega)] at h)
       have HCT : Hid (checkT n (ops.all opOK) v k d = if v ≠ 0 ∨ k ≠ 0 ∨ d ≠ 0 then 3 else 0) := Lib.hid (by unfold checkT; rw [if_neg HNL.out, HALT.out]; simp)
       by_cases hz : v ≠ 0 ∨ k ≠ 0 ∨ d ≠ 0
       · have HR : Hid (checkT n (ops.all opOK) v k d = 3) := Lib.hid (by rw [HCT.out, if_pos hz])
         by_cases hv : v = 0
         · subst hv
           by_cases hk : k = 0
           · subst hk
             have hd : (d != 0) = true := by simp at hz; simp [hz]
             clear hz
             go_wp2
             go_ret
             exact ⟨HC.out _ HR.out _ rfl, HM.out⟩
           · have hk : (k != 0) = true := by simp [hk]
             clear hz
             go_wp2
             go_ret
             exact ⟨HC.out _ HR.out _ rfl, HM.out⟩
         · have hk : ((v : Int) != 0) = true := by simp [hv]
           clear hz
           go_wp2
           go_ret
           exact ⟨HC.out _ HR.out _ rfl, HM.out⟩
       · have HR : Hid (checkT n (ops.all opOK) v k d = 0) := Lib.hid (by rw [HCT.out, if_neg hz])
         obtain rfl : v = 0 := by simp at hz; exact hz.1
         obtain rfl : k = 0 := by simp at hz; exact hz.1
         obtain rfl : d = 0 := by simpa using hz
         clear hz
         go_wp2
         go_ret
         exact ⟨HC.out _ HR.out _ rfl, HM.out⟩
def checkO (n v : Nat) (x y : Int) (m : Int) : Nat := if x < 0 ∨ m < x then 1 else if 0 < n ∨ numB v = false ∨ y ≠ 0 then 3 else 0
theorem checkR_2 (ops : List Opr) (v : Nat) (k d : Int) : checkR ⟨2, ops, v, k, d⟩ = checkO ops.length v k d 8 := by
 unfold checkR checkO
 simp
theorem checkR_3 (ops : List Opr) (v : Nat) (k d : Int) : checkR ⟨3, ops, v, k, d⟩ = checkO ops.length v d k 3 := by
 unfold checkR checkO
 simp
set_option maxRecDepth 100000 in
set_option maxHeartbeats 4000000 in
theorem dcheck_2 (n v : Nat) (k d : Int) (a : Option Addr) (c : Nat) (w : World) :
   Calls Tryz.prog 20 #[.agg #[.int .u8 2, .slice a n c, .int .u32 (v : Int), .int .i64 k, .int .i64 d]] w fun e w' => e = .returned (.int .i64 (checkO n v k d 8 : Nat)) ∧ Mod (fun _ => False) w w' := by
 have hcode : ∀ z : Nat, checkO n v k d 8 = z → ∀ e, e = Ending.returned (.int .i64 (z : Int)) → e = .returned (.int .i64 (checkO n v k d 8 : Nat)) := fun z h e he => by rw [h]; exact he
 have HC := Lib.hid hcode
 clear hcode
 by_cases hx : k < 0 ∨ 8 < k
 · have HR : Hid (checkO n v k d 8 = 1) := Lib.hid (by unfold checkO; rw [if_pos hx])
   rcases hx with hx | hx
   · go_enter Tryz.func20, Tryz.ntmps20
     go_wp2
     go_ret
     exact ⟨HC.out _ HR.out _ rfl, (Mod.refl _ _).alloc _⟩
   · have h0 : ¬ k < 0 := by omega
     go_enter Tryz.func20, Tryz.ntmps20
     go_wp2
     go_ret
     exact ⟨HC.out _ HR.out _ rfl, (Mod.refl _ _).alloc _⟩
 · have h0 : ¬ k < 0 := by omega
   have h8 : ¬ 8 < k := by omega
   have HU : Hid (checkO n v k d 8 = if 0 < n ∨ numB v = false ∨ d ≠ 0 then 3 else 0) := Lib.hid (by unfold checkO; rw [if_neg hx])
   clear hx
   by_cases hn : 0 < n
   · have HR : Hid (checkO n v k d 8 = 3) := Lib.hid (by rw [HU.out, if_pos (.inl hn)])
     have hn' : (0 : Int) < (n : Int) := by omega
     go_enter Tryz.func20, Tryz.ntmps20
     go_wp2
     go_ret
     exact ⟨HC.out _ HR.out _ rfl, (Mod.refl _ _).alloc _⟩
   · obtain rfl : n = 0 := by omega
     obtain ⟨bv, hbv⟩ : ∃ bv, numB v = bv := ⟨_, rfl⟩
     have HNU := Lib.hid (num_any v)
     rw [hbv] at HNU
     by_cases hd : d = 0
     · subst hd
       cases bv with
       | true =>
         have HR : Hid (checkO 0 v k 0 8 = 0) := Lib.hid (by rw [HU.out, hbv]; simp)
         clear hn hbv
         go_enter Tryz.func20, Tryz.ntmps20
         go_wp2_with (go_at_call 48; refine (HNU.out _).mono ?_; (rintro e w1 ⟨rfl, rfl⟩))
         go_ret
         exact ⟨HC.out _ HR.out _ rfl, (Mod.refl _ _).alloc _⟩
       | false =>
         have HR : Hid (checkO 0 v k 0 8 = 3) := Lib.hid (by rw [HU.out, hbv]; simp)
         clear hn hbv
         go_enter Tryz.func20, Tryz.ntmps20
         go_wp2_with (go_at_call 48; refine (HNU.out _).mono ?_; (rintro e w1 ⟨rfl, rfl⟩))
         go_ret
         exact ⟨HC.out _ HR.out _ rfl, (Mod.refl _ _).alloc _⟩
     · have HR : Hid (checkO 0 v k d 8 = 3) := Lib.hid (by rw [HU.out, if_pos (.inr (.inr hd))])
       have hd' : (d != 0) = true := by simp [hd]
       clear hn hbv hd
       cases bv
       all_goals
         go_enter Tryz.func20, Tryz.ntmps20
         go_wp2_with (go_at_call 48; refine (HNU.out _).mono ?_; (rintro e w1 ⟨rfl, rfl⟩))
         go_ret
         exact ⟨HC.out _ HR.out _ rfl, (Mod.refl _ _).alloc _⟩
set_option maxRecDepth 100000 in
set_option maxHeartbeats 4000000 in
theorem dcheck_3 (n v : Nat) (k d : Int) (a : Option Addr) (c : Nat) (w : World) :
   Calls Tryz.prog 20 #[.agg #[.int .u8 3, .slice a n c, .int .u32 (v : Int), .int .i64 k, .int .i64 d]] w fun e w' => e = .returned (.int .i64 (checkO n v d k 3 : Nat)) ∧ Mod (fun _ => False) w w' := by
 have hcode : ∀ z : Nat, checkO n v d k 3 = z → ∀ e, e = Ending.returned (.int .i64 (z : Int)) → e = .returned (.int .i64 (checkO n v d k 3 : Nat)) := fun z h e he => by rw [h]; exact he
 have HC := Lib.hid hcode
 clear hcode
 by_cases hx : d < 0 ∨ 3 < d
 · have HR : Hid (checkO n v d k 3 = 1) := Lib.hid (by unfold checkO; rw [if_pos hx])
   rcases hx with hx | hx
   · go_enter Tryz.func20, Tryz.ntmps20
     go_wp2
     go_ret
     exact ⟨HC.out _ HR.out _ rfl, (Mod.refl _ _).alloc _⟩
   · have h0 : ¬ d < 0 := by omega
     go_enter Tryz.func20, Tryz.ntmps20
     go_wp2
     go_ret
     exact ⟨HC.out _ HR.out _ rfl, (Mod.refl _ _).alloc _⟩
 · have h0 : ¬ d < 0 := by omega
   have h8 : ¬ 3 < d := by omega
   have HU : Hid (checkO n v d k 3 = if 0 < n ∨ numB v = false ∨ k ≠ 0 then 3 else 0) := Lib.hid (by unfold checkO; rw [if_neg hx])
   clear hx
   by_cases hn : 0 < n
   · have HR : Hid (checkO n v d k 3 = 3) := Lib.hid (by rw [HU.out, if_pos (.inl hn)])
     have hn' : (0 : Int) < (n : Int) := by omega
     go_enter Tryz.func20, Tryz.ntmps20
     go_wp2
     go_ret
     exact ⟨HC.out _ HR.out _ rfl, (Mod.refl _ _).alloc _⟩
   · obtain rfl : n = 0 := by omega
     obtain ⟨bv, hbv⟩ : ∃ bv, numB v = bv := ⟨_, rfl⟩
     have HNU := Lib.hid (num_any v)
     rw [hbv] at HNU
     by_cases hd : k = 0
     · subst hd
       cases bv with
       | true =>
         have HR : Hid (checkO 0 v d 0 3 = 0) := Lib.hid (by rw [HU.out, hbv]; simp)
         clear hn hbv
         go_enter Tryz.func20, Tryz.ntmps20
         go_wp2_with (go_at_call 48; refine (HNU.out _).mono ?_; (rintro e w1 ⟨rfl, rfl⟩))
         go_ret
         exact ⟨HC.out _ HR.out _ rfl, (Mod.refl _ _).alloc _⟩
       | false =>
         have HR : Hid (checkO 0 v d 0 3 = 3) := Lib.hid (by rw [HU.out, hbv]; simp)
         clear hn hbv
         go_enter Tryz.func20, Tryz.ntmps20
         go_wp2_with (go_at_call 48; refine (HNU.out _).mono ?_; (rintro e w1 ⟨rfl, rfl⟩))
         go_ret
         exact ⟨HC.out _ HR.out _ rfl, (Mod.refl _ _).alloc _⟩
     · have HR : Hid (checkO 0 v d k 3 = 3) := Lib.hid (by rw [HU.out, if_pos (.inr (.inr hd))])
       have hd' : (k != 0) = true := by simp [hd]
       clear hn hbv hd
       cases bv
       all_goals
         go_enter Tryz.func20, Tryz.ntmps20
         go_wp2_with (go_at_call 48; refine (HNU.out _).mono ?_; (rintro e w1 ⟨rfl, rfl⟩))
         go_ret
         exact ⟨HC.out _ HR.out _ rfl, (Mod.refl _ _).alloc _⟩
set_option maxRecDepth 100000 in
set_option maxHeartbeats 4000000 in
theorem dcheck_0 (kind n v : Nat) (k d : Int) (a : Option Addr) (c : Nat) (w : World) (hk : kind < 1 ∨ 3 < kind) :
   Calls Tryz.prog 20 #[.agg #[.int .u8 (kind : Int), .slice a n c, .int .u32 (v : Int), .int .i64 k, .int .i64 d]] w fun e w' => e = .returned (.int .i64 1) ∧ Mod (fun _ => False) w w' := by
 rcases hk with h | h
 · obtain rfl : kind = 0 := by omega
   clear h
   go_enter Tryz.func20, Tryz.ntmps20
   go_wp2
   go_ret
   exact ⟨rfl, (Mod.refl _ _).alloc _⟩
 · have h1 : ¬ (kind : Int) < 1 := by omega
   have h9 : (3 : Int) < (kind : Int) := by omega
   clear h
   go_enter Tryz.func20, Tryz.ntmps20
   go_wp2
   go_ret
   exact ⟨rfl, (Mod.refl _ _).alloc _⟩
theorem dcheck_any (r : Rqt) (vo : Value) (w : World) (ho : ORd w vo r.ops) : Calls Tryz.prog 20 #[rqV r vo] w fun e w' => e = .returned (.int .i64 (checkR r : Nat)) ∧ Mod (fun _ => False) w w' := by
 obtain ⟨kind, ops, v, k, d⟩ := r
 obtain ⟨a, c, rfl, -⟩ := ho.row.shape
 simp only at ho ⊢
 by_cases h0 : kind < 1 ∨ 3 < kind
 · have e : checkR ⟨kind, ops, v, k, d⟩ = 1 := by unfold checkR; rw [if_pos (by rcases h0 with h | h; exact .inl h; exact .inr (.inl h))]
   rw [e]
   exact dcheck_0 kind _ v k d a c w h0
 · by_cases h1 : kind = 1
   · subst h1; exact dcheck_1 ops v k d _ w ho
   · by_cases h2 : kind = 2
     · subst h2; rw [checkR_2]; exact dcheck_2 _ v k d a c w
     · obtain rfl : kind = 3 := by omega
       rw [checkR_3]; exact dcheck_3 _ v k d a c w
open Go.RowKit
theorem layG_set {α : Type} {key : α → Nat} {x : α} : ∀ {l : List α}, Rising key l → ∀ {i : Nat} {y : α}, l[i]? = some y → key x = key y → layG key x false l = l.set i x
 | [], _, i, y, hy, _ => by simp at hy
 | z :: r, h, i, y, hy, hk => by
   obtain ⟨h1, h2⟩ := List.pairwise_cons.1 h
   cases i with
   | zero =>
     simp at hy
     subst hy
     have g : ∀ t ∈ r, key x < key t := fun t ht => by have := h1 t ht; omega
     have e1 : r.filter (fun t => decide (key t < key x)) = [] := by
       rw [List.filter_eq_nil_iff]; intro t ht; have := g t ht; simp; omega
     have e2 : r.filter (fun t => decide (key x < key t)) = r := by
       rw [List.filter_eq_self]; intro t ht; simpa using g t ht
     rw [layG, show (false || decide (key x < key z)) = false by simp; omega, layG_open x r h2, e1, e2]
     have n1 : ¬ key x < key z := by omega
     have n2 : key z = key x := by omega
     simp [n1, n2]
   | succ i =>
     simp at hy
     have hz := h1 y (List.mem_of_getElem? hy)
     have n1 : ¬ key x < key z := by omega
     have n2 : ¬ key z = key x := by omega
     rw [layG, show (false || decide (key x < key z)) = false by simp [n1], layG_set h2 hy hk]
     simp [n1, n2]
theorem layG_map {α β : Type} (f : α → β) (ka : α → Nat) (kb : β → Nat) (hk : ∀ a, kb (f a) = ka a) (x : α) : ∀ (l : List α) (d : Bool), (layG ka x d l).map f = layG kb (f x) d (l.map f)
 | [], d => by cases d <;> simp [layG]
 | y :: r, d => by
   rw [layG, List.map_cons, layG, List.map_append, List.map_append, layG_map f ka kb hk x r]
   simp only [hk]
   congr 1
   congr 1
   · split <;> simp
   · split <;> simp
theorem lay_map (s : Vs) (l : List Vs) (d : Bool) : (layG keyS s d l).map Vs.x = layG Vtx.id s.x d (l.map Vs.x) := layG_map Vs.x keyS Vtx.id (fun _ => rfl) s l d
theorem find_map (l : List Vs) (v : Nat) : findV (l.map Vs.x) v = (l.find? fun s => s.x.id == v).map Vs.x := by
 unfold findV
 rw [List.find?_map]
 rfl
theorem find_none {l : List Vs} {v : Nat} (h : findV (l.map Vs.x) v = none) : atI l v = -1 := by
 rw [find_map, Option.map_eq_none_iff, List.find?_eq_none] at h
 exact atI_none (fun s hs => by simpa using h s hs)
theorem find_some {l : List Vs} {v : Nat} {x : Vtx} (h : findV (l.map Vs.x) v = some x) : ∃ (i : Nat) (s : Vs), atI l v = (i : Int) ∧ l[i]? = some s ∧ s.x = x ∧ x.id = v := by
 rw [find_map, Option.map_eq_some_iff] at h
 obtain ⟨s, hs, rfl⟩ := h
 rw [List.find?_eq_some_iff_getElem] at hs
 obtain ⟨h1, i, hi, h2, h3⟩ := hs
 have hid : s.x.id = v := by simpa using h1
 refine ⟨i, s, atI_some (by rw [← h2]; exact List.getElem?_eq_getElem hi) hid (fun t ht => ?_), by rw [← h2]; exact List.getElem?_eq_getElem hi, rfl, hid⟩
 obtain ⟨j, hj, rfl⟩ := List.mem_take_iff_getElem.1 ht
 simpa using h3 j (by omega)
def Val.cells (v : Val) : List Value := [.int .u8 (v.k : Int), .int .i64 v.n, .string v.s]
def vvcells (l : List Val) : List Value := l.flatMap Val.cells
structure Tame (l : List Vs) : Prop where
 rise : Rising keyS l
 len : l.length ≤ 900
 each : ∀ s ∈ l, s.x.there = true ∧ s.x.props.length ≤ 900 ∧ s.x.halves.length ≤ 900
def OneP (g : Nat) (l : List Vs) (o : Opr) (w : World) (e : Ending) (w' : World) : Prop :=
 Mod (fun k => k = g) w w' ∧ ∃ vo v' l', e = .returned (.tuple #[.int .i64 ((oneG (l.map Vs.x) o).e : Nat), vo]) ∧ GrAt w' g v' l' ∧ l'.map Vs.x = (oneG (l.map Vs.x) o).g ∧ RdS w' 3 vo (oneG (l.map Vs.x) o).vals.length (vvcells (oneG (l.map Vs.x) o).vals)
theorem RdS.none (w : World) (size : Nat) : RdS w size (.slice none 0 0) 0 [] := ⟨by simp, ⟨_, _, rfl, Nat.le_refl _, by decide, fun _ => rfl⟩, fun a c _ j u hu => by simp at hu⟩
theorem OneP.stay {g : Nat} {v vo : Value} {l : List Vs} {o : Opr} {w w' : World} {z : Nat} {vals : List Val} (hg : GrAt w g v l) (m : Mod (fun _ => False) w w') (he : oneG (l.map Vs.x) o = ⟨z, l.map Vs.x, vals⟩) (hv : RdS w' 3 vo vals.length (vvcells vals)) :
   OneP g l o w (.returned (.tuple #[.int .i64 (z : Int), vo])) w' := by
 refine ⟨m.mono (fun _ _ f => f.elim), vo, v, l, by rw [he], hg.keep m, by rw [he], by rw [he]; exact hv⟩
theorem OneP.laid {g : Nat} {v' : Value} {l l' : List Vs} {o : Opr} {w w' : World} {L : Gr} (hg : GrAt w' g v' l') (m : Mod (fun k => k = g) w w') (he : oneG (l.map Vs.x) o = ⟨0, L, []⟩) (hl : l'.map Vs.x = L) :
   OneP g l o w (.returned (.tuple #[.int .i64 0, .slice none 0 0])) w' := by
 refine ⟨m, _, v', l', by rw [he]; rfl, hg, by rw [he]; exact hl, by rw [he]; exact RdS.none _ _⟩
theorem vrd_empty (w : World) (id : Nat) (there : Bool) (h : id < 4294967296) : VRd w (.slice none 0 0) (.slice none 0 0) ⟨id, there, [], []⟩ :=
 ⟨⟨h, by simp, by simp⟩, RdS.none _ _, RdS.none _ _⟩
set_option maxRecDepth 100000 in
set_option maxHeartbeats 4000000 in
theorem one_1 (g : Nat) (v : Value) (l : List Vs) (a b key vk : Nat) (vn : Int) (vs : ByteArray) (w : World) (hg : GrAt w g v l) (ht : Tame l) (hf : Opr.Fits ⟨1, a, b, key, ⟨vk, vn, vs⟩⟩) :
   Calls Tryz.prog 26 #[.pointer (some ⟨g, 0, none⟩), .agg #[.int .u8 1, .int .u32 (a : Int), .int .u32 (b : Int), .int .u8 (key : Int), .int .u8 (vk : Int), .int .i64 vn, .string vs]] w (OneP g l ⟨1, a, b, key, ⟨vk, vn, vs⟩⟩ w) := by
 have HG := Lib.hid hg
 have HT := Lib.hid ht
 have HF := Lib.hid hf
 obtain ⟨W, hW⟩ : ∃ W, W = w.alloc (.cells #[.int .u8 1, .int .u32 (a : Int), .int .u32 (b : Int), .int .u8 (key : Int), .int .u8 (vk : Int), .int .i64 vn, .string vs] 79) := ⟨_, rfl⟩
 have HW := Lib.hid hW
 have hb : W.heap[w.heap.size]? = some (.cells #[.int .u8 1, .int .u32 (a : Int), .int .u32 (b : Int), .int .u8 (key : Int), .int .u8 (vk : Int), .int .i64 vn, .string vs] 79 (0, 0)) := by rw [hW]; exact heap_alloc_new' w _
 have HB := Lib.hid hb
 have c1 := cell_of_row hb 1
 have c2 := cell_of_row hb 2
 simp at c1 c2
 have c1 : ∀ x : MW W, x.w.cell? _ = some _ := fun x => x.cell c1
 have c2 : ∀ x : MW W, x.w.cell? _ = some _ := fun x => x.cell c2
 have HGW : Hid (GrAt W g v l) := Lib.hid (hg.keep (by rw [hW]; exact (Mod.refl _ _).alloc _))
 have HAT : Hid (∀ (x : MW W) (f : Nat), Calls Tryz.prog 23 #[.pointer (some ⟨g, 0, none⟩), .int .u32 (f : Int)] x.w fun e w' => e = .returned (.int .i64 (atI l f)) ∧ ∃ x' : MW W, w' = x'.w) := Lib.hid (fun x f => Calls.quietM (at_any g v l f x.w (HGW.out.keep x.mod)))
 clear hb hg ht hf
 go_enter Tryz.func26, Tryz.ntmps26
 go_wp2_with fail
 rw [← HW.out]
 clear hW
 refine wp_region_quietM (by kernel_rfl) (by kernel_rfl) ?_
 repeat (go_big_quiet_step ((go_at_call 23; exact HAT.out _ _)))
 refine wpQuiet_nil ?_
 intro w3 hm3
 have M3 := Lib.hid (MW.mod_of hm3)
 have M3' : Hid (Mod (fun _ => False) w w3) := Lib.hid (by have h : Mod (fun _ => False) w W := by { rw [HW.out]; exact (Mod.refl _ _).alloc _ }; exact h.trans M3.out)
 have hb3 := M3.out.heap HB.out (fun f => f)
 have d0 := cell_of_row hb3 0
 have d1 := cell_of_row hb3 1
 simp at d0 d1
 clear hm3 c1 c2 HAT hb3
 generalize atI l b = ib
 cases hfa : findV (l.map Vs.x) a with
 | some x =>
   obtain ⟨i, s, hi, hs, rfl, hid⟩ := find_some hfa
   have HE : Hid (oneG (l.map Vs.x) ⟨1, a, b, key, ⟨vk, vn, vs⟩⟩ = ⟨7, l.map Vs.x, []⟩) := Lib.hid (by unfold oneG; rw [hfa]; simp)
   rw [hi]
   clear hi hs hfa hid
   go_wp2
   refine bodyPost_ret (v := .tuple #[.int .i64 7, .slice none 0 0]) (by simp [results, Tryz.results26, go_sem]) rfl ?_
   exact OneP.stay HG.out M3'.out HE.out (RdS.none _ _)
 | none =>
   rw [find_none hfa]
   have HE : Hid (oneG (l.map Vs.x) ⟨1, a, b, key, ⟨vk, vn, vs⟩⟩ = ⟨0, layV ⟨a, true, [], []⟩ (l.map Vs.x), []⟩) := Lib.hid (by unfold oneG; rw [hfa]; simp)
   clear hfa
   have HLAY := Lib.hid (lay_any g v l ⟨⟨a, true, [], []⟩, .slice none 0 0, .slice none 0 0⟩ w3 (HG.out.keep M3'.out) (vrd_empty _ _ _ HF.out.a) (by have := HT.out.len; omega))
   go_wp2_with (go_at_call 50; refine HLAY.out.mono ?_; (rintro e w4 ⟨rfl, hm4, v4, hg4⟩); have M4 := Lib.hid ((M3'.out.mono (fun _ _ f => f.elim)).trans hm4); have HG4 := Lib.hid hg4; clear hm4 hg4)
   refine bodyPost_ret (v := .tuple #[.int .i64 0, .slice none 0 0]) (by simp [results, Tryz.results26, go_sem]) rfl ?_
   exact OneP.laid HG4.out M4.out HE.out (by rw [lay_map]; rfl)
end Go.Proofs.YtpigipgoopeeoaaGreatDoor
