import Derived.Test.YtlpdifinkcjckaaGreatDoorMEn11
import Derived.Test.YtlpdifinkcjckaaGreatDoorMEn20
set_option linter.unusedVariables false
set_option linter.unusedSimpArgs false
namespace Go.Proofs.YtlpdifinkcjckaaGreatDoor
open Go.RowKit Go.Maps
def wF (x : Wt) : Nat × Value := (x.1, .int .u8 (x.2 : Int))
def wtC (x : Wt) : List Value := [.int .u32 (x.1 : Int), .int .u8 (x.2 : Int)]
theorem infoWant : (Tryz.prog.info? 43).map (fun i => (i.zero, i.size, i.bytes)) = some (some (.agg #[.int .u32 0, .int .u8 0]), 2, 8) := by kernel_rfl
theorem getW (k : Nat) (l : List Wt) : (getL k (l.map wF)).getD (.int .u8 0) = .int .u8 (wget k l : Int) := by
 rw [getL_map]
 unfold wget
 show ((l.find? fun y => y.1 == k).map fun y => Value.int .u8 (y.2 : Int)).getD (.int .u8 0) = _
 cases l.find? (fun y => y.1 == k) <;> rfl
theorem putW (k m : Nat) {l : List Wt} (h : Rising Prod.fst l) : putL k (.int .u8 (m : Int)) (l.map wF) = (wput k m l).map wF := putL_map wF (k, m) h
theorem wput_len (k m : Nat) (l : List Wt) : (wput k m l).length ≤ l.length + 1 := by
 have := layG_length (key := Prod.fst) (x := ((k, m) : Wt)) (t := l) (d := false)
 unfold wput; simpa using this
structure WRd (w : World) (v : Value) (l : List Wt) : Prop where
 row : RdS w 2 v l.length (l.flatMap wtC)
 fits : ∀ x ∈ l, x.1 < 4294967296 ∧ x.2 < 256
theorem WRd.keep {w w' : World} {v : Value} {l : List Wt} (h : WRd w v l) (m : Mod (fun _ => False) w w') : WRd w' v l := ⟨h.row.keep m, h.fits⟩
theorem WRd.ent {w : World} {v : Value} {l : List Wt} (h : WRd w v l) {i : Nat} {x : Wt} (hi : l[i]? = some x) {a : Option Addr} {n c : Nat} (e : v = .slice a n c) :
   ∃ b off, a = some ⟨b, off, none⟩ ∧ b < w.heap.size ∧ w.cell? ⟨b, off + i * 2, none⟩ = some (.int .u32 (x.1 : Int)) ∧ w.cell? ⟨b, off + i * 2 + 1, none⟩ = some (.int .u8 (x.2 : Int)) := by
 have g := fun j hj => flat_get wtC (size := 2) (fun _ => rfl) l i j x hi hj
 obtain ⟨b, off, ea, hb, h0⟩ := h.row.cell a c (by obtain ⟨a', c', e', -⟩ := h.row.shape; rw [e] at e' ⊢; injection e' with _ e2 _; rw [e2]) (i * 2 + 0) (.int .u32 (x.1 : Int)) (by rw [g 0 (by omega)]; rfl)
 obtain ⟨b1, off1, ea1, _, h1⟩ := h.row.cell a c (by obtain ⟨a', c', e', -⟩ := h.row.shape; rw [e] at e' ⊢; injection e' with _ e2 _; rw [e2]) (i * 2 + 1) (.int .u8 (x.2 : Int)) (by rw [g 1 (by omega)]; rfl)
 rw [ea] at ea1
 injection ea1 with e1; injection e1 with e1 e1'
 subst e1 e1'
 exact ⟨b, off, ea, hb, h0, by rw [Nat.add_assoc]; exact h1⟩
def txq (ops : List Opr) : Rqt := ⟨1, ops, 0, 0, 0⟩
def wantsR (ops : List Opr) : List Wt := if checkR (txq ops) = 0 then wantsP ops else []
theorem wantsP_fits {ops : List Opr} (h : ∀ o ∈ ops, opOK o = true) : ∀ x ∈ wantsP ops, x.1 < 4294967296 ∧ x.2 < 256 := fun x hx => by have := wants_mem h hx; omega
structure WSeg (w w' : World) (v : Value) (l : List Wt) : Prop where
 seg : Seg w' 43 2 v l.length (l.flatMap wtC)
 own : ∀ b, v.ownBlock = some b → w.heap.size ≤ b
 mod : Mod (fun _ => False) w w'
 fits : ∀ x ∈ l, x.1 < 4294967296 ∧ x.2 < 256
theorem WSeg.rd {w w' : World} {v : Value} {l : List Wt} (h : WSeg w w' v l) : WRd w' v l := ⟨h.seg.rdS, h.fits⟩
theorem WSeg.keep {w w' wx : World} {v : Value} {l : List Wt} (h : WSeg w w' v l) (m : Mod (fun _ => False) w' wx) : WSeg w wx v l := ⟨h.seg.mod m (fun _ _ f => f), h.own, h.mod.trans m, h.fits⟩
theorem WSeg.from {w0 w w' : World} {v : Value} {l : List Wt} (h : WSeg w w' v l) (m : Mod (fun _ => False) w0 w) : WSeg w0 w' v l := ⟨h.seg, fun b hb => Nat.le_trans m.size (h.own b hb), m.trans h.mod, h.fits⟩
theorem WSeg.next {w wr w5 w3 : World} {v v3 : Value} {l : List Wt} {x : Wt} (h : WSeg w wr v l) (m : Mod (fun _ => False) wr w5) (hx : x.1 < 4294967296 ∧ x.2 < 256) {k : Nat} (hk : k = l.length) (hs : Seg w3 43 2 v3 (k + 1) (l.flatMap wtC ++ [.int .u32 (x.1 : Int), .int .u8 (x.2 : Int)])) (hg : w5.grownBy w3 v.ownBlock) (ho : v3.ownBlock = v.ownBlock ∨ v3.ownBlock = some w5.heap.size) : WSeg w w3 v3 (l ++ [x]) := by
 subst hk
 refine ⟨by rw [List.length_append, List.flatMap_append]; simpa [wtC] using hs, fun b hb => ?_, (h.mod.trans m).grown hg (fun b hb hlt => by have := h.own b hb; omega), fun y hy => ?_⟩
 · rcases ho with e | e
   · exact h.own b (e ▸ hb)
   · rw [e] at hb; injection hb with hb
     have := (h.mod.trans m).size; omega
 · rcases List.mem_append.1 hy with hy | hy
   · exact h.fits y hy
   · rw [List.mem_singleton] at hy; rw [hy]; exact hx
theorem request_any (a : Option Addr) (n c : Nat) (w : World) : Calls Tryz.prog 35 #[.slice a n c] w fun e w' => e = .returned (.agg #[.int .u8 1, .slice a n c, .int .u32 0, .int .i64 0, .int .i64 0]) ∧ Mod (fun _ => False) w w' := by
 go_enter Tryz.func35, Tryz.ntmps35
 go_wp2
 refine bodyPost_ret (v := .agg #[.int .u8 1, .slice a n c, .int .u32 0, .int .i64 0, .int .i64 0]) (by simp [results, Tryz.results35, go_sem]) rfl ?_
 exact ⟨rfl, (Mod.refl _ _).alloc _⟩
structure WM (w : World) (bm : Nat) (l : List Wt) (wr : World) : Prop where
 map : UMap Tryz.prog 27 .u32 wr bm (l.map wF)
 mod : Mod (fun _ => False) w wr
 lo : w.heap.size ≤ bm
theorem WM.put {w wr w2 : World} {bm : Nat} {l : List Wt} (h : WM w bm l wr) (m : Mod (fun _ => False) wr w2) (hr : Rising Prod.fst l) (hl : l.length < 1000000) {k : Nat} (hk : k < 4294967296) (c : Nat) :
   ∃ w3, (Instr.mapUpdate 92 (.map (some bm)) (.int .u32 (k : Int)) (.int .u8 (c : Int))).run Tryz.prog w2 = .ok () w3 ∧ WM w bm (wput k c l) w3 ∧ Mod (fun i => i = bm) w2 w3 := by
 obtain ⟨w3, e, U, M⟩ := (h.map.keep m).store Tryz.underlying27 Tryz.underlying92 (by rw [List.length_map]; unfold maxLen; omega) (u32key hk) (.int .u8 (c : Int))
 rw [putW k c hr] at U
 exact ⟨w3, e, ⟨U, (h.mod.trans m).trans' M (fun i hi e => by have := h.lo; omega), h.lo⟩, M⟩
theorem zero_u8 (w : World) : (zeroValue 5).run Tryz.prog w = .ok (.int .u8 0) w := Tryz.zeroValue5 w
theorem WM.look {w wr w2 : World} {bm : Nat} {l : List Wt} (h : WM w bm l wr) (m : Mod (fun _ => False) wr w2) {k : Nat} (hk : k < 4294967296) :
   (Instr.lookup 92 (.map (some bm)) (.int .u32 (k : Int)) false).run Tryz.prog w2 = .ok (.int .u8 (wget k l : Int)) w2 := by
 have := (h.map.keep m).get Tryz.underlying27 Tryz.underlying92 (zero_u8 w2) (u32key hk)
 rw [getW] at this
 exact this
theorem WM.keep {w wr w2 : World} {bm : Nat} {l : List Wt} (h : WM w bm l wr) (m : Mod (fun _ => False) wr w2) : WM w bm l w2 := ⟨h.map.keep m, h.mod.trans m, h.lo⟩
theorem eseg_box {w : World} {e : TypeId} {size n : Nat} {v : Value} {xs : List Value} (h : Seg w e size v n xs) {b : Nat} (hb : v.ownBlock = some b) : ∃ cur, w.heap[b]? = some (.cells cur e (0, 0)) := by
 rcases h.2.2 with ⟨rfl, _⟩ | ⟨g, off, cap, cur, rfl, hg, _⟩
 · simp [Value.ownBlock] at hb
 · simp [Value.ownBlock] at hb
   subst hb
   exact ⟨cur, hg⟩
theorem eseg_map {w : World} {e : TypeId} {size n : Nat} {v : Value} {xs : List Value} {P : Program} {kt : TypeId} {q : IntKind} {b : Nat} {es : Ents} (h : Seg w e size v n xs) (hm : UMap P kt q w b es) : v.ownBlock ≠ some b := fun hb => by
 obtain ⟨cur, hc⟩ := eseg_box h hb
 obtain ⟨xs, clock, hx⟩ := hm.isMap
 rw [hx] at hc
 cases hc
theorem eseg_seg {w : World} {e e' : TypeId} {size n size' n' : Nat} {v v' : Value} {xs xs' : List Value} (h : Seg w e size v n xs) (h' : Seg w e' size' v' n' xs') (hne : e ≠ e') : ∀ k, v'.ownBlock = some k → ¬ v.ownBlock = some k := fun k hk hb => by
 obtain ⟨cur, hc⟩ := eseg_box h hb
 obtain ⟨cur', hc'⟩ := eseg_box h' hk
 rw [hc] at hc'
 injection hc' with hc'
 injection hc' with _ hc' _
 exact hne hc'
theorem WM.off {w wr w7 : World} {bm : Nat} {l : List Wt} {e : TypeId} {size n : Nat} {v : Value} {xs : List Value} (h : WM w bm l wr) (hs : Seg wr e size v n xs) (m : Mod (fun k => v.ownBlock = some k) wr w7) (m' : Mod (fun _ => False) w w7) : WM w bm l w7 := ⟨h.map.mod m (eseg_map hs h.map), m', h.lo⟩
set_option maxRecDepth 100000 in
set_option maxHeartbeats 4000000 in
theorem wants_any (ops : List Opr) (vo : Value) (w : World) (ho : ORd w vo ops) :
   Calls Tryz.prog 12 #[vo] w fun e w' => ∃ v, e = .returned (.tuple #[v, .int .i64 (checkR (txq ops) : Nat)]) ∧ WSeg w w' v (wantsR ops) := by
 have HO := Lib.hid ho
 obtain ⟨a, c, rfl, hc1, hc2, -⟩ := ho.row.shape
 obtain ⟨n, hn⟩ : ∃ n, n = ops.length := ⟨_, rfl⟩
 have HN := Lib.hid hn
 rw [← hn] at HO hc1 ⊢
 have HCK : Hid (∀ w', Mod (fun _ => False) w w' → Calls Tryz.prog 32 #[.agg #[.int .u8 1, .slice a n c, .int .u32 0, .int .i64 0, .int .i64 0]] w' fun e w'' => e = .returned (.int .i64 (checkR (txq ops) : Nat)) ∧ Mod (fun _ => False) w' w'') := Lib.hid (fun w' m => gcheck_any (txq ops) (.slice a n c) w' (HO.out.keep m))
 have HOK : Hid (checkR (txq ops) = 0 → (∀ o ∈ ops, opOK o = true) ∧ 1 ≤ ops.length ∧ ops.length ≤ 6) := Lib.hid (fun h => checkR_tx h rfl)
 have HWR : Hid (wantsR ops = if checkR (txq ops) = 0 then wantsP ops else []) := Lib.hid rfl
 generalize checkR (txq ops) = ck at HCK HOK HWR ⊢
 clear hn ho
 go_enter Tryz.func12, Tryz.ntmps12
 have hmm := @run_makeMap Tryz.prog
 by_cases hck : ck = 0
 rotate_left
 · have hck' : ¬ (ck : Int) = 0 := by omega
   have HE : Hid (wantsR ops = []) := Lib.hid (by rw [HWR.out, if_neg hck])
   clear hck
   go_wp2_with (first
     | (go_at_call 32; refine (HCK.out _ HMQ.out).mono ?_; (rintro e w1 ⟨rfl, hm1⟩); have HM1 := Lib.hid (HMQ.out.trans hm1); clear hm1)
     | (go_at_call 35; refine (request_any _ _ _ _).mono ?_; (rintro e w0 ⟨rfl, hmq⟩); have HMQ := Lib.hid hmq; clear hmq))
   go_ret2
   exact ⟨_, rfl, by rw [HE.out]; exact ⟨Seg.nil _ _ _, fun b hb => by simp [Value.ownBlock] at hb, HM1.out, by simp⟩⟩
 subst hck
 have HOKA := Lib.hid (HOK.out rfl)
 have HE : Hid (wantsR ops = wantsP ops) := Lib.hid (by rw [HWR.out, if_pos rfl])
 clear HOK HWR
 go_wp2_with (first
   | (go_at_call 32; refine (HCK.out _ HMQ.out).mono ?_; (rintro e w1 ⟨rfl, hm1⟩); have HM1 := Lib.hid (HMQ.out.trans hm1); clear hm1)
   | (go_at_call 35; refine (request_any _ _ _ _).mono ?_; (rintro e w0 ⟨rfl, hmq⟩); have HMQ := Lib.hid hmq; clear hmq))
 have HW0 : Hid (WM w w1.heap.size [] (w1.alloc (.map #[] 0))) := Lib.hid ⟨UMap.made _ _ _ _, HM1.out.alloc _, HM1.out.size⟩
 obtain ⟨bm, hbm⟩ : ∃ b, b = w1.heap.size := ⟨_, rfl⟩
 rw [← hbm] at HW0 ⊢
 clear hbm hmm
 go_loopw [20] (fun i wr => ∃ k : Nat, i = .int .i64 (k : Int) ∧ k ≤ n ∧ WM w bm (wantsP (ops.take k)) wr) (fun i _ => n - (intOf i).toNat)
 case atStart => exact ⟨0, rfl, Nat.zero_le _, by rw [List.take_zero]; exact HW0.out⟩
 case round =>
   obtain ⟨k, rfl, hk, hwm⟩ := hrel
   have HWM := Lib.hid hwm
   clear hwm HW0
   by_cases hkn : k < n
   · obtain ⟨x, hx⟩ : ∃ x, ops[k]? = some x := ⟨_, List.getElem?_eq_getElem (by rw [← HN.out]; exact hkn)⟩
     obtain ⟨bl, offl, e0, hbl, r0, r1, r2, r3, r4, r5, r6⟩ := HO.out.ent hx rfl
     have HTK : Hid (wantsP (ops.take (k + 1)) = wstep (wantsP (ops.take k)) x) := Lib.hid (by
       obtain ⟨h1, h2⟩ := List.getElem?_eq_some_iff.1 hx
       rw [List.take_succ_eq_append_getElem h1, h2, wantsP_snoc])
     have hox := HOKA.out.1 x (List.mem_of_getElem? hx)
     have hfx := HO.out.fits x (List.mem_of_getElem? hx)
     have hoks : ∀ o ∈ ops.take k, opOK o = true := fun o ho => HOKA.out.1 o (List.mem_of_mem_take ho)
     have HRS := Lib.hid (wantsP_ok hoks).rise
     have HSH := Lib.hid (wants_short hoks)
     have HKD := Lib.hid (opOK_parts hox).1
     have HFA := Lib.hid hfx.a
     have HFB := Lib.hid hfx.b
     have HWG : Hid (wget x.a (wantsP (ops.take k)) ≤ 2) := Lib.hid (by rw [(wantsP_ok hoks).get]; exact modeL_le _ _)
     replace r0 := HWM.out.mod.cell r0
     replace r1 := HWM.out.mod.cell r1
     replace r2 := HWM.out.mod.cell r2
     replace r3 := HWM.out.mod.cell r3
     replace r4 := HWM.out.mod.cell r4
     replace r5 := HWM.out.mod.cell r5
     replace r6 := HWM.out.mod.cell r6
     have zbl : bl < wr.heap.size := Nat.lt_of_lt_of_le hbl HWM.out.mod.size
     subst e0
     clear hx hbl hox hfx hoks
     obtain ⟨kind, oa, ob, okey, ⟨vk, vn, vs⟩⟩ := x
     simp only at r0 r1 r2 r3 r4 r5 r6 HFA HFB HKD HWG HTK
     have hkd : kind = 1 ∨ kind = 2 ∨ kind = 3 ∨ kind = 4 ∨ kind = 5 ∨ kind = 6 ∨ kind = 7 ∨ kind = 8 ∨ kind = 9 := by have := HKD.out; omega
     have zbm : bm < wr.heap.size := HWM.out.map.lt
     generalize wantsP (ops.take k) = L at HWM HTK HRS HSH HWG
     rcases hkd with rfl | rfl | rfl | rfl | rfl | rfl | rfl | rfl | rfl
     · have hmq : Mod (fun _ => False) wr (wr.alloc (.cells #[.int .u8 1, .int .u32 (oa : Int), .int .u32 (ob : Int), .int .u8 (okey : Int), .int .u8 (vk : Int), .int .i64 vn, .string vs] 82)) := (Mod.refl _ _).alloc _
       obtain ⟨w4, e4, HA4, M4⟩ := HWM.out.put hmq HRS.out (by have := HSH.out; omega) HFA.out 2
       rw [show ((2 : Nat) : Int) = 2 from rfl] at e4
       have HR := Lib.hid HA4
       clear HA4 M4 hmq
       have HTK2 : Hid (wantsP (ops.take (k + 1)) = wput oa 2 L) := Lib.hid (by rw [HTK.out]; unfold wstep; rw [if_neg (by simp), if_pos (by simp)])
       go_wp2
       go_roundw
       case rel => exact ⟨k + 1, by go_num, by omega, by rw [HTK2.out]; exact HR.out⟩
       case measure => simp [intOf]; omega
     · have hmq : Mod (fun _ => False) wr (wr.alloc (.cells #[.int .u8 2, .int .u32 (oa : Int), .int .u32 (ob : Int), .int .u8 (okey : Int), .int .u8 (vk : Int), .int .i64 vn, .string vs] 82)) := (Mod.refl _ _).alloc _
       obtain ⟨w4, e4, HA4, M4⟩ := HWM.out.put hmq HRS.out (by have := HSH.out; omega) HFA.out 2
       rw [show ((2 : Nat) : Int) = 2 from rfl] at e4
       have HR := Lib.hid HA4
       clear HA4 M4 hmq
       have HTK2 : Hid (wantsP (ops.take (k + 1)) = wput oa 2 L) := Lib.hid (by rw [HTK.out]; unfold wstep; rw [if_neg (by simp), if_pos (by simp)])
       go_wp2
       go_roundw
       case rel => exact ⟨k + 1, by go_num, by omega, by rw [HTK2.out]; exact HR.out⟩
       case measure => simp [intOf]; omega
     · have hmq : Mod (fun _ => False) wr (wr.alloc (.cells #[.int .u8 3, .int .u32 (oa : Int), .int .u32 (ob : Int), .int .u8 (okey : Int), .int .u8 (vk : Int), .int .i64 vn, .string vs] 82)) := (Mod.refl _ _).alloc _
       obtain ⟨w4, e4, HA4, M4⟩ := HWM.out.put hmq HRS.out (by have := HSH.out; omega) HFA.out 2
       rw [show ((2 : Nat) : Int) = 2 from rfl] at e4
       have HR := Lib.hid HA4
       clear HA4 M4 hmq
       have HTK2 : Hid (wantsP (ops.take (k + 1)) = wput oa 2 L) := Lib.hid (by rw [HTK.out]; unfold wstep; rw [if_neg (by simp), if_pos (by simp)])
       go_wp2
       go_roundw
       case rel => exact ⟨k + 1, by go_num, by omega, by rw [HTK2.out]; exact HR.out⟩
       case measure => simp [intOf]; omega
     · have hmq : Mod (fun _ => False) wr (wr.alloc (.cells #[.int .u8 4, .int .u32 (oa : Int), .int .u32 (ob : Int), .int .u8 (okey : Int), .int .u8 (vk : Int), .int .i64 vn, .string vs] 82)) := (Mod.refl _ _).alloc _
       have lk := HWM.out.look hmq HFA.out
       obtain ⟨gq, hgq⟩ : ∃ g, g = wget oa L := ⟨_, rfl⟩
       rw [← hgq] at lk HWG
       have hg2 := HWG.out
       obtain ⟨w4, e4, HA4, M4⟩ := HWM.out.put hmq HRS.out (by have := HSH.out; omega) HFA.out (max gq 1)
       have HR := Lib.hid HA4
       clear HA4 M4 hmq
       have HTK2 : Hid (wantsP (ops.take (k + 1)) = wput oa (max gq 1) L) := Lib.hid (by rw [HTK.out, hgq]; unfold wstep; rw [if_neg (by simp), if_neg (by simp)])
       have emx : (((max gq 1 : Nat) : Int)) = max (gq : Int) 1 := by omega
       rw [emx] at e4
       clear hgq emx
       go_wp2
       go_roundw
       case rel => exact ⟨k + 1, by go_num, by omega, by rw [HTK2.out]; exact HR.out⟩
       case measure => simp [intOf]; omega
     · have hmq : Mod (fun _ => False) wr (wr.alloc (.cells #[.int .u8 5, .int .u32 (oa : Int), .int .u32 (ob : Int), .int .u8 (okey : Int), .int .u8 (vk : Int), .int .i64 vn, .string vs] 82)) := (Mod.refl _ _).alloc _
       obtain ⟨w3, e3, HA3, M3⟩ := HWM.out.put hmq HRS.out (by have := HSH.out; omega) HFB.out 2
       obtain ⟨w4, e4, HA4, M4⟩ := HA3.put (Mod.refl _ _) (Rising.lay HRS.out) (by have := HSH.out; have := wput_len ob 2 L; omega) HFA.out 2
       rw [show ((2 : Nat) : Int) = 2 from rfl] at e3 e4
       have HR := Lib.hid HA4
       have hb3 := M3.heap (heap_alloc_new' wr (.cells #[.int .u8 5, .int .u32 (oa : Int), .int .u32 (ob : Int), .int .u8 (okey : Int), .int .u8 (vk : Int), .int .i64 vn, .string vs] 82)) (by omega)
       have c1 := cell_of_row hb3 1
       have zc := lt_of_block hb3
       simp at c1
       clear HA3 HA4 M3 M4 hb3 hmq
       have HTK2 : Hid (wantsP (ops.take (k + 1)) = wput oa 2 (wput ob 2 L)) := Lib.hid (by rw [HTK.out]; unfold wstep; rw [if_pos (by simp)])
       go_wp2
       go_roundw
       case rel => exact ⟨k + 1, by go_num, by omega, by rw [HTK2.out]; exact HR.out⟩
       case measure => simp [intOf]; omega
     · have hmq : Mod (fun _ => False) wr (wr.alloc (.cells #[.int .u8 6, .int .u32 (oa : Int), .int .u32 (ob : Int), .int .u8 (okey : Int), .int .u8 (vk : Int), .int .i64 vn, .string vs] 82)) := (Mod.refl _ _).alloc _
       obtain ⟨w3, e3, HA3, M3⟩ := HWM.out.put hmq HRS.out (by have := HSH.out; omega) HFB.out 2
       obtain ⟨w4, e4, HA4, M4⟩ := HA3.put (Mod.refl _ _) (Rising.lay HRS.out) (by have := HSH.out; have := wput_len ob 2 L; omega) HFA.out 2
       rw [show ((2 : Nat) : Int) = 2 from rfl] at e3 e4
       have HR := Lib.hid HA4
       have hb3 := M3.heap (heap_alloc_new' wr (.cells #[.int .u8 6, .int .u32 (oa : Int), .int .u32 (ob : Int), .int .u8 (okey : Int), .int .u8 (vk : Int), .int .i64 vn, .string vs] 82)) (by omega)
       have c1 := cell_of_row hb3 1
       have zc := lt_of_block hb3
       simp at c1
       clear HA3 HA4 M3 M4 hb3 hmq
       have HTK2 : Hid (wantsP (ops.take (k + 1)) = wput oa 2 (wput ob 2 L)) := Lib.hid (by rw [HTK.out]; unfold wstep; rw [if_pos (by simp)])
       go_wp2
       go_roundw
       case rel => exact ⟨k + 1, by go_num, by omega, by rw [HTK2.out]; exact HR.out⟩
       case measure => simp [intOf]; omega
     · have hmq : Mod (fun _ => False) wr (wr.alloc (.cells #[.int .u8 7, .int .u32 (oa : Int), .int .u32 (ob : Int), .int .u8 (okey : Int), .int .u8 (vk : Int), .int .i64 vn, .string vs] 82)) := (Mod.refl _ _).alloc _
       have lk := HWM.out.look hmq HFA.out
       obtain ⟨gq, hgq⟩ : ∃ g, g = wget oa L := ⟨_, rfl⟩
       rw [← hgq] at lk HWG
       have hg2 := HWG.out
       obtain ⟨w4, e4, HA4, M4⟩ := HWM.out.put hmq HRS.out (by have := HSH.out; omega) HFA.out (max gq 1)
       have HR := Lib.hid HA4
       clear HA4 M4 hmq
       have HTK2 : Hid (wantsP (ops.take (k + 1)) = wput oa (max gq 1) L) := Lib.hid (by rw [HTK.out, hgq]; unfold wstep; rw [if_neg (by simp), if_neg (by simp)])
       have emx : (((max gq 1 : Nat) : Int)) = max (gq : Int) 1 := by omega
       rw [emx] at e4
       clear hgq emx
       go_wp2
       go_roundw
       case rel => exact ⟨k + 1, by go_num, by omega, by rw [HTK2.out]; exact HR.out⟩
       case measure => simp [intOf]; omega
     · have hmq : Mod (fun _ => False) wr (wr.alloc (.cells #[.int .u8 8, .int .u32 (oa : Int), .int .u32 (ob : Int), .int .u8 (okey : Int), .int .u8 (vk : Int), .int .i64 vn, .string vs] 82)) := (Mod.refl _ _).alloc _
       have lk := HWM.out.look hmq HFA.out
       obtain ⟨gq, hgq⟩ : ∃ g, g = wget oa L := ⟨_, rfl⟩
       rw [← hgq] at lk HWG
       have hg2 := HWG.out
       obtain ⟨w4, e4, HA4, M4⟩ := HWM.out.put hmq HRS.out (by have := HSH.out; omega) HFA.out (max gq 1)
       have HR := Lib.hid HA4
       clear HA4 M4 hmq
       have HTK2 : Hid (wantsP (ops.take (k + 1)) = wput oa (max gq 1) L) := Lib.hid (by rw [HTK.out, hgq]; unfold wstep; rw [if_neg (by simp), if_neg (by simp)])
       have emx : (((max gq 1 : Nat) : Int)) = max (gq : Int) 1 := by omega
       rw [emx] at e4
       clear hgq emx
       go_wp2
       go_roundw
       case rel => exact ⟨k + 1, by go_num, by omega, by rw [HTK2.out]; exact HR.out⟩
       case measure => simp [intOf]; omega
     · have hmq : Mod (fun _ => False) wr (wr.alloc (.cells #[.int .u8 9, .int .u32 (oa : Int), .int .u32 (ob : Int), .int .u8 (okey : Int), .int .u8 (vk : Int), .int .i64 vn, .string vs] 82)) := (Mod.refl _ _).alloc _
       have lk := HWM.out.look hmq HFA.out
       obtain ⟨gq, hgq⟩ : ∃ g, g = wget oa L := ⟨_, rfl⟩
       rw [← hgq] at lk HWG
       have hg2 := HWG.out
       obtain ⟨w4, e4, HA4, M4⟩ := HWM.out.put hmq HRS.out (by have := HSH.out; omega) HFA.out (max gq 1)
       have HR := Lib.hid HA4
       clear HA4 M4 hmq
       have HTK2 : Hid (wantsP (ops.take (k + 1)) = wput oa (max gq 1) L) := Lib.hid (by rw [HTK.out, hgq]; unfold wstep; rw [if_neg (by simp), if_neg (by simp)])
       have emx : (((max gq 1 : Nat) : Int)) = max (gq : Int) 1 := by omega
       rw [emx] at e4
       clear hgq emx
       go_wp2
       go_roundw
       case rel => exact ⟨k + 1, by go_num, by omega, by rw [HTK2.out]; exact HR.out⟩
       case measure => simp [intOf]; omega
   · have HFIN : Hid (WM w bm (wantsP ops) wr) := Lib.hid (by
       have h := HWM.out
       rwa [List.take_of_length_le (by have := HN.out; omega)] at h)
     obtain ⟨wo, rfl⟩ : ∃ wo : World, wo = wr := ⟨_, rfl⟩
     have HLW := Lib.hid (wants_short HOKA.out.1)
     have HFT := Lib.hid (wantsP_fits HOKA.out.1)
     have HGT := Lib.hid (fun k => (wantsP_ok HOKA.out.1).get k)
     have HMEM := Lib.hid (fun x => (wantsP_ok HOKA.out.1).mem x)
     have HE2 := HE
     obtain ⟨L, hL⟩ : ∃ L, L = wantsP ops := ⟨_, rfl⟩
     rw [← hL] at HFIN HLW HFT HGT HMEM HE2
     clear hL HWM HE
     obtain ⟨q, hq⟩ : ∃ q, q = L.length := ⟨_, rfl⟩
     have HQ := Lib.hid hq
     have hq40 : q ≤ 40 := by have := HLW.out; omega
     have HK : Hid (Calls Tryz.prog 36 #[.func (.func 63) #[] #[.pointer (some ⟨wo.heap.size, 0, none⟩)]] (wo.alloc (.cells #[.map (some bm)] 92)) fun e w' => ∃ v, e = .returned v ∧ SegN wo w' v (L.map (·.1))) := Lib.hid (by
       have h := sortedKeysMd bm (L.map wF) wo HFIN.out.map (by rw [List.length_map]; omega)
       have e : (L.map wF).map (·.1) = L.map (·.1) := by simp [wF, Function.comp_def]
       rw [e] at h
       exact h)
     clear hq
     go_wp2_with (first
       | (go_at_call 37; refine (keysMd (some bm) _).mono ?_; (rintro e w3 ⟨rfl, rfl⟩))
       | (go_at_call 36; refine HK.out.mono ?_; (rintro e w4 ⟨kv, rfl, hs⟩); have HWF := Lib.hid (HFIN.out.keep hs.mod); have HS3 : Hid (Seg w4 27 1 kv q ((L.map (·.1)).map (keyV .u32))) := Lib.hid (by have h := hs.seg; rw [List.length_map, ← HQ.out] at h; exact h); (obtain ⟨ak, ck, rfl, -⟩ := HS3.out.shape); clear hs))
     obtain ⟨i0, hi, hz0, hz1, hz2⟩ := info_parts infoWant
     have HI : Hid (Tryz.prog.info? 43 = some i0 ∧ i0.zero = some (.agg #[.int .u32 0, .int .u8 0]) ∧ i0.size = 2 ∧ i0.bytes = 8) := ⟨hi, hz0, hz1, hz2⟩
     clear hi hz0 hz1 hz2
     go_loopw [52, 8] (fun i u wr => ∃ k : Nat, i = .int .i64 (k : Int) ∧ k ≤ q ∧ WSeg w wr u (L.take k) ∧ WM w bm L wr ∧ Seg wr 27 1 (.slice ak q ck) q ((L.map (·.1)).map (keyV .u32))) (fun i _ _ => q - (intOf i).toNat)
     case atStart => exact ⟨0, rfl, Nat.zero_le _, ⟨Seg.nil _ _ _, fun b hb => by simp [Value.ownBlock] at hb, HWF.out.mod, by simp⟩, HWF.out, HS3.out⟩
     case round =>
       obtain ⟨k, rfl, hk, hws, hwm, hks⟩ := hrel
       have HWS := Lib.hid hws
       have HWM := Lib.hid hwm
       have HKS := Lib.hid hks
       have HLK : Hid ((L.take k).length = k) := Lib.hid (by rw [List.length_take]; have := HQ.out; omega)
       obtain ⟨av, cv, hvv, -⟩ := hws.seg.shape
       rw [HLK.out] at hvv
       subst hvv
       have hrs := hks.rdS
       clear hws hwm hks HWF HS3 HK HFIN
       by_cases hkq : k < q
       · obtain ⟨x, hx⟩ : ∃ x, L[k]? = some x := ⟨_, List.getElem?_eq_getElem (by rw [← HQ.out]; exact hkq)⟩
         obtain ⟨bk, offk, ek, hbk, hck⟩ := hrs.cell _ _ rfl k (.int .u32 (x.1 : Int)) (by rw [List.getElem?_map, List.getElem?_map, hx]; rfl)
         subst ek
         have hxm := List.mem_of_getElem? hx
         have HFX := Lib.hid (HFT.out x hxm)
         have lk := HWM.out.look (Mod.refl (fun _ => False) wr) (HFT.out x hxm).1
         rw [HGT.out, ← ((HMEM.out x).1 hxm).1] at lk
         have HTK : Hid (L.take (k + 1) = L.take k ++ [x]) := Lib.hid (by
           obtain ⟨h1, h2⟩ := List.getElem?_eq_some_iff.1 hx
           rw [List.take_succ_eq_append_getElem h1, h2])
         clear hrs hx hxm
         obtain ⟨xv, xm⟩ := x
         simp only at hck lk HFX
         have hm6 : Mod (fun _ => False) wr (wr.alloc (.cells #[.int .u32 (xv : Int), .int .u8 (xm : Int)] 43)) := (Mod.refl _ _).alloc _
         have HM6 := Lib.hid hm6
         have HSG6 : Hid (Seg (wr.alloc (.cells #[.int .u32 (xv : Int), .int .u8 (xm : Int)] 43)) 43 2 (.slice av k cv) k ((L.take k).flatMap wtC)) := Lib.hid (by have h := HWS.out.seg; rw [HLK.out] at h; exact h.mod hm6 (fun _ _ f => f))
         have HSR := Lib.hid (src_cells (w := wr) rfl (size := 2) 43 #[.int .u32 (xv : Int), .int .u8 (xm : Int)] rfl (by simp [Value.oneCell']))
         clear hm6
         go_wp2_with (at_builtin; go_loud (refine wpList_append_seg rfl (.tmp 56) (.tmp 62) 37 rfl i0 _ 2 8 Tryz.underlying37 HI.out.1 HI.out.2.1 HI.out.2.2.1 HI.out.2.2.2 rfl (by decide) rfl HSG6.out _ 1 _ rfl HSR.out (by unfold maxLen; omega) (by omega) ?_; intro v7 w7 hs7 hg7 ho7; have HW7 := Lib.hid (HWS.out.next (x := (xv, xm)) HM6.out HFX.out HLK.out.symm hs7 hg7 ho7); (have HMG : Hid (Mod (fun j => (Value.slice av k cv).ownBlock = some j) wr w7) := Lib.hid ((HM6.out.mono (fun _ _ f => f.elim)).trans (mod_grown (v := .slice av k cv) hg7))); (obtain ⟨a7, c7, rfl, -⟩ := hs7.shape); clear hs7 hg7 ho7))
         go_roundw
         case rel => exact ⟨k + 1, by go_num, by omega, by rw [HTK.out]; exact HW7.out, HWM.out.off HWS.out.seg HMG.out HW7.out.mod, HKS.out.mod HMG.out (eseg_seg HWS.out.seg HKS.out (by decide))⟩
         case measure => simp [intOf]; omega
       · have HDN : Hid (WSeg w wr (.slice av k cv) L) := Lib.hid (by
           have h := HWS.out
           rwa [List.take_of_length_le (by have := HQ.out; omega)] at h)
         go_wp2
         go_ret2
         exact ⟨_, rfl, by rw [HE2.out]; exact HDN.out⟩
open Go.RowKit Go.Maps
theorem new_pg (w : World) : Calls Tryz.prog 9 #[] w fun e w' => e = .returned (.pointer (some ⟨w.heap.size + 1, 0, none⟩)) ∧ Mod (fun _ => False) w w' ∧ PG w' (w.heap.size + 1) w.heap.size [] ∧ w.heap.size + 1 < w'.heap.size := by
 refine (new_any w).mono ?_
 rintro e w' ⟨rfl, m, h⟩
 refine ⟨rfl, m, ⟨h.cell, ⟨h.map, fun _ h => by simp at h, fun _ h => by simp at h, fun _ h => by simp at h, fun _ h => by simp at h⟩, ?_⟩, lt_of_block h.cell⟩
 rintro (e | ⟨n, hn, _⟩)
 · omega
 · simp at hn
end Go.Proofs.YtlpdifinkcjckaaGreatDoor
