import Derived.Test.YtpigipgoopeeoaaGreatDoorMCBegCHolCVer00
import Derived.Test.YtpigipgoopeeoaaGreatDoorMCBegCOrdCVer00
set_option linter.unusedVariables false
set_option linter.unusedSimpArgs false
namespace Go.Proofs.YtpigipgoopeeoaaGreatDoor
open Go.RowKit Go.Maps
theorem flat_take (l : List Cm) (k : Nat) : (l.flatMap Cm.c11).take (k * 11) = (l.take k).flatMap Cm.c11 := by
 induction l generalizing k with
 | nil => simp
 | cons s r ih =>
   cases k with
   | zero => simp
   | succ k =>
     have hl : s.c11.length = 11 := rfl
     rw [List.flatMap_cons, show (k + 1) * 11 = s.c11.length + k * 11 by rw [hl]; omega, List.take_length_add_append, List.take_succ_cons, List.flatMap_cons, ih]
theorem CRd.to11 {w : World} {v : Value} {l : List Cm} (h : CRd Cm.c11 11 w v l) {k : Nat} (hk : k ≤ l.length) (kk : IntKind) :
   ∃ a c, (∀ wx, (Instr.slice 29 v none (some (.int kk k)) none).run Tryz.prog wx = .ok (.slice a k c) wx) ∧ CRd Cm.c11 11 w (.slice a k c) (l.take k) := by
 obtain ⟨v', h1, h2, _⟩ := h.row.cut (by omega) (lo := 0) (hi := k) (Nat.zero_le _) hk Tryz.underlying29 (e := 42) (by kernel_rfl) kk kk none (some (.int kk k)) (.inr ⟨rfl, rfl⟩) (.inl rfl)
 obtain ⟨a, c, rfl, -⟩ := h2.shape
 refine ⟨a, c, by simpa using h1, ?_, fun o ho => h.each o (List.mem_of_mem_take ho)⟩
 rw [Nat.zero_mul, List.drop_zero, flat_take] at h2
 simpa [List.length_take, Nat.min_eq_left hk] using h2
open Go.RowKit Go.Maps
section
variable {P : Program} {w : World} {e : TypeId}
end
section
variable {cells : Cm → List Value} {size : Nat} {t : TypeId} {w0 wr wx w3 w5 : World} {v v3 : Value} {l : List Cm}
end
theorem Cm.st_old {S : Nat → Prop} {w0 w : World} {c : Cm} (h : c.Rd w0) (m : Mod (fun _ => False) w0 w) (hS : ∀ b, S b → w0.heap.size ≤ b) : c.St S w := fun w' m' => h.keep (m.trans' m' (fun i hi s => by have := hS i s; omega))
open Go.RowKit Go.Maps
def cutX (x : Cx) : Cx := { x with r := { x.r with ops := x.r.ops.take 20 } }
theorem flat_take13 (l : List Cm) (k : Nat) : (l.flatMap Cm.c13).take (k * 13) = (l.take k).flatMap Cm.c13 := by
 induction l generalizing k with
 | nil => simp
 | cons s r ih =>
   cases k with
   | zero => simp
   | succ k =>
     have hl : s.c13.length = 13 := rfl
     rw [List.flatMap_cons, show (k + 1) * 13 = s.c13.length + k * 13 by rw [hl]; omega, List.take_length_add_append, List.take_succ_cons, List.flatMap_cons, ih]
theorem CRd.to13 {w : World} {v : Value} {l : List Cm} (h : CRd Cm.c13 13 w v l) {k : Nat} (hk : k ≤ l.length) (kk : IntKind) :
   ∃ a c, (∀ wx, (Instr.slice 30 v none (some (.int kk k)) none).run Tryz.prog wx = .ok (.slice a k c) wx) ∧ CRd Cm.c13 13 w (.slice a k c) (l.take k) := by
 obtain ⟨v', h1, h2, _⟩ := h.row.cut (by omega) (lo := 0) (hi := k) (Nat.zero_le _) hk Tryz.underlying30 (e := 44) (by kernel_rfl) kk kk none (some (.int kk k)) (.inr ⟨rfl, rfl⟩) (.inl rfl)
 obtain ⟨a, c, rfl, -⟩ := h2.shape
 refine ⟨a, c, by simpa using h1, ?_, fun o ho => h.each o (List.mem_of_mem_take ho)⟩
 rw [Nat.zero_mul, List.drop_zero, flat_take13] at h2
 simpa [List.length_take, Nat.min_eq_left hk] using h2
set_option maxRecDepth 100000 in
set_option maxHeartbeats 8000000 in
theorem cut_any (v u : Value) (l rs : List Cm) (w : World) (hv : CRd Cm.c11 11 w v l) (hu : CRd Cm.c13 13 w u rs) (hs : ∀ c ∈ l, c.Small) (hl : l.length ≤ 9223372036854775807) :
   Calls Tryz.prog 13 #[v, u] w fun e w' => ∃ a n c ms a' n' c', e = .returned (.tuple #[.slice a n c, .slice a' n' c']) ∧ CBf Cm.c11 11 42 w (.slice a n c) ms w' ∧ ms.map Cm.x = (l.take 60).map (fun x => cutX x.x) ∧ (∀ c ∈ ms, c.Small) ∧ CRd Cm.c13 13 w' (.slice a' n' c') (rs.take 60) := by
 have HV := Lib.hid hv
 have HU := Lib.hid hu
 have HSM := Lib.hid hs
 obtain ⟨a, c, rfl, hc1, hc2, -⟩ := hv.row.shape
 obtain ⟨a', c', rfl, hc1', hc2', -⟩ := hu.row.shape
 obtain ⟨m, hm⟩ : ∃ m, m = l.length := ⟨_, rfl⟩
 obtain ⟨m', hm'⟩ : ∃ m, m = rs.length := ⟨_, rfl⟩
 have HML := Lib.hid hm
 have HML' := Lib.hid hm'
 rw [← hm] at HV hc1 hl ⊢
 rw [← hm'] at HU hc1' ⊢
 have HL := Lib.hid hl
 obtain ⟨i0, hi, hz0, hz1, hz2⟩ := info_parts infoRC
 have HI : Hid (Tryz.prog.info? 42 = some i0 ∧ i0.zero = some (.agg #[.int .u8 0, .int .u32 0, .int .u8 0, .slice none 0 0, .int .u32 0, .int .i64 0, .int .i64 0, .int .i64 0, .int .i64 0, .slice none 0 0, .slice none 0 0]) ∧ i0.size = 11 ∧ i0.bytes = 128) := ⟨hi, hz0, hz1, hz2⟩
 clear hi hz0 hz1 hz2 hv hu hm hm' hs hl
 go_enter Tryz.func13, Tryz.ntmps13
 go_wp2
 go_loopw [11, 6] (fun i u wr => ∃ (k : Nat) (ms : List Cm), i = .int .i64 (k : Int) ∧ k ≤ m ∧ CBf Cm.c11 11 42 w u ms wr ∧ ms.map Cm.x = ((l.take k).take 60).map (fun x => cutX x.x) ∧ ∀ c ∈ ms, c.Small) (fun i _ _ => m - (intOf i).toNat)
 case atStart => exact ⟨0, [], rfl, Nat.zero_le _, CBf.start w, by simp, by simp⟩
 case round =>
   obtain ⟨k, ms, rfl, hk, hbf, hms, hsm⟩ := hrel
   have HBF := Lib.hid hbf
   have HMS := Lib.hid hms
   have HSMS := Lib.hid hsm
   have HK := Lib.hid hbf.mod
   have HLN : Hid (ms.length = min k 60) := Lib.hid (by have := congrArg List.length hms; rw [List.length_map, List.length_map, List.length_take, List.length_take] at this; have := HML.out; omega)
   obtain ⟨r, hr⟩ : ∃ r, r = min k 60 := ⟨_, rfl⟩
   obtain ⟨au, cu, hcu, hcu2, hub⟩ : ∃ a c, r ≤ c ∧ c ≤ 9223372036854775807 ∧ _ = Value.slice a r c := by
     obtain ⟨a, c, e, h1, h2, _⟩ := hbf.row.rdS.shape
     rw [HLN.out, ← hr] at e h1
     exact ⟨a, c, h1, h2, e⟩
   subst hub
   rw [← hr] at HLN
   have HRK := Lib.hid hr
   clear hbf hms hsm hr
   by_cases hkm : k < m
   · skip
     obtain ⟨x, hx⟩ : ∃ x, l[k]? = some x := ⟨_, List.getElem?_eq_getElem (by rw [← HML.out]; exact hkm)⟩
     obtain ⟨b, off, e1, hb, hcs⟩ := CRd.ent (cells := Cm.c11) (size := 11) (fun _ => rfl) (by decide) HV.out hx rfl
     obtain rfl := e1
     have hxx : (l.map Cm.x)[k]? = some x.x := by rw [List.getElem?_map, hx]; rfl
     have HXX := Lib.hid hxx
     have HRX := Lib.hid ((HV.out.at hx).keep HK.out)
     have hcs : ∀ j, j < 11 → ∀ u, x.c11[j]? = some u → wr.cell? ⟨b, off + (k * 11 + j), none⟩ = some u := fun j hj u hu => HK.out.cell ((hcs j hj).trans hu)
     obtain ⟨ao, co, hvo⟩ := HRX.out.vo_eq
     obtain ⟨av, cv, hvv⟩ := HRX.out.vv_eq
     obtain ⟨al, cl, hvl⟩ := HRX.out.vl_eq
     have HSX := Lib.hid (HSM.out x (List.mem_of_getElem? hx))
     have HRW := Lib.hid (HV.out.at hx)
     have HTK : Hid (l.take (k + 1) = l.take k ++ [x]) := Lib.hid (take_snoc' hx)
     clear hx hxx
     obtain ⟨⟨xc, xq, ⟨kind, ops, rv, rk, rd⟩, ae, ap, vals, list, fr, to_⟩, vo, vv, vl⟩ := x
     simp only at hvo hvv hvl
     subst hvo hvv hvl
     obtain ⟨no, hno⟩ : ∃ n, n = ops.length := ⟨_, rfl⟩
     obtain ⟨nv, hnv⟩ : ∃ n, n = vals.length := ⟨_, rfl⟩
     obtain ⟨nl, hnl⟩ : ∃ n, n = list.length := ⟨_, rfl⟩
     simp only [Cm.c11, ← hno, ← hnv, ← hnl] at hcs
     have p0 := hcs 0 (by omega) _ rfl
     have p1 := hcs 1 (by omega) _ rfl
     have p2 := hcs 2 (by omega) _ rfl
     have p3 := hcs 3 (by omega) _ rfl
     have p4 := hcs 4 (by omega) _ rfl
     have p5 := hcs 5 (by omega) _ rfl
     have p6 := hcs 6 (by omega) _ rfl
     have p7 := hcs 7 (by omega) _ rfl
     have p8 := hcs 8 (by omega) _ rfl
     have p9 := hcs 9 (by omega) _ rfl
     have p10 := hcs 10 (by omega) _ rfl
     simp only [← Nat.add_assoc, Nat.add_zero] at p0 p1 p2 p3 p4 p5 p6 p7 p8 p9 p10
     have zb := Nat.lt_of_lt_of_le hb HK.out.size
     clear hcs hb
     obtain ⟨q, hqd⟩ : ∃ q, q = min no 20 := ⟨_, rfl⟩
     have hq : min (no : Int) 20 = (q : Int) := by omega
     obtain ⟨ac, cc, hsl, hcut⟩ := ORd.to (v := .slice ao no co) (l := ops) (by have h := HRW.out.ops; simp only [← hno] at h; exact h) (k := q) (by omega) .i64
     have HNEW : Hid (Cm.Rd w ⟨⟨xc, xq, ⟨kind, ops.take q, rv, rk, rd⟩, ae, ap, vals, list, fr, to_⟩, .slice ac q cc, .slice av nv cv, .slice al nl cl⟩) := Lib.hid ⟨HRW.out.nm, HRW.out.v, hcut, by have h := HRW.out.vals; simp only [← hnv] at h; simp only; rw [hnv] at h ⊢; exact h, by have h := HRW.out.list; simp only [← hnl] at h; simp only; rw [hnl] at h ⊢; exact h⟩
     have HNS : Hid (Cm.Small ⟨⟨xc, xq, ⟨kind, ops.take q, rv, rk, rd⟩, ae, ap, vals, list, fr, to_⟩, .slice ac q cc, .slice av nv cv, .slice al nl cl⟩) := Lib.hid ⟨by have h := HSX.out.ops; simp only at h ⊢; rw [List.length_take]; omega, HSX.out.vals, HSX.out.list⟩
     have HCX : Hid (Cm.x ⟨⟨xc, xq, ⟨kind, ops.take q, rv, rk, rd⟩, ae, ap, vals, list, fr, to_⟩, .slice ac q cc, .slice av nv cv, .slice al nl cl⟩ = cutX ⟨xc, xq, ⟨kind, ops, rv, rk, rd⟩, ae, ap, vals, list, fr, to_⟩) := Lib.hid (by
       unfold cutX
       simp only
       have : ops.take q = ops.take 20 := by
         by_cases h : no ≤ 20
         · rw [List.take_of_length_le (by omega), List.take_of_length_le (by omega)]
         · rw [show q = 20 by omega]
       rw [this])
     have hqi : (0 : Int) ≤ (q : Int) := by omega
     simp only [← hno, ← hnv, ← hnl] at HTK
     clear hcut hno hnv hnl hqd HRX HRW HSX
     by_cases h60 : k < 60
     · have h60i : (k : Int) < 60 := by omega
       have HR60 : Hid (r = k) := Lib.hid (by have := HRK.out; omega)
       have HM7 : Hid (Mod (fun _ => False) wr ((wr.alloc (.cells #[.int .u8 (xc : Int), .int .u32 (xq : Int), .int .u8 (kind : Int), .slice ac q cc, .int .u32 (rv : Int), .int .i64 rk, .int .i64 rd, .int .i64 ae, .int .i64 ap, .slice av nv cv, .slice al nl cl] 42)).alloc (.cells #[.int .u8 (xc : Int), .int .u32 (xq : Int), .int .u8 (kind : Int), .slice ac q cc, .int .u32 (rv : Int), .int .i64 rk, .int .i64 rd, .int .i64 ae, .int .i64 ap, .slice av nv cv, .slice al nl cl] 42))) := Lib.hid (((Mod.refl _ _).alloc _).alloc _)
       have HBF7 := Lib.hid (HBF.out.keep HM7.out)
       have HROW : Hid (Seg ((wr.alloc (.cells #[.int .u8 (xc : Int), .int .u32 (xq : Int), .int .u8 (kind : Int), .slice ac q cc, .int .u32 (rv : Int), .int .i64 rk, .int .i64 rd, .int .i64 ae, .int .i64 ap, .slice av nv cv, .slice al nl cl] 42)).alloc (.cells #[.int .u8 (xc : Int), .int .u32 (xq : Int), .int .u8 (kind : Int), .slice ac q cc, .int .u32 (rv : Int), .int .i64 rk, .int .i64 rd, .int .i64 ae, .int .i64 ap, .slice av nv cv, .slice al nl cl] 42)) 42 11 (.slice au r cu) r (ms.flatMap Cm.c11)) := Lib.hid (by have h := HBF7.out.row; rwa [HLN.out] at h)
       have HSR : Hid (Src ((wr.alloc (.cells #[.int .u8 (xc : Int), .int .u32 (xq : Int), .int .u8 (kind : Int), .slice ac q cc, .int .u32 (rv : Int), .int .i64 rk, .int .i64 rd, .int .i64 ae, .int .i64 ap, .slice av nv cv, .slice al nl cl] 42)).alloc (.cells #[.int .u8 (xc : Int), .int .u32 (xq : Int), .int .u8 (kind : Int), .slice ac q cc, .int .u32 (rv : Int), .int .i64 rk, .int .i64 rd, .int .i64 ae, .int .i64 ap, .slice av nv cv, .slice al nl cl] 42)) 11 (.slice (some ⟨wr.heap.size + 1, 0, none⟩) 1 1) 1 (#[.int .u8 (xc : Int), .int .u32 (xq : Int), .int .u8 (kind : Int), .slice ac q cc, .int .u32 (rv : Int), .int .i64 rk, .int .i64 rd, .int .i64 ae, .int .i64 ap, .slice av nv cv, .slice al nl cl] : Array Value).toList) := Lib.hid (src_cells (w := wr.alloc (.cells #[.int .u8 (xc : Int), .int .u32 (xq : Int), .int .u8 (kind : Int), .slice ac q cc, .int .u32 (rv : Int), .int .i64 rk, .int .i64 rd, .int .i64 ae, .int .i64 ap, .slice av nv cv, .slice al nl cl] 42)) (by simp) (size := 11) 42 #[.int .u8 (xc : Int), .int .u32 (xq : Int), .int .u8 (kind : Int), .slice ac q cc, .int .u32 (rv : Int), .int .i64 rk, .int .i64 rd, .int .i64 ae, .int .i64 ap, .slice av nv cv, .slice al nl cl] rfl (by simp [Value.oneCell']))
       have HST : Hid (Cm.St (fun b => Value.ownBlock (.slice au r cu) = some b) ((wr.alloc (.cells #[.int .u8 (xc : Int), .int .u32 (xq : Int), .int .u8 (kind : Int), .slice ac q cc, .int .u32 (rv : Int), .int .i64 rk, .int .i64 rd, .int .i64 ae, .int .i64 ap, .slice av nv cv, .slice al nl cl] 42)).alloc (.cells #[.int .u8 (xc : Int), .int .u32 (xq : Int), .int .u8 (kind : Int), .slice ac q cc, .int .u32 (rv : Int), .int .i64 rk, .int .i64 rd, .int .i64 ae, .int .i64 ap, .slice av nv cv, .slice al nl cl] 42)) ⟨⟨xc, xq, ⟨kind, ops.take q, rv, rk, rd⟩, ae, ap, vals, list, fr, to_⟩, .slice ac q cc, .slice av nv cv, .slice al nl cl⟩) := Lib.hid (Cm.st_old HNEW.out (HK.out.trans HM7.out) HBF.out.oa)
       go_wp2_with (at_builtin; go_loud (refine wpList_append_seg rfl (.tmp 29) (.tmp 31) 29 rfl i0 _ 11 128 Tryz.underlying29 HI.out.1 HI.out.2.1 HI.out.2.2.1 HI.out.2.2.2 rfl (by decide) rfl HROW.out (.slice (some ⟨wr.heap.size + 1, 0, none⟩) 1 1) 1 _ rfl HSR.out (by have := HR60.out; unfold maxLen; omega) (by have := HR60.out; omega) ?_); intro v3 w3 hs3 hg3 ho3; have H3 := Lib.hid (HBF7.out.next (c := ⟨⟨xc, xq, ⟨kind, ops.take q, rv, rk, rd⟩, ae, ap, vals, list, fr, to_⟩, .slice ac q cc, .slice av nv cv, .slice al nl cl⟩) HST.out (by rw [HLN.out]; exact hs3) hg3 ho3); (obtain ⟨a3, c3, rfl, -⟩ := hs3.shape); clear hs3 hg3 ho3)
       go_roundw
       case rel => exact ⟨k + 1, ms ++ [⟨⟨xc, xq, ⟨kind, ops.take q, rv, rk, rd⟩, ae, ap, vals, list, fr, to_⟩, .slice ac q cc, .slice av nv cv, .slice al nl cl⟩], by go_num, by omega, H3.out, by
         rw [List.map_append, HMS.out, List.take_take, List.take_take, Nat.min_eq_right (by omega), Nat.min_eq_right (by omega), HTK.out, List.map_append, List.map_cons, HCX.out]; rfl, fun c hc => by
         rcases List.mem_append.1 hc with hc | hc
         · exact HSMS.out c hc
         · rw [List.mem_singleton] at hc; rw [hc]; exact HNS.out⟩
       case measure => simp [intOf]; omega
     · have h60i : ¬ (k : Int) < 60 := by omega
       have HBW : Hid (Mod (fun _ => False) wr (wr.alloc (.cells #[.int .u8 (xc : Int), .int .u32 (xq : Int), .int .u8 (kind : Int), .slice ao no co, .int .u32 (rv : Int), .int .i64 rk, .int .i64 rd, .int .i64 ae, .int .i64 ap, .slice av nv cv, .slice al nl cl] 42))) := Lib.hid ((Mod.refl _ _).alloc _)
       go_wp2
       go_roundw
       case rel => exact ⟨k + 1, ms, by go_num, by omega, HBF.out.keep HBW.out, by rw [HMS.out, List.take_take, List.take_take, Nat.min_eq_left (by omega), Nat.min_eq_left (by omega)], HSMS.out⟩
       case measure => simp [intOf]; omega
   · have hrm : k = m := by omega
     have HR60 : Hid (ms.map Cm.x = (l.take 60).map (fun x => cutX x.x)) := Lib.hid (by rw [HMS.out, List.take_of_length_le (l := l) (i := k) (by have := HML.out; omega)])
     obtain ⟨q, hqd⟩ : ∃ q, q = min m' 60 := ⟨_, rfl⟩
     have hq : min (m' : Int) 60 = (q : Int) := by omega
     obtain ⟨ac, cc, hsl, hcut⟩ := CRd.to13 HU.out (k := q) (by have := HML'.out; omega) .i64
     have HCUT : Hid (CRd Cm.c13 13 w (.slice ac q cc) (rs.take 60)) := Lib.hid (by
       have : rs.take q = rs.take 60 := by
         by_cases h : m' ≤ 60
         · rw [List.take_of_length_le (by have := HML'.out; omega), List.take_of_length_le (by have := HML'.out; omega)]
         · rw [show q = 60 by omega]
       rw [← this]; exact hcut)
     have hqi : (0 : Int) ≤ (q : Int) := by omega
     clear hcut hqd hrm
     go_wp2
     go_region
     all_goals
       go_wp2
       go_ret2
       exact ⟨_, _, _, ms, _, _, _, rfl, HBF.out.keep (Mod.refl _ _).drew, HR60.out, HSMS.out, HCUT.out.keep HK.out.drew⟩
open Go.RowKit Go.ChangeShapes Go.WideShapes Go.ChangeAt
section
variable {H : Type} {enc : TypeId × Value → H} {W : World} {base : Nat} {v : Value} {d : DataW H} {p : List MemPlace}
set_option maxRecDepth 100000 in
theorem in_commit (n : Nat) (cs : List Value) (y : DataW H × List MemPlace) (hl : cs.length = 11) (h : DataW.trod enc Tryz.prog W 0 (fun _ => true) true n 42 cs = some y) (hw : okW 42 y.1) : ∃ x : Cm, cs = x.c11 ∧ x.Rd W ∧ x.Small := by
 obtain ⟨xs, n', _, hx, _, hlen, hf⟩ := DataW.trod_struct Tryz.underlying42 h
 match cs, hl with
 | [c0, c1, c2, c3, c4, c5, c6, c7, c8, c9, c10], _ =>
   have k8 : Tryz.prog.cellsOf 5 = 1 := by kernel_rfl
   have ku : Tryz.prog.cellsOf 32 = 1 := by kernel_rfl
   have kr : Tryz.prog.cellsOf 34 = 5 := by kernel_rfl
   have ka : Tryz.prog.cellsOf 39 = 4 := by kernel_rfl
   match xs, hlen with
   | [y0, y1, y2, y3], _ =>
     have h0 : DataW.trod enc Tryz.prog W 0 (fun _ => true) true n' 5 ((List.drop 0 [c0, c1, c2, c3, c4, c5, c6, c7, c8, c9, c10]).take (Tryz.prog.cellsOf 5)) = some y0 := hf 0 _ rfl
     have h1 : DataW.trod enc Tryz.prog W 0 (fun _ => true) true n' 32 ((List.drop 1 [c0, c1, c2, c3, c4, c5, c6, c7, c8, c9, c10]).take (Tryz.prog.cellsOf 32)) = some y1 := hf 1 _ rfl
     have h2 : DataW.trod enc Tryz.prog W 0 (fun _ => true) true n' 34 ((List.drop 2 [c0, c1, c2, c3, c4, c5, c6, c7, c8, c9, c10]).take (Tryz.prog.cellsOf 34)) = some y2 := hf 2 _ rfl
     have h3 : DataW.trod enc Tryz.prog W 0 (fun _ => true) true n' 39 ((List.drop 7 [c0, c1, c2, c3, c4, c5, c6, c7, c8, c9, c10]).take (Tryz.prog.cellsOf 39)) = some y3 := hf 3 _ rfl
     simp only [k8, ku, kr, ka, List.drop_zero, List.take_succ_cons, List.take_zero, List.drop_succ_cons] at h0 h1 h2 h3
     have hy : y.1 = .agg ([y0, y1, y2, y3].map (·.1)) := by rw [hx]
     rw [hy] at hw
     have w2 : okW 34 y2.1 := okW_part Tryz.underlying42 hw (j := 2) rfl rfl
     have w3 : okW 39 y3.1 := okW_part Tryz.underlying42 hw (j := 3) rfl rfl
     obtain ⟨a0, e0, _, u0⟩ := DataW.trod_int Tryz.underlying5 h0
     obtain ⟨a1, e1, _, u1⟩ := DataW.trod_int Tryz.underlying32 h1
     obtain ⟨q, hq, ro, sq⟩ := in_req n' _ y2 rfl h2 w2
     obtain ⟨x, hxa⟩ := in_ans n' _ y3 rfl h3 w3
     have b0 := bounds_u8 u0
     have b1 := bounds_u32 u1
     obtain ⟨k0, rfl⟩ := Int.eq_ofNat_of_zero_le b0.1
     obtain ⟨k1, rfl⟩ := Int.eq_ofNat_of_zero_le b1.1
     simp only [List.cons.injEq, and_true, Qs.cells] at e0 e1 hq hxa
     obtain ⟨rfl, rfl, rfl, rfl, rfl⟩ := hq
     obtain ⟨rfl, rfl, rfl, rfl⟩ := hxa
     subst e0 e1
     exact ⟨⟨⟨k0, k1, q.r, x.e, x.p, x.vals, x.list, 0, 0⟩, q.vo, x.vv, x.vl⟩, rfl, ⟨⟨by show k0 < 256; omega, by show k1 < 4294967296; omega⟩, sq.fits.v, ro, x.hv, x.hl⟩, ⟨sq.size, x.sv, x.sl⟩⟩
def InCommits (W : World) (v : Value) : Prop := ∃ l, CRd Cm.c11 11 W v l ∧ (∀ c ∈ l, c.Small) ∧ l.length ≤ 9223372036854775807
def InReplies (W : World) (v : Value) : Prop := ∃ l, CRd Cm.c13 13 W v l ∧ ∀ c ∈ l, c.Small
set_option maxRecDepth 100000 in
theorem in_commits (hv : Value.okWide Tryz.prog W .any base 29 v) (h : DataW.Trod enc Tryz.prog W 0 (fun _ => true) true 29 v d p) (hs : okW 29 d) : InCommits W v := by
 obtain ⟨a0, len0, cap0, rfl⟩ := okWide_slice Tryz.underlying29 hv
 obtain ⟨fuel, hf⟩ := h
 obtain ⟨l, rl, gl, zl⟩ := in_slice Tryz.underlying29 (size := 11) (by kernel_rfl) (by omega) Cm.c11 (fun _ => rfl) (fun q => q.Rd W ∧ q.Small) in_commit (u := .slice a0 len0 cap0) (y := (d, p)) (by simpa [Value.cells] using hf) hs
 have b : Tryz.prog.bytesOf 42 = 128 := by kernel_rfl
 rw [b] at zl
 have hr : reachBytes ≤ 140737488355328 := by decide
 exact ⟨l, ⟨rl, fun q hq => (gl q hq).1⟩, fun q hq => (gl q hq).2, by omega⟩
set_option maxRecDepth 100000 in
theorem in_replies (hv : Value.okWide Tryz.prog W .any base 30 v) (h : DataW.Trod enc Tryz.prog W 0 (fun _ => true) true 30 v d p) (hs : okW 30 d) : InReplies W v := by
 obtain ⟨a0, len0, cap0, rfl⟩ := okWide_slice Tryz.underlying30 hv
 obtain ⟨fuel, hf⟩ := h
 obtain ⟨l, rl, gl, _⟩ := in_slice Tryz.underlying30 (size := 13) (by kernel_rfl) (by omega) Cm.c13 (fun _ => rfl) (fun q => q.Rd W ∧ q.Small) in_reply (u := .slice a0 len0 cap0) (y := (d, p)) (by simpa [Value.cells] using hf) hs
 exact ⟨l, ⟨rl, fun q hq => (gl q hq).1⟩, fun q hq => (gl q hq).2⟩
end
end Go.Proofs.YtpigipgoopeeoaaGreatDoor
