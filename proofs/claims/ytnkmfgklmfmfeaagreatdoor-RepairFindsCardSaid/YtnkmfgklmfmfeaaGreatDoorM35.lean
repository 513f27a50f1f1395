/- Lemmas for the claim, in one text: HG, HH, YBC. -/
import Derived.Test.YtnkmfgklmfmfeaaGreatDoorM12
import Derived.Test.YtnkmfgklmfmfeaaGreatDoorM33
import Derived.Test.YtnkmfgklmfmfeaaGreatDoorHD
import Derived.Test.YtnkmfgklmfmfeaaGreatDoorM13
import Derived.Test.YtnkmfgklmfmfeaaGreatDoorM11
import Derived.Test.YtnkmfgklmfmfeaaGreatDoorVD

/- HG: what is needed of it (by shake.py). -/

/- HG, as far as the seat goes. -/
/- gussetref03.SetHalf: the halves lie in memory of one's own. (Printed by gen_sethown.py.) -/
namespace Go.Proofs.YtnkmfgklmfmfeaaGreatDoor
set_option linter.unusedVariables false
open Go.RowKit
set_option maxRecDepth 100000 in
set_option maxHeartbeats 4000000 in
theorem sethalf_own (x : Vtx) (vp vh : Value) (f : Nat) (val : Val) (there : Bool) (w : World) (hx : VRd w vp vh x) (hf : f < 4294967296) (hval : val.Fits) (hn : x.halves.length ≤ 1000) :
    Calls Tryz.prog 14 #[vtxV x vp vh, .int .u32 (f : Int), val.v , .bool there] w fun e w' => Mod (fun _ => False) w w' ∧ ∃ vo, e = .returned (vtxV (setH x f val there) vp vo) ∧ VRd w' vp vo (setH x f val there) ∧ Seg w' 57 4 vo (setH x f val there).halves.length (cellsOf .u32 (setH x f val there).halves) := by
  obtain ⟨id, thr, ps, hs⟩ := x
  have HF := Lib.hid hx.fits
  have HP := Lib.hid hx.props
  have HH := Lib.hid hx.halves
  have HVF := Lib.hid hval
  obtain ⟨ap, cp, rfl, hcp1, hcp2, -⟩ := hx.props.shape
  obtain ⟨ah, ch, rfl, hch1, hch2, -⟩ := hx.halves.shape
  simp only at HF HP HH hn hcp1 hch1
  clear hx
  obtain ⟨i0, hi, hz0, hz1, hz2⟩ := info_parts infoHalf
  have HI : Hid (Tryz.prog.info? 57 = some i0 ∧ i0.zero = some (.agg #[.int .u32 0, .int .u8 0, .int .i64 0, zval]) ∧ i0.size = 4 ∧ i0.bytes = 40) := ⟨hi, hz0, hz1, hz2⟩
  clear hi hz0 hz1 hz2
  obtain ⟨n, hnl⟩ : ∃ n, n = hs.length := ⟨_, rfl⟩
  have HN := Lib.hid hnl
  obtain ⟨n2, hnl2⟩ : ∃ n2, n2 = ps.length := ⟨_, rfl⟩
  have HN2 := Lib.hid hnl2
  obtain ⟨vk, vn, vs⟩ := val
  simp only [vtxV, Val.v]
  rw [← hnl] at HH hn hch1 ⊢
  rw [← hnl2] at HP hcp1 ⊢
  clear hnl hnl2 hval
  obtain ⟨xE, hxE⟩ : ∃ xE : Ent, xE = ⟨f, ⟨vk, vn, vs⟩⟩ := ⟨_, rfl⟩
  have HXE : Hid (xE = ⟨f, ⟨vk, vn, vs⟩⟩ ∧ xE.key = f ∧ xE.cells .u32 = [.int .u32 (f : Int), .int .u8 (vk : Int), .int .i64 vn, .string vs]) := Lib.hid (by rw [hxE]; exact ⟨rfl, rfl, rfl⟩)
  clear hxE
  obtain ⟨d0, hd0⟩ : ∃ d0, d0 = !there := ⟨_, rfl⟩
  have HD0 := Lib.hid hd0
  clear hd0
  have HA0 := Lib.hid (SetAt.begin w #[.int .u32 (id : Int), .bool thr, .slice ap n2 cp, .slice ah n ch] ⟨vk, vn, vs⟩)
  obtain ⟨w0, hw0⟩ : ∃ w0, w0 = (((w.alloc (.cells #[.int .u32 (id : Int), .bool thr, .slice ap n2 cp, .slice ah n ch] 44)).alloc (.cells #[.int .u8 (vk : Int), .int .i64 vn, .string vs] 55)).alloc (.cells #[.int .u32 0, .bool false, .slice none 0 0, .slice none 0 0] 44)) := ⟨_, rfl⟩
  simp only at HA0
  rw [← hw0] at HA0
  have HW1 := Lib.hid hw0
  clear hw0
  go_enter Tryz.func14, Tryz.ntmps14
  go_wp2
  go_loopw [18, 9, 10] (fun i o d wr => ∃ (k : Nat) (b : Bool), i = .int .i64 k ∧ k ≤ n ∧ d = .bool b ∧ (layT Ent.key xE d0 (hs.take k)).2 = b ∧ NSeg w0 57 4 o (layT Ent.key xE d0 (hs.take k)).1.length (cellsOf .u32 (layT Ent.key xE d0 (hs.take k)).1) wr) (fun i _ _ _ => n - (intOf i).toNat)
  case atStart => exact ⟨0, d0, rfl, Nat.zero_le _, (by rw [HD0.out]), rfl, HW1.out ▸ NSeg.start (Mod.refl _ _)⟩
  case round =>
    obtain ⟨k, d, rfl, hk, rfl, hfl, hsg⟩ := hrel
    have HFL := Lib.hid hfl
    have HSG0 := Lib.hid hsg
    clear hfl hsg
    have HM0 : Hid (Mod (fun _ => False) w0 wr) := Lib.hid HSG0.out.mod
    have HM : Hid (Mod (fun _ => False) w wr) := Lib.hid (HA0.out.mod.trans HM0.out)
    have hbox := HM0.out.heap HA0.out.box (fun f => f)
    have harg := HM0.out.heap HA0.out.arg (fun f => f)
    have hret := HM0.out.heap HA0.out.ret (fun f => f)
    have b0 := cell_of_row hbox 0
    have b1 := cell_of_row hbox 1
    have b2 := cell_of_row hbox 2
    have b3 := cell_of_row hbox 3
    have fb := free_of_row hbox 3
    have a0 := cell_of_row harg 0
    have a1 := cell_of_row harg 1
    have a2 := cell_of_row harg 2
    have zb := lt_of_block hbox
    have za := lt_of_block harg
    simp at b0 b1 b2 b3 a0 a1 a2
    clear hbox harg
    obtain ⟨os, hos⟩ : ∃ os, os = (layT Ent.key xE d0 (hs.take k)).1 := ⟨_, rfl⟩
    have HOS : Hid (layT Ent.key xE d0 (hs.take k) = (os, d)) := Lib.hid (by rw [hos, ← HFL.out])
    have HLE : Hid (os.length ≤ 1001) := Lib.hid (by
      have := layT_length Ent.key xE d0 (hs.take k)
      rw [List.length_take] at this
      rw [hos]
      have := HN.out
      omega)
    have HSG : Hid (NSeg w0 57 4 u9 os.length (cellsOf .u32 os) wr) := Lib.hid (by have h := HSG0.out; rwa [← hos] at h)
    clear hos HSG0 HFL
    obtain ⟨ao, co, hvv⟩ : ∃ ao co, u9 = .slice ao os.length co := by
      obtain ⟨a, c, e, _⟩ := HSG.out.seg.rdS.shape
      exact ⟨_, _, e⟩
    subst hvv
    obtain ⟨no, hno⟩ : ∃ no, no = os.length := ⟨_, rfl⟩
    rw [← hno] at HLE HSG
    have HNO := Lib.hid hno
    rw [← hno]
    clear hno
    have HSS := Lib.hid (fun (w1 : World) (n0 : Nat) (h : w1.heap.size = n0) => src_cells (w := w1) h (size := 4) 57 #[.int .u32 (f : Int), .int .u8 (vk : Int), .int .i64 vn, .string vs] rfl (by simp [Value.oneCell']))
    by_cases hkn : k < n
    · clear hret
      obtain ⟨y, hy⟩ : ∃ x, hs[k]? = some x := ⟨_, List.getElem?_eq_getElem (by rw [← HN.out]; exact hkn)⟩
      obtain ⟨bl, offl, e0, hbl, r0, r1, r2, r3⟩ := HH.out.ent2 hy rfl
      have r0 := HM.out.cell r0
      have r1 := HM.out.cell r1
      have r2 := HM.out.cell r2
      have r3 := HM.out.cell r3
      have zbl : bl < wr.heap.size := Nat.lt_of_lt_of_le hbl HM.out.size
      have HTK : Hid (layT Ent.key xE d0 (hs.take (k + 1)) = layS Ent.key xE (os, d) y) := Lib.hid (by rw [take_snoc hy, layT_snoc, HOS.out])
      clear hy hbl
      subst e0
      obtain ⟨id', ⟨yk, yn, ysx⟩⟩ := y
      simp only at r0 r1 r2 r3
      obtain ⟨yV, hyV⟩ : ∃ yV : Ent, yV = ⟨id', ⟨yk, yn, ysx⟩⟩ := ⟨_, rfl⟩
      rw [← hyV] at HTK
      have HYV : Hid (yV.key = id' ∧ yV.cells .u32 = [.int .u32 (id' : Int), .int .u8 (yk : Int), .int .i64 yn, .string ysx]) := Lib.hid (by rw [hyV]; exact ⟨rfl, rfl⟩)
      clear hyV
      have HSY := Lib.hid (fun (w1 : World) (n0 : Nat) (h : w1.heap.size = n0) => src_cells (w := w1) h (size := 4) 57 #[.int .u32 (id' : Int), .int .u8 (yk : Int), .int .i64 yn, .string ysx] rfl (by simp [Value.oneCell']))
      obtain ⟨wa, hwa⟩ : ∃ wa, wa = wr.alloc (.cells #[.int .u32 (id' : Int), .int .u8 (yk : Int), .int .i64 yn, .string ysx] 57) := ⟨_, rfl⟩
      have HWA := Lib.hid hwa
      have HSGA : Hid (NSeg w0 57 4 (.slice ao no co) no (cellsOf .u32 os) wa) := Lib.hid (HSG.out.keep (by rw [hwa]; exact (Mod.refl _ _).alloc _))
      clear hwa
      by_cases hput : d = false ∧ f < id'
      · obtain ⟨rfl, hlt⟩ := hput
        have hlt' : (f : Int) < (id' : Int) := by omega
        have hne' : (id' : Int) ≠ (f : Int) := by omega
        have HSG1 : Hid (NSeg w0 57 4 (.slice ao no co) no (cellsOf .u32 os) (wa.alloc (.cells #[.int .u32 (f : Int), .int .u8 (vk : Int), .int .i64 vn, .string vs] 57))) := Lib.hid (HSGA.out.keep ((Mod.refl _ _).alloc _))
        have HRES : Hid (layT Ent.key xE d0 (hs.take (k + 1)) = (os ++ [xE] ++ [yV], true)) := Lib.hid (by
          rw [HTK.out]; unfold layS; rw [HYV.out.1, HXE.out.2.1]
          have : ¬ id' = f := by omega
          simp [hlt, this])
        have HS1 := Lib.hid (HSS.out wa (wr.heap.size + 1) (by rw [HWA.out]; simp))
        have HEL : Hid ((wa.alloc (.cells #[.int .u32 (f : Int), .int .u8 (vk : Int), .int .i64 vn, .string vs] 57)).heap[wr.heap.size]? = some (.cells #[.int .u32 (id' : Int), .int .u8 (yk : Int), .int .i64 yn, .string ysx] 57 (0, 0))) := Lib.hid (by rw [HWA.out]; exact heap_alloc_old (heap_alloc_new' _ _))
        have HLT : Hid (∀ b, Value.ownBlock (.slice ao no co) = some b → b ≠ wr.heap.size) := Lib.hid (fun b hb => Nat.ne_of_lt (HSG.out.seg.lt b hb))
        rw [HWA.out] at HSG1 HS1 HEL
        go_wp2_with (first
          | (at_builtin; refine wpList_append_seg rfl (.tmp 30) (.tmp 34) 42 rfl i0 _ 4 40 Tryz.underlying42 HI.out.1 HI.out.2.1 HI.out.2.2.1 HI.out.2.2.2 rfl (by decide) rfl HSG1.out.seg _ 1 _ rfl HS1.out (by have := HLE.out; unfold maxLen; omega) (by have := HLE.out; omega) ?_; intro v3 w3 hs3 hg3 ho3; have H3 := Lib.hid (HSG1.out.snoc hs3 hg3 ho3); have he3 := grown_heap hg3 HEL.out HLT.out; have q0 := cell_of_row he3 0; have q1 := cell_of_row he3 1; have q2 := cell_of_row he3 2; have q3 := cell_of_row he3 3; simp at q0 q1 q2 q3; have y3 := lt_of_block he3; clear he3; (obtain ⟨a3, c3, rfl⟩ : ∃ a c, v3 = .slice a (no + 1) c := (by obtain ⟨a, c, e, _⟩ := hs3.rdS.shape; exact ⟨_, _, e⟩)); have H3A := Lib.hid (H3.out.keep ((Mod.refl (fun _ => False) w3).alloc (.cells #[.int .u32 (id' : Int), .int .u8 (yk : Int), .int .i64 yn, .string ysx] 57))); clear hs3 hg3 ho3)
          | (at_builtin; refine wpList_append_seg rfl (.tmp 40) (.tmp 42) 42 rfl i0 _ 4 40 Tryz.underlying42 HI.out.1 HI.out.2.1 HI.out.2.2.1 HI.out.2.2.2 rfl (by decide) rfl H3A.out.seg _ 1 _ rfl (HSY.out w3 _ rfl) (by have := HLE.out; unfold maxLen; omega) (by have := HLE.out; omega) ?_; intro v4 w4 hs4 hg4 ho4; have H4 := Lib.hid (H3A.out.snoc hs4 hg4 ho4); (obtain ⟨a4, c4, n4, rfl⟩ : ∃ a c n, v4 = .slice a n c := (by obtain ⟨a, c, e, _⟩ := hs4.shape; exact ⟨_, _, _, e⟩)); clear hs4 hg4 ho4))
        go_roundw
        case rel => exact ⟨k + 1, true, by go_num, by omega, rfl, by rw [HRES.out], by
          have h := H4.out
          have e : cellsOf .u32 (os ++ [xE] ++ [yV]) = cellsOf .u32 os ++ #[.int .u32 (f : Int), .int .u8 (vk : Int), .int .i64 vn, .string vs].toList ++ #[.int .u32 (id' : Int), .int .u8 (yk : Int), .int .i64 yn, .string ysx].toList := by rw [cellsOf_snoc, cellsOf_snoc, HXE.out.2.2, HYV.out.2]
          rw [HRES.out]; show NSeg _ _ _ _ (os ++ [xE] ++ [yV]).length (cellsOf .u32 (os ++ [xE] ++ [yV])) _
          rw [e, List.length_append, List.length_append, ← HNO.out]; exact h⟩
        case measure => simp [intOf]; omega
      · have hd : ∀ b, d = b → (!b && decide (f < id')) = false := by
          intro b hb; subst hb
          cases d with
          | true => rfl
          | false =>
            have : ¬ f < id' := fun h => hput ⟨rfl, h⟩
            simp [this]
        by_cases hsame : id' = f
        · have HRES : Hid (layT Ent.key xE d0 (hs.take (k + 1)) = (os, d)) := Lib.hid (by
            rw [HTK.out]; unfold layS; rw [HYV.out.1, HXE.out.2.1]
            have : ¬ f < id' := by omega
            simp [hsame])
          have hnl : ¬ (f : Int) < (id' : Int) := by omega
          clear hd hput
          subst hsame
          cases d
          all_goals
            go_wp2
            go_roundw
            case rel => exact ⟨k + 1, _, by go_num, by omega, rfl, by rw [HRES.out], by rw [HRES.out]; show NSeg _ _ _ _ os.length (cellsOf .u32 os) _; rw [← HNO.out]; exact HWA.out ▸ HSGA.out⟩
            case measure => simp [intOf]; omega
        · have hne' : (id' : Int) ≠ (f : Int) := by omega
          have HRES : Hid (layT Ent.key xE d0 (hs.take (k + 1)) = (os ++ [yV], d)) := Lib.hid (by
            rw [HTK.out]; unfold layS; rw [HYV.out.1, HXE.out.2.1]
            have h1 := hd d rfl
            have h2 : (d || decide (f < id')) = d := by
              cases d with
              | true => rfl
              | false => simpa using h1
            simp only at h1 h2 ⊢
            rw [h1, h2, if_neg hsame]; simp)
          have HSG1 : Hid (NSeg w0 57 4 (.slice ao no co) no (cellsOf .u32 os) (wa.alloc (.cells #[.int .u32 (id' : Int), .int .u8 (yk : Int), .int .i64 yn, .string ysx] 57))) := Lib.hid (HSGA.out.keep ((Mod.refl _ _).alloc _))
          have HS1 := Lib.hid (HSY.out wa (wr.heap.size + 1) (by rw [HWA.out]; simp))
          rw [HWA.out] at HSG1 HS1
          have HE : Hid (cellsOf .u32 (os ++ [yV]) = cellsOf .u32 os ++ #[.int .u32 (id' : Int), .int .u8 (yk : Int), .int .i64 yn, .string ysx].toList) := Lib.hid (by rw [cellsOf_snoc, HYV.out.2])
          have hnl : d = false → ¬ (f : Int) < (id' : Int) := fun e h => hput ⟨e, by omega⟩
          clear hd hput hsame
          cases d with
          | true =>
            clear hnl
            go_wp2_with (at_builtin; refine wpList_append_seg rfl (.tmp 40) (.tmp 42) 42 rfl i0 _ 4 40 Tryz.underlying42 HI.out.1 HI.out.2.1 HI.out.2.2.1 HI.out.2.2.2 rfl (by decide) rfl HSG1.out.seg _ 1 _ rfl HS1.out (by have := HLE.out; unfold maxLen; omega) (by have := HLE.out; omega) ?_; intro v4 w4 hs4 hg4 ho4; have H4 := Lib.hid (HSG1.out.snoc hs4 hg4 ho4); (obtain ⟨a4, c4, n4, rfl⟩ : ∃ a c n, v4 = .slice a n c := (by obtain ⟨a, c, e, _⟩ := hs4.shape; exact ⟨_, _, _, e⟩)); clear hs4 hg4 ho4)
            go_roundw
            case rel => exact ⟨k + 1, true, by go_num, by omega, rfl, by rw [HRES.out], by rw [HRES.out]; show NSeg _ _ _ _ (os ++ [yV]).length (cellsOf .u32 (os ++ [yV])) _; rw [HE.out, List.length_append, ← HNO.out]; exact H4.out⟩
            case measure => simp [intOf]; omega
          | false =>
            have hnl := hnl rfl
            go_wp2_with (at_builtin; refine wpList_append_seg rfl (.tmp 40) (.tmp 42) 42 rfl i0 _ 4 40 Tryz.underlying42 HI.out.1 HI.out.2.1 HI.out.2.2.1 HI.out.2.2.2 rfl (by decide) rfl HSG1.out.seg _ 1 _ rfl HS1.out (by have := HLE.out; unfold maxLen; omega) (by have := HLE.out; omega) ?_; intro v4 w4 hs4 hg4 ho4; have H4 := Lib.hid (HSG1.out.snoc hs4 hg4 ho4); (obtain ⟨a4, c4, n4, rfl⟩ : ∃ a c n, v4 = .slice a n c := (by obtain ⟨a, c, e, _⟩ := hs4.shape; exact ⟨_, _, _, e⟩)); clear hs4 hg4 ho4)
            go_roundw
            case rel => exact ⟨k + 1, false, by go_num, by omega, rfl, by rw [HRES.out], by rw [HRES.out]; show NSeg _ _ _ _ (os ++ [yV]).length (cellsOf .u32 (os ++ [yV])) _; rw [HE.out, List.length_append, ← HNO.out]; exact H4.out⟩
            case measure => simp [intOf]; omega
    · have HEND : Hid (layG Ent.key xE d0 hs = if d then os else os ++ [xE]) := Lib.hid (by
        have h := layT_end Ent.key xE d0 hs
        have ht : hs.take k = hs := List.take_of_length_le (by have := HN.out; omega)
        have h2 := HOS.out
        rw [ht] at h2
        rw [h2] at h
        exact h.symm)
      have HFT : Hid (∀ p ∈ layG Ent.key xE d0 hs, p.key < 4294967296 ∧ p.val.Fits) := Lib.hid (entsFit_lay (by rw [HXE.out.1]; exact ⟨hf, HVF.out⟩) HF.out.halves)
      cases d with
      | true =>
        have HE : Hid (layG Ent.key xE d0 hs = os) := Lib.hid (by have := HEND.out; simpa using this)
        have r0 := cell_of_row hret 0
        have r1 := cell_of_row hret 1
        have r2 := cell_of_row hret 2
        have r3 := cell_of_row hret 3
        have f0 := free_of_row hret 0
        have f1 := free_of_row hret 1
        have f2 := free_of_row hret 2
        have f3 := free_of_row hret 3
        have zr := lt_of_block hret
        simp at r0 r1 r2 r3
        clear hret
        have HFIN := Lib.hid (HA0.out.finish HM0.out 3 (.slice ao no co) (.int .u32 (id : Int)) (.bool thr) (.slice ap n2 cp) (.slice ao no co))
        go_wp2
        refine bodyPost_ret (v := .agg #[.int .u32 (id : Int), .bool thr, .slice ap n2 cp, .slice ao no co]) (by simp [results, Tryz.results14, go_sem, r0, r1, r2, r3]) rfl ⟨(HFIN.out).1, .slice ao no co, ?_, ?_⟩
        · rfl
        · have hsg := (HFIN.out).2 _ _ _ _ HSG.out
          have hl : layG Ent.key ⟨f, ⟨vk, vn, vs⟩⟩ (!there) hs = os := by rw [← HE.out, HXE.out.1, ← HD0.out]
          refine ⟨⟨⟨HF.out.id, HF.out.props, (by rw [HXE.out.1, HD0.out] at HFT; exact HFT.out)⟩, (by show RdS _ 4 _ ps.length (cellsOf .u8 ps); rw [← HN2.out]; exact HP.out.keep (HFIN.out).1), (by simp only [setH]; rw [hl, ← HNO.out]; exact hsg.rdS)⟩, by simp only [setH]; rw [hl, ← HNO.out]; exact hsg⟩
      | false =>
        have HE : Hid (layG Ent.key xE d0 hs = os ++ [xE]) := Lib.hid (by have := HEND.out; simpa using this)
        clear hret
        have HSG1 := Lib.hid (HSG.out.keep ((Mod.refl (fun _ => False) wr).alloc (.cells #[.int .u32 (f : Int), .int .u8 (vk : Int), .int .i64 vn, .string vs] 57)))
        go_wp2_with (at_builtin; refine wpList_append_seg rfl (.tmp 47) (.tmp 51) 42 rfl i0 _ 4 40 Tryz.underlying42 HI.out.1 HI.out.2.1 HI.out.2.2.1 HI.out.2.2.2 rfl (by decide) rfl HSG1.out.seg _ 1 _ rfl (HSS.out wr _ rfl) (by have := HLE.out; unfold maxLen; omega) (by have := HLE.out; omega) ?_; intro v4 w4 hs4 hg4 ho4; have H4 := Lib.hid (HSG1.out.snoc hs4 hg4 ho4); (obtain ⟨a4, c4, rfl⟩ : ∃ a c, v4 = .slice a (no + 1) c := (by obtain ⟨a, c, e, _⟩ := hs4.rdS.shape; exact ⟨_, _, e⟩)); clear hs4 hg4 ho4; have hret := H4.out.mod.heap HA0.out.ret (fun f => f); have hbox := H4.out.mod.heap HA0.out.box (fun f => f); have c0 := cell_of_row hbox 0; have c1 := cell_of_row hbox 1; have c2 := cell_of_row hbox 2; have c3 := cell_of_row hbox 3; have fc := free_of_row hbox 3; have zc := lt_of_block hbox; have r0 := cell_of_row hret 0; have r1 := cell_of_row hret 1; have r2 := cell_of_row hret 2; have r3 := cell_of_row hret 3; have f0 := free_of_row hret 0; have f1 := free_of_row hret 1; have f2 := free_of_row hret 2; have f3 := free_of_row hret 3; have zr := lt_of_block hret; simp at r0 r1 r2 r3 c0 c1 c2 c3; clear hret hbox; have HFIN := Lib.hid (HA0.out.finish H4.out.mod 3 (.slice a4 (no + 1) c4) (.int .u32 (id : Int)) (.bool thr) (.slice ap n2 cp) (.slice a4 (no + 1) c4)))
        refine bodyPost_ret (v := .agg #[.int .u32 (id : Int), .bool thr, .slice ap n2 cp, .slice a4 (no + 1) c4]) (by simp [results, Tryz.results14, go_sem, r0, r1, r2, r3]) rfl ⟨(HFIN.out).1, .slice a4 (no + 1) c4, ?_, ?_⟩
        · rfl
        · have hsg := (HFIN.out).2 _ _ _ _ H4.out
          have hl : layG Ent.key ⟨f, ⟨vk, vn, vs⟩⟩ (!there) hs = os ++ [xE] := by rw [← HE.out, HXE.out.1, ← HD0.out]
          refine ⟨⟨⟨HF.out.id, HF.out.props, (by rw [HXE.out.1, HD0.out] at HFT; exact HFT.out)⟩, (by show RdS _ 4 _ ps.length (cellsOf .u8 ps); rw [← HN2.out]; exact HP.out.keep (HFIN.out).1), (by simp only [setH]; rw [hl, List.length_append, ← HNO.out, cellsOf_snoc, HXE.out.2.2]; exact hsg.rdS)⟩, by simp only [setH]; rw [hl, List.length_append, ← HNO.out, cellsOf_snoc, HXE.out.2.2]; exact hsg⟩
end Go.Proofs.YtnkmfgklmfmfeaaGreatDoor

/- HH: what is needed of it (by shake.py). -/

/- HH, as far as the seat goes. -/
/- Lists of vertices, laid out by a law behind other memory of its own; a graph with one odd half, parted by its numbers. -/
namespace Go.Proofs.YtnkmfgklmfmfeaaGreatDoor
set_option linter.unusedVariables false
set_option linter.unusedSimpArgs false
open Go.RowKit Go.Maps
/-- Lists of one's own: since w2 nothing has turned but their block. -/
structure LcAt (w2 : World) (bl : Nat) (ls : List Ls) (wx : World) : Prop where
  mod : Mod (fun k => k = bl) w2 wx
  box : wx.heap[bl]? = some (.cells (ls.map Ls.v).toArray 40 (0, 0))
  own : ∀ s ∈ ls, LOwn wx s.v s.l
  oa : ∀ s ∈ ls, ∀ b, s.v.ownBlock = some b → w2.heap.size ≤ b
  apart : ∀ (i j : Nat) (s t : Ls), ls[i]? = some s → ls[j]? = some t → i ≠ j → ∀ b, s.v.ownBlock = some b → ¬ t.v.ownBlock = some b
theorem LcAt.keep {w2 wx wy : World} {bl : Nat} {ls : List Ls} (h : LcAt w2 bl ls wx) (m : Mod (fun _ => False) wx wy) : LcAt w2 bl ls wy :=
  ⟨h.mod.trans (m.mono (fun _ _ f => f.elim)), m.heap h.box (fun f => f), fun s hs => (h.own s hs).mod m off_false_l, h.oa, h.apart⟩
theorem LcAt.start {w2 : World} {bl n : Nat} (hb : w2.heap[bl]? = some (.cells (List.replicate n (Value.slice none 0 0)).toArray 40 (0, 0))) : LcAt w2 bl (List.replicate n ⟨.slice none 0 0, []⟩) w2 := by
  refine ⟨Mod.refl _ _, ?_, fun s hs => ?_, fun s hs b hb => ?_, fun i j s t hi hj _ b hb => ?_⟩
  · rw [List.map_replicate]; exact hb
  · rw [(List.mem_replicate.1 hs).2]; exact LOwn.nil _
  · rw [(List.mem_replicate.1 hs).2] at hb; simp [Value.ownBlock] at hb
  · rw [(List.mem_replicate.1 (List.mem_of_getElem? hi)).2] at hb; simp [Value.ownBlock] at hb
/-- A vertex is put behind the others of one list. -/
theorem LcAt.app {w2 wx w3 : World} {bl i : Nat} {ls : List Ls} {t : Ls} {s : Vs} {v3 : Value} (h : LcAt w2 bl ls wx) (hi : ls[i]? = some t) (hv : VOwn wx s)
    (hs : Seg w3 44 4 v3 (t.l.length + 1) (vcells t.l ++ s.cells)) (hg : wx.grownBy w3 t.v.ownBlock) (ho : v3.ownBlock = t.v.ownBlock ∨ v3.ownBlock = some wx.heap.size) :
    w3.heap[bl]? = some (.cells (ls.map Ls.v).toArray 40 (0, 0)) ∧ LcAt w2 bl (ls.set i ⟨v3, t.l ++ [s]⟩) (w3.setCell ⟨bl, i, none⟩ v3) ∧ (∀ {t' : TypeId} {size n : Nat} {v : Value} {us : List Value}, Seg wx t' size v n us → t' ≠ 44 → t' ≠ 40 → Seg (w3.setCell ⟨bl, i, none⟩ v3) t' size v n us) := by
  have ht := List.mem_of_getElem? hi
  have hm := mod_grown hg
  have hL := h.own t ht
  have hbl : ¬ t.v.ownBlock = some bl := fun e => off_type hL.row h.box (by decide) bl e rfl
  have hb3 := hm.heap h.box hbl
  have hsz := h.mod.size
  have h3 : LOwn w3 v3 (t.l ++ [s]) := bf_snoc hL hv hs hg
  have hm3 : Mod (fun k => k = bl) w3 (w3.setCell ⟨bl, i, none⟩ v3) := (Mod.refl (fun k => k = bl) w3).setCell (p := ⟨bl, i, none⟩) (fun _ => rfl) v3
  have hoth : ∀ u ∈ ls, ∀ j, ls[j]? = some u → j ≠ i → LOwn w3 u.v u.l := fun u hu j hj hne => (h.own u hu).mod hm ⟨fun b hb e => h.apart j i u t hj hi hne b hb e, fun x hx => ((h.own u hu).each x hx).offV hL.row⟩
  have hge3 : ∀ b, v3.ownBlock = some b → w2.heap.size ≤ b := fun b hb => by
    rcases ho with e | e
    · exact h.oa t ht b (e ▸ hb)
    · rw [e] at hb; injection hb with hb; omega
  refine ⟨hb3, ⟨?_, ?_, ?_, ?_, ?_⟩, fun {t' size n v us} hq n1 n2 => ?_⟩
  rotate_right
  · have h4 : Seg w3 t' size v n us := hq.mod hm (fun b hb e => by
      obtain ⟨cur, hc⟩ := seg_box hL.row e
      exact off_type hq hc n1 b hb rfl)
    exact h4.mod hm3 (off_type h4 hb3 n2)
  · exact (h.mod.grown hg (fun b hb hlt => by have := h.oa t ht b hb; omega)).setCell (p := ⟨bl, i, none⟩) (fun _ => rfl) v3
  · have := row_setCell hb3 i v3
    rw [this]
    simp [List.map_set]
  · intro u hu
    obtain ⟨j, hj⟩ := List.getElem?_of_mem hu
    rw [List.getElem?_set] at hj
    by_cases e : i = j
    · rw [if_pos e] at hj
      split at hj
      · injection hj with hj
        subst hj
        exact h3.mod hm3 (h3.offB hb3)
      · cases hj
    · rw [if_neg e] at hj
      have h4 := hoth u (List.mem_of_getElem? hj) j hj (fun e' => e e'.symm)
      exact h4.mod hm3 (h4.offB hb3)
  · intro u hu b hb
    rcases List.mem_or_eq_of_mem_set hu with e | e
    · exact h.oa u e b hb
    · subst e; exact hge3 b hb
  · intro j k u x hj hk hne b hb hx
    rw [List.getElem?_set] at hj hk
    have new : ∀ (m : Nat) (z : Ls), ls[m]? = some z → m ≠ i → ∀ b, z.v.ownBlock = some b → ¬ v3.ownBlock = some b := fun m z hz hne b hb e => by
      rcases ho with e3 | e3
      · exact h.apart m i z t hz hi hne b hb (e3 ▸ e)
      · rw [e3] at e; injection e with e
        have := (h.own z (List.mem_of_getElem? hz)).row.lt b hb
        omega
    by_cases ej : i = j
    · by_cases ek : i = k
      · exact hne (ej.symm.trans ek)
      · rw [if_pos ej] at hj
        rw [if_neg ek] at hk
        split at hj
        · injection hj with hj
          subst hj
          exact new k x hk (fun e => ek e.symm) b hx hb
        · cases hj
    · rw [if_neg ej] at hj
      by_cases ek : i = k
      · rw [if_pos ek] at hk
        split at hk
        · injection hk with hk
          subst hk
          exact new j u hj (fun e => ej e.symm) b hb hx
        · cases hk
      · rw [if_neg ek] at hk
        exact h.apart j k u x hj hk hne b hb hx
theorem LcAt.rd {w2 wx : World} {bl : Nat} {ls : List Ls} (h : LcAt w2 bl ls wx) (hn : ls.length ≤ 1000) : LLRd wx (.slice (some ⟨bl, 0, none⟩) ls.length ls.length) ls := by
  refine ⟨⟨by simp, ⟨_, _, rfl, Nat.le_refl _, by omega, by simp⟩, fun a c e j u hu => ?_⟩, fun s hs => (h.own s hs).rd⟩
  injection e with e1 e2 e3
  subst e1
  refine ⟨bl, 0, rfl, lt_of_block h.box, ?_⟩
  rw [Nat.zero_add, cell_of_row h.box]
  simpa using hu
/-- By what is left of the numbers by 2. -/
def opParts (M : List Vtx) : List (List Vtx) := [M.filter fun z => z.id % 2 == 0, M.filter fun z => z.id % 2 == 1]
theorem opParts_at {M : List Vtx} {i : Nat} (hi : i < 2) : (opParts M)[i]? = some (M.filter fun z => z.id % 2 == i) := by
  rcases i with _ | _ | i
  · rfl
  · rfl
  · omega
theorem opParts_snoc {M : List Vtx} {z : Vtx} {i : Nat} (hi : z.id % 2 = i) : opParts (M ++ [z]) = (opParts M).set i ((M.filter fun y => y.id % 2 == i) ++ [z]) := by
  have h2 : i = 0 ∨ i = 1 := by omega
  unfold opParts
  rcases h2 with rfl | rfl <;> simp [List.filter_append, hi]
theorem opParts_parted (M : List Vtx) : Parted M (opParts M) := by
  refine ⟨?_, fun l hl => ?_⟩
  · have h : ∀ L : List Vtx, ((L.filter fun z => z.id % 2 == 0) ++ (L.filter fun z => z.id % 2 == 1)).Perm L := fun L => by
      have e : (L.filter fun z => z.id % 2 == 1) = L.filter fun z => !(z.id % 2 == 0) := by
        congr 1
        funext z
        have : z.id % 2 = 0 ∨ z.id % 2 = 1 := by omega
        rcases this with e | e <;> rw [e] <;> rfl
      rw [e]
      exact List.filter_append_perm _ _
    have := h M
    unfold opParts
    simpa using this
  · unfold opParts at hl
    simp only [List.mem_cons, List.not_mem_nil, or_false] at hl
    rcases hl with rfl | rfl <;> exact List.filter_sublist
theorem opParts_par {M : List Vtx} (i : Nat) (l : List Vtx) (h : (opParts M)[i]? = some l) : ∀ z ∈ l, z.id % 2 = i := by
  have hi : i < 2 := by
    have := (List.getElem?_eq_some_iff.1 h).1
    simpa [opParts] using this
  rw [opParts_at hi] at h
  injection h with h
  subst h
  intro z hz
  have := (List.mem_filter.1 hz).2
  simpa using this
/-- Compare over a graph with one odd half. -/
theorem compare_odd {L : Gr} {v u : Vtx} {c o : Val} {b : Bool} (h : Odd L v u c o) (vl vu : Value) (ls : List Ls) (w : World) (hv : LLRd w vl ls) (hu : FRd w vu [true, true]) (h2 : ls.length = 2) (hd : dat ls = opParts (oddL L v u o b)) :
    Calls Tryz.prog 12 #[vl, vu] w fun e w' => ∃ vo reps, e = .returned (.tuple #[vo, .int .i64 0]) ∧ Told w vo reps w' ∧ (b = false → reps = [⟨2, u.id % 2, u.id, v.id⟩]) ∧ (b = true → reps.Perm [⟨3, u.id % 2, u.id, v.id⟩, ⟨3, v.id % 2, v.id, u.id⟩]) := by
  have hp : Parted (oddL L v u o b) (dat ls) := by rw [hd]; exact opParts_parted _
  have ha : OddAt L v u o b ls := ⟨hp, fun i l hl => opParts_par i l (by rw [← hd]; exact hl)⟩
  have ht := h.told ha (up := [true, true]) (fun i hi => by
    rw [h2] at hi
    rcases i with _ | _ | i
    · rfl
    · rfl
    · omega) (![true, true].any (!·))
  have h40 := h.good.short
  have hs : ∀ s ∈ ls, s.l.length ≤ 40 := fun s hs => by
    have h1 := (hp.sub (s.l.map Vs.x) (List.mem_map_of_mem hs)).length_le
    rw [List.length_map, List.length_map] at h1
    omega
  have h1 := held_len [true, true] ls 0 40 hs
  have hl : (allR (held [true, true] 0 ls) (![true, true].any (!·))).length ≤ 1000000 := by
    cases b with
    | false => rw [ht.1 rfl]; simp
    | true => rw [(ht.2 rfl).length_eq]; simp
  refine (compare_good vl vu ls [true, true] w hv hu (by rw [h2]; rfl) (by omega) (fun s hs' => by have := hs s hs'; omega) (hp.ok' h.rise h.each) (by unfold maxLen; omega) hl).mono ?_
  rintro e w' ⟨vo, rfl, hto⟩
  exact ⟨vo, _, rfl, hto, ht.1, ht.2⟩
end Go.Proofs.YtnkmfgklmfmfeaaGreatDoor

/- YBC: what is needed of it (by shake.py). -/

/- YBC, as far as the seat goes. -/
/- gussetref03.SameNumbers, gussetref02.SameValues, gussetref03.SameAnswer: decided; SameReq of two that are alike. (Printed by gen_same.py.) -/
namespace Go.Proofs.YtnkmfgklmfmfeaaGreatDoor
set_option linter.unusedVariables false
set_option linter.unusedSimpArgs false
open Go.RowKit
theorem bytes_inj {a b : ByteArray} (h : a.toList = b.toList) : a = b := by
  rw [ByteArray.toList_eq, ByteArray.toList_eq] at h
  exact ByteArray.ext (Array.toList_inj.1 h)
/-- Two values, held against one another part by part. -/
theorem val_cases (x y : Val) : x = y ∨ (x ≠ y ∧ ((((x.k : Int) == (y.k : Int)) = false ∧ ¬ (x.k : Int) = (y.k : Int)) ∨ (x.k = y.k ∧ (x.n == y.n) = false ∧ ¬ x.n = y.n) ∨ (x.k = y.k ∧ x.n = y.n ∧ ¬ x.s.toList = y.s.toList))) := by
  obtain ⟨k, n, s⟩ := x
  obtain ⟨k', n', s'⟩ := y
  by_cases h1 : k = k'
  · by_cases h2 : n = n'
    · by_cases h3 : s = s'
      · subst h1 h2 h3; exact .inl rfl
      · exact .inr ⟨fun e => by injection e with _ _ e; exact h3 e, .inr (.inr ⟨h1, h2, fun e => h3 (bytes_inj e)⟩)⟩
    · exact .inr ⟨fun e => by injection e with _ e _; exact h2 e, .inr (.inl ⟨h1, by simpa using h2, h2⟩)⟩
  · exact .inr ⟨fun e => by injection e with e _ _; exact h1 e, .inl ⟨by simp; omega, by simp only; omega⟩⟩
end Go.Proofs.YtnkmfgklmfmfeaaGreatDoor
