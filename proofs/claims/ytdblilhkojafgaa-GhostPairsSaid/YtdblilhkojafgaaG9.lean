/- gussetref12.Count. -/
import Derived.Test.YtdblilhkojafgaaG8
import Derived.Test.YtdblilhkojafgaaTC
namespace Go.Proofs.Ytdblilhkojafgaa
set_option linter.unusedVariables false
open Go.RowKit

def keysS (s : Vs) : List Nat := s.x.halves.map Ent.key
def nmStep (hl : List Vs) (ns : List Nat) (k : Nat) : List Nat := if holdB hl k then ns else insN k ns
def nmAll (hl : List Vs) (t : List Vs) : List Nat := t.foldl (fun ns s => (keysS s).foldl (nmStep hl) ns) []
theorem nmAll_snoc (hl t : List Vs) (s : Vs) : nmAll hl (t ++ [s]) = (keysS s).foldl (nmStep hl) (nmAll hl t) := by simp [nmAll]
theorem nmStep_length (hl : List Vs) (ns : List Nat) (k : Nat) : (nmStep hl ns k).length ≤ ns.length + 1 := by
  unfold nmStep
  have := insN_length k ns
  split <;> omega
theorem snoc_ind9 {α : Type} {P : List α → Prop} (h0 : P []) (hs : ∀ l x, P l → P (l ++ [x])) (l : List α) : P l := by
  rw [← List.reverse_reverse l]
  induction l.reverse with
  | nil => exact h0
  | cons x r ih => rw [List.reverse_cons]; exact hs _ _ ih
def cntS (t : List Vs) (k : Nat) : Nat := (t.flatMap keysS).count k
theorem cntS_snoc (t : List Vs) (s : Vs) (k : Nat) : cntS (t ++ [s]) k = cntS t k + (keysS s).count k := by simp [cntS, List.flatMap_append]
theorem cntS_wt (t : List Vs) (k : Nat) : cntS t k ≤ wt t := by
  induction t using snoc_ind9 with
  | h0 => simp [cntS]
  | hs t s ih =>
    rw [cntS_snoc, wt_snoc]
    have := List.count_le_length (a := k) (l := keysS s)
    simp only [keysS, List.length_map] at this ⊢
    omega
def refG (hl : List Vs) : List (Nat × Nat) := (nmAll hl hl).map fun k => (k, cntS hl k)
theorem wt_held : ∀ l : List Vs, wt (heldL l) ≤ wt l
  | [] => by simp [heldL]
  | s :: r => by
    have ih := wt_held r
    have e : ∀ (x : Vs) (t : List Vs), wt (x :: t) = x.x.halves.length + 1 + wt t := fun x t => by simp [wt]
    unfold heldL
    split
    · rw [e, e]; omega
    · rw [e]; omega
theorem count_snoc (l : List Nat) (x k : Nat) : (l ++ [x]).count k = l.count k + (if x = k then 1 else 0) := by
  rw [List.count_append, List.count_singleton]
  congr 1
  by_cases h : x = k <;> simp [h]

set_option maxRecDepth 100000 in
set_option maxHeartbeats 2000000 in
theorem refcount_any (va : Value) (la : List Vs) (w : World) (ha : LRd w va la) (hl0 : la.length ≤ 1000000) (hw0 : wt la < 999999) :
    Calls Try.prog 20 #[va] w fun e w' => ∃ vo, e = .returned vo ∧ SegP 75 w vo (refG (heldL la)) w' := by
  have HH := Lib.hid (held_any va la w ha hl0)
  have HWT : Hid (wt (heldL la) < 999999) := Lib.hid (Nat.lt_of_le_of_lt (wt_held la) hw0)
  have HLN : Hid ((heldL la).length ≤ 1000000) := Lib.hid (Nat.le_trans (heldL_length la) hl0)
  have HRD : Hid (∀ vo w1, SubAt w la vo (heldL la) w1 → LRd w1 vo (heldL la)) := Lib.hid (fun vo w1 h => h.rd ha)
  obtain ⟨aa, ca, rfl, -⟩ := ha.row.shape
  generalize la.length = na at HH ⊢
  clear ha hl0 hw0
  generalize heldL la = hl at *
  obtain ⟨n, hn⟩ : ∃ n, n = hl.length := ⟨_, rfl⟩
  have HN := Lib.hid hn
  have hn0 : n ≤ 1000000 := by rw [hn]; exact HLN.out
  clear hn HLN
  go_enter Try.func20, Try.ntmps20
  go_wp2_with (go_at_call 47; refine HH.out.mono ?_; (rintro e w1 ⟨vo, rfl, hs⟩); have HL1 := Lib.hid (HRD.out _ _ hs); have HM1 := Lib.hid hs.mod; (obtain ⟨av, cv, hcv, hcv2, rfl⟩ : ∃ a c, n ≤ c ∧ c ≤ 9223372036854775807 ∧ vo = .slice a n c := (by obtain ⟨a, c, e, h1, h2, _⟩ := (HRD.out _ _ hs).row.shape; rw [← HN.out] at e h1; exact ⟨_, _, h1, h2, e⟩)); clear hs)
  have HNM0 : Hid (nmAll hl (hl.take 0) = []) := Lib.hid rfl
  go_loopw [21, 4] (fun i o wr => ∃ k : Nat, i = .int .i64 k ∧ k ≤ n ∧ RdS wr 1 o (nmAll hl (hl.take k)).length ((nmAll hl (hl.take k)).map (keyV .u32)) ∧ (nmAll hl (hl.take k)).length ≤ wt (hl.take k) ∧ Mod (fun _ => False) w1 wr) (fun i _ _ => n - (intOf i).toNat)
  case atStart => exact ⟨0, rfl, Nat.zero_le _, by rw [HNM0.out]; exact (Seg.nil w1 27 1).rdS, by rw [HNM0.out]; simp, Mod.refl _ _⟩
  case round =>
    obtain ⟨k, rfl, hk, hs, hle, hm⟩ := hrel
    have HS := Lib.hid hs
    have HM := Lib.hid hm
    have HLE := Lib.hid hle
    clear hs hm hle HNM0
    obtain ⟨an, cn, nn, hvv⟩ : ∃ ao co no, u4 = .slice ao no co := by
      obtain ⟨a, c, e, _⟩ := HS.out.shape
      exact ⟨_, _, _, e⟩
    subst hvv
    by_cases hkn : k < n
    · obtain ⟨x, hx⟩ : ∃ x, hl[k]? = some x := ⟨_, List.getElem?_eq_getElem (by rw [← HN.out]; exact hkn)⟩
      obtain ⟨b, off, e0, hb, r0, r1, r2, r3⟩ := HL1.out.ent hx rfl
      have r0 := HM.out.cell r0
      have r1 := HM.out.cell r1
      have r2 := HM.out.cell r2
      have r3 := HM.out.cell r3
      have zb : b < wr.heap.size := Nat.lt_of_lt_of_le hb HM.out.size
      have HVR := Lib.hid (HL1.out.at hx)
      have HAT := Lib.hid (wt_at hx).1
      have HTK := Lib.hid (take_snoc hx)
      have HWK : Hid (wt (hl.take (k + 1)) < 999999) := Lib.hid (Nat.lt_of_le_of_lt wt_take HWT.out)
      clear hx hb
      obtain ⟨⟨id, there, xs, ys⟩, vp, vh⟩ := x
      obtain ⟨np, ap, cp, rfl⟩ : ∃ np ap cp, vp = .slice ap np cp := by
        obtain ⟨a, c, e, _⟩ := HVR.out.props.shape
        exact ⟨_, _, _, e⟩
      obtain ⟨nh, hnh⟩ : ∃ nh, nh = ys.length := ⟨_, rfl⟩
      have HNH := Lib.hid hnh
      obtain ⟨ah, ch, hch, hch2, rfl⟩ : ∃ ap cp, nh ≤ cp ∧ cp ≤ 9223372036854775807 ∧ vh = .slice ap nh cp := by
        obtain ⟨a, c, e, h1, h2, _⟩ := HVR.out.halves.shape
        simp only at e h1
        rw [← hnh] at e h1
        exact ⟨_, _, h1, h2, e⟩
      clear hnh
      have HYR : Hid (RdS w1 4 (.slice ah nh ch) nh (cellsOf .u32 ys)) := Lib.hid (by have h := HVR.out.halves; simp only at h; rwa [← HNH.out] at h)
      simp only at r0 r1 r2 r3 HAT
      clear HVR
      have HM2 := Lib.hid (HM.out.alloc (.cells #[.int .u32 (id : Int), .bool there, .slice ap np cp, .slice ah nh ch] 31))
      have HS2 := Lib.hid (HS.out.keep ((Mod.refl (fun _ => False) wr).alloc (.cells #[.int .u32 (id : Int), .bool there, .slice ap np cp, .slice ah nh ch] 31)))
      subst e0
      go_wp2
      go_loopw [28, 4] (fun i o wr' => ∃ j : Nat, i = .int .i64 j ∧ j ≤ nh ∧ RdS wr' 1 o ((((ys.map Ent.key).take j).foldl (nmStep hl) (nmAll hl (hl.take k))).length) ((((ys.map Ent.key).take j).foldl (nmStep hl) (nmAll hl (hl.take k))).map (keyV .u32)) ∧ (((ys.map Ent.key).take j).foldl (nmStep hl) (nmAll hl (hl.take k))).length ≤ wt (hl.take k) + j ∧ Mod (fun _ => False) w1 wr') (fun i _ _ => nh - (intOf i).toNat)
      case atStart => exact ⟨0, rfl, Nat.zero_le _, HS2.out, HLE.out, HM2.out⟩
      case round =>
        obtain ⟨j, rfl, hj, hs, hle, hm⟩ := hrel
        have HSJ := Lib.hid hs
        have HMJ := Lib.hid hm
        have HLJ := Lib.hid hle
        clear hs hm hle HS HM HM2 HS2 r0 r1 r2 r3 zb HLE
        obtain ⟨ns, hns⟩ : ∃ ns, ns = ((ys.map Ent.key).take j).foldl (nmStep hl) (nmAll hl (hl.take k)) := ⟨_, rfl⟩
        have HNS := Lib.hid hns
        rw [← hns] at HSJ HLJ
        clear hns
        obtain ⟨aj, cj, nj, hvv⟩ : ∃ ao co no, u4 = .slice ao no co := by
          obtain ⟨a, c, e, _⟩ := HSJ.out.shape
          exact ⟨_, _, _, e⟩
        subst hvv
        by_cases hjn : j < nh
        · obtain ⟨y, hy⟩ : ∃ y, ys[j]? = some y := ⟨_, List.getElem?_eq_getElem (by rw [← HNH.out]; exact hjn)⟩
          have hyk : (ys.map Ent.key)[j]? = some y.key := by rw [List.getElem?_map, hy]; rfl
          obtain ⟨b2, off2, e2, hb2, p0, p1, p2, p3⟩ := HYR.out.ent2 hy rfl
          have p0 := HMJ.out.cell p0
          have p1 := HMJ.out.cell p1
          have p2 := HMJ.out.cell p2
          have p3 := HMJ.out.cell p3
          have zb2 : b2 < wr.heap.size := Nat.lt_of_lt_of_le hb2 HMJ.out.size
          have HST : Hid (((ys.map Ent.key).take (j + 1)).foldl (nmStep hl) (nmAll hl (hl.take k)) = nmStep hl ns y.key) := Lib.hid (by rw [take_snoc hyk, List.foldl_append, HNS.out]; rfl)
          have HSTL := Lib.hid (nmStep_length hl ns y.key)
          obtain ⟨hb, hhb⟩ : ∃ hb, hb = holdB hl y.key := ⟨_, rfl⟩
          have HHB := Lib.hid hhb
          have HHO : Hid (∀ wX, Mod (fun _ => False) w1 wX → Calls Try.prog 48 #[.slice (some ⟨b, off, none⟩) n cv, .int .u32 (y.key : Int)] wX fun e w' => e = .returned (.bool hb) ∧ Mod (fun _ => False) wX w') := Lib.hid (fun wX m => by rw [hhb]; exact holds12_any _ _ _ _ (HL1.out.keep m))
          have HIN : Hid (∀ wX, Mod (fun _ => False) wr wX → Calls Try.prog 49 #[.slice aj nj cj, .int .u32 (y.key : Int)] wX fun e w' => ∃ v', e = .returned v' ∧ Mod (fun _ => False) wX w' ∧ RdS w' 1 v' (insN y.key ns).length ((insN y.key ns).map (keyV .u32))) := Lib.hid (fun wX m => by
            have h := HSJ.out.keep m
            have hnj : nj = ns.length := by
              obtain ⟨a, c, e, _⟩ := h.shape
              injection e
            exact insert_any _ ns y.key wX (by subst hnj; exact h) (by have := HLJ.out; have := HAT.out; have := HWK.out; have := HNH.out; omega))
          clear hy hyk hb2 hhb
          obtain ⟨key, ⟨vk, vn, vs⟩⟩ := y
          simp only at p0 p1 p2 p3 HST HHB HHO HIN HSTL
          subst e2
          have HMA := Lib.hid (HMJ.out.alloc (.cells #[.int .u32 (key : Int), .int .u8 (vk : Int), .int .i64 vn, .string vs] 96))
          have HSA := Lib.hid (HSJ.out.keep ((Mod.refl (fun _ => False) wr).alloc (.cells #[.int .u32 (key : Int), .int .u8 (vk : Int), .int .i64 vn, .string vs] 96)))
          cases hb with
          | true =>
            go_wp2_with (go_at_call 48; refine (HHO.out _ HMA.out).mono ?_; (rintro e w5 ⟨rfl, hm5⟩); have HM5 := Lib.hid (HMA.out.trans hm5); have HS5 := Lib.hid (HSA.out.keep hm5); clear hm5)
            go_roundw
            case rel => exact ⟨j + 1, by go_num, by omega, by rw [HST.out]; unfold nmStep; rw [← HHB.out, if_pos rfl]; exact HS5.out, by rw [HST.out]; have := HLJ.out; have := HSTL.out; omega, HM5.out⟩
            case measure => simp [intOf]; omega
          | false =>
            go_wp2_with (first
              | (go_at_call 48; refine (HHO.out _ HMA.out).mono ?_; (rintro e w5 ⟨rfl, hm5⟩); have HM5 := Lib.hid (HMA.out.trans hm5); have HR5 := Lib.hid (((Mod.refl (fun _ => False) wr).alloc (.cells #[.int .u32 (key : Int), .int .u8 (vk : Int), .int .i64 vn, .string vs] 96)).trans hm5); have hb5 := hm5.heap (heap_alloc_new' wr _) (fun f => f); have f0 := cell_of_row hb5 0; simp at f0; clear hm5 hb5)
              | (go_at_call 49; refine (HIN.out _ HR5.out).mono ?_; (rintro e w6 ⟨v6, rfl, hm6, hr6⟩); have HM6 := Lib.hid (HM5.out.trans hm6); have HR6 := Lib.hid hr6; clear hm6 hr6))
            go_roundw
            case rel => exact ⟨j + 1, by go_num, by omega, by rw [HST.out]; unfold nmStep; rw [← HHB.out, if_neg (by simp)]; exact HR6.out, by rw [HST.out]; have := HLJ.out; have := HSTL.out; omega, HM6.out⟩
            case measure => simp [intOf]; omega
        · have HEQ : Hid (nmAll hl (hl.take (k + 1)) = ns) := Lib.hid (by
            have ht : (ys.map Ent.key).take j = ys.map Ent.key := List.take_of_length_le (by rw [List.length_map]; have := HNH.out; omega)
            rw [HTK.out, nmAll_snoc, HNS.out, ht]
            rfl)
          go_wp2
          go_roundw
          case rel => exact ⟨k + 1, by go_num, by omega, by rw [HEQ.out]; exact HSJ.out, by rw [HEQ.out, HAT.out]; have := HLJ.out; have := HNH.out; omega, HMJ.out⟩
          case measure => simp [intOf]; omega
    · have htk : hl.take k = hl := List.take_of_length_le (by have := HN.out; omega)
      rw [htk] at HS HLE
      obtain ⟨NS, hNS⟩ : ∃ NS, NS = nmAll hl hl := ⟨_, rfl⟩
      have HNS := Lib.hid hNS
      rw [← hNS] at HS HLE
      have hnn : nn = NS.length := by
        obtain ⟨a, c, e, _⟩ := HS.out.shape
        injection e
      have HNN := Lib.hid hnn
      have hnn2 : nn ≤ 999999 := by have := HLE.out; have := HWT.out; omega
      have hcn : nn ≤ cn ∧ cn ≤ 9223372036854775807 := by
        obtain ⟨a, c, e, h1, h2, _⟩ := HS.out.shape
        injection e with e1 e2 e3
        omega
      rw [← hnn] at HS
      obtain ⟨W2, hW2⟩ : ∃ W, W = wr := ⟨_, rfl⟩
      subst hW2
      have HL2 := Lib.hid (HL1.out.keep HM.out)
      have HMW := Lib.hid (HM1.out.trans HM.out)
      obtain ⟨i0, hi, hz0, hz1, hz2⟩ := info_parts infoRG
      have HI : Hid (Try.prog.info? 75 = some i0 ∧ i0.zero = some (.agg #[.int .u32 0, .int .i64 0]) ∧ i0.size = 2 ∧ i0.bytes = 16) := ⟨hi, hz0, hz1, hz2⟩
      clear hNS hnn htk hi hz0 hz1 hz2 HL1 HM HH HLE HM1
      go_wp2
      go_loopw [45, 9] (fun i o wr' => ∃ c : Nat, i = .int .i64 c ∧ c ≤ nn ∧ SegP 75 W2 o ((NS.take c).map fun k => (k, cntS hl k)) wr') (fun i _ _ => nn - (intOf i).toNat)
      case atStart => exact ⟨0, rfl, Nat.zero_le _, SegP.nil _ (Mod.refl _ _)⟩
      case round =>
        obtain ⟨c, rfl, hc, hsp⟩ := hrel
        have HSP := Lib.hid hsp
        clear hsp
        obtain ⟨a9, c9, n9, hvv⟩ : ∃ ao co no, u9 = .slice ao no co := by
          obtain ⟨a, c, e, _⟩ := HSP.out.seg.shape
          exact ⟨_, _, _, e⟩
        subst hvv
        by_cases hcn2 : c < nn
        · obtain ⟨f, hf⟩ : ∃ x, NS[c]? = some x := ⟨_, List.getElem?_eq_getElem (by rw [← HNN.out]; exact hcn2)⟩
          obtain ⟨bn, offn, rfl, hbn, p0⟩ := num_ent HS.out hf rfl
          have p0 := HSP.out.mod.cell p0
          have zbn : bn < wr.heap.size := Nat.lt_of_lt_of_le hbn HSP.out.mod.size
          have HTF : Hid ((NS.take (c + 1)).map (fun k => (k, cntS hl k)) = (NS.take c).map (fun k => (k, cntS hl k)) ++ [(f, cntS hl f)]) := Lib.hid (take_map_succ _ hf)
          have HTL : Hid (((NS.take c).map fun k => (k, cntS hl k)).length = c) := Lib.hid (by rw [List.length_map, List.length_take, ← HNN.out]; omega)
          obtain ⟨dn, hdn⟩ : ∃ d, d = (NS.take c).map fun k => (k, cntS hl k) := ⟨_, rfl⟩
          rw [← hdn] at HSP HTF HTL
          clear hdn hf hbn
          go_wp2
          go_loopw [51, 12] (fun i o wr' => ∃ d : Nat, i = .int .i64 d ∧ d ≤ n ∧ o = .int .i64 (cntS (hl.take d) f : Nat) ∧ SegP 75 W2 (.slice a9 n9 c9) dn wr') (fun i _ _ => n - (intOf i).toNat)
          case atStart => exact ⟨0, rfl, Nat.zero_le _, rfl, HSP.out⟩
          case round =>
            obtain ⟨d, rfl, hd, rfl, hsp⟩ := hrel
            have HSD := Lib.hid hsp
            clear hsp HSP p0 zbn
            by_cases hdn2 : d < n
            · obtain ⟨x, hx⟩ : ∃ x, hl[d]? = some x := ⟨_, List.getElem?_eq_getElem (by rw [← HN.out]; exact hdn2)⟩
              obtain ⟨b, off, e0, hb, r0, r1, r2, r3⟩ := HL2.out.ent hx rfl
              have r0 := HSD.out.mod.cell r0
              have r1 := HSD.out.mod.cell r1
              have r2 := HSD.out.mod.cell r2
              have r3 := HSD.out.mod.cell r3
              have zb : b < wr.heap.size := Nat.lt_of_lt_of_le hb HSD.out.mod.size
              have HVR := Lib.hid (HL2.out.at hx)
              have HTK : Hid (cntS (hl.take (d + 1)) f = cntS (hl.take d) f + (keysS x).count f) := Lib.hid (by rw [take_snoc hx, cntS_snoc])
              have HBD : Hid (cntS (hl.take (d + 1)) f < 999999) := Lib.hid (Nat.lt_of_le_of_lt (cntS_wt _ _) (Nat.lt_of_le_of_lt wt_take HWT.out))
              clear hx hb
              obtain ⟨⟨id, there, xs, ys⟩, vp, vh⟩ := x
              obtain ⟨np, ap, cp, rfl⟩ : ∃ np ap cp, vp = .slice ap np cp := by
                obtain ⟨a, c, e, _⟩ := HVR.out.props.shape
                exact ⟨_, _, _, e⟩
              obtain ⟨nh, hnh⟩ : ∃ nh, nh = ys.length := ⟨_, rfl⟩
              have HNH := Lib.hid hnh
              obtain ⟨ah, ch, hch, hch2, rfl⟩ : ∃ ap cp, nh ≤ cp ∧ cp ≤ 9223372036854775807 ∧ vh = .slice ap nh cp := by
                obtain ⟨a, c, e, h1, h2, _⟩ := HVR.out.halves.shape
                simp only at e h1
                rw [← hnh] at e h1
                exact ⟨_, _, h1, h2, e⟩
              clear hnh
              have HYR : Hid (RdS W2 4 (.slice ah nh ch) nh (cellsOf .u32 ys)) := Lib.hid (by have h := HVR.out.halves; simp only at h; rwa [← HNH.out] at h)
              simp only at r0 r1 r2 r3
              clear HVR
              obtain ⟨q, hq⟩ : ∃ q, q = cntS (hl.take d) f := ⟨_, rfl⟩
              have HQ := Lib.hid hq
              rw [← hq]
              clear hq
              have HSE := Lib.hid (HSD.out.keep ((Mod.refl (fun _ => False) wr).alloc (.cells #[.int .u32 (id : Int), .bool there, .slice ap np cp, .slice ah nh ch] 31)))
              subst e0
              go_wp2
              go_loopw [58, 12] (fun i o wr' => ∃ e : Nat, i = .int .i64 e ∧ e ≤ nh ∧ o = .int .i64 ((q + ((ys.map Ent.key).take e).count f : Nat) : Int) ∧ SegP 75 W2 (.slice a9 n9 c9) dn wr') (fun i _ _ => nh - (intOf i).toNat)
              case atStart => exact ⟨0, rfl, Nat.zero_le _, by simp, HSE.out⟩
              case round =>
                obtain ⟨e, rfl, he, rfl, hsp⟩ := hrel
                have HSE2 := Lib.hid hsp
                clear hsp HSE HSD r0 r1 r2 r3 zb
                obtain ⟨q2, hq2⟩ : ∃ q2, q2 = q + ((ys.map Ent.key).take e).count f := ⟨_, rfl⟩
                have HQ2 := Lib.hid hq2
                rw [← hq2]
                clear hq2
                by_cases hen : e < nh
                · obtain ⟨y, hy⟩ : ∃ y, ys[e]? = some y := ⟨_, List.getElem?_eq_getElem (by rw [← HNH.out]; exact hen)⟩
                  have hyk : (ys.map Ent.key)[e]? = some y.key := by rw [List.getElem?_map, hy]; rfl
                  obtain ⟨b2, off2, e2, hb2, p0, p1, p2, p3⟩ := HYR.out.ent2 hy rfl
                  have p0 := HSE2.out.mod.cell p0
                  have p1 := HSE2.out.mod.cell p1
                  have p2 := HSE2.out.mod.cell p2
                  have p3 := HSE2.out.mod.cell p3
                  have zb2 : b2 < wr.heap.size := Nat.lt_of_lt_of_le hb2 HSE2.out.mod.size
                  have HST : Hid (((ys.map Ent.key).take (e + 1)).count f = ((ys.map Ent.key).take e).count f + (if y.key = f then 1 else 0)) := Lib.hid (by rw [take_snoc hyk, count_snoc])
                  have hq3 : q2 < 999999 := by
                    have h1 := HBD.out
                    rw [HTK.out] at h1
                    have h2 := HQ2.out
                    have h3 := HQ.out
                    have h4 : ((ys.map Ent.key).take e).count f ≤ (ys.map Ent.key).count f := (List.take_sublist e _).count_le f
                    simp only [keysS] at h1
                    omega
                  clear hy hyk hb2
                  obtain ⟨key, ⟨vk, vn, vs⟩⟩ := y
                  simp only at p0 p1 p2 p3 HST
                  subst e2
                  have HSA := Lib.hid (HSE2.out.keep ((Mod.refl (fun _ => False) wr).alloc (.cells #[.int .u32 (key : Int), .int .u8 (vk : Int), .int .i64 vn, .string vs] 96)))
                  by_cases hkf : key = f
                  · subst hkf
                    go_wp2
                    go_roundw
                    case rel => exact ⟨e + 1, by go_num, by omega, by rw [HST.out, if_pos rfl]; have := HQ2.out; go_num, HSA.out⟩
                    case measure => simp [intOf]; omega
                  · have hkf' : (key : Int) ≠ (f : Int) := by omega
                    go_wp2
                    go_roundw
                    case rel => exact ⟨e + 1, by go_num, by omega, by rw [HST.out, if_neg hkf, HQ2.out]; rfl, HSA.out⟩
                    case measure => simp [intOf]; omega
                · have HEQ : Hid (cntS (hl.take (d + 1)) f = q2) := Lib.hid (by
                    have ht : (ys.map Ent.key).take e = ys.map Ent.key := List.take_of_length_le (by rw [List.length_map]; have := HNH.out; omega)
                    rw [HTK.out, HQ2.out, ht, HQ.out]
                    rfl)
                  go_wp2
                  go_roundw
                  case rel => exact ⟨d + 1, by go_num, by omega, by rw [HEQ.out], HSE2.out⟩
                  case measure => simp [intOf]; omega
            · have HEQ : Hid (cntS (hl.take d) f = cntS hl f) := Lib.hid (by rw [List.take_of_length_le (by have := HN.out; omega)])
              rw [HEQ.out]
              have hqb : cntS hl f < 999999 := Nat.lt_of_le_of_lt (cntS_wt _ _) HWT.out
              obtain ⟨q, hq⟩ : ∃ q, q = cntS hl f := ⟨_, rfl⟩
              rw [← hq] at hqb HTF ⊢
              clear hq
              have HA := Lib.hid (HSD.out.seg.alloc (.cells #[.int .u32 (f : Int), .int .i64 (q : Int)] 75))
              have HSR := Lib.hid (src_cells (w := wr) rfl (size := 2) 75 #[.int .u32 (f : Int), .int .i64 (q : Int)] rfl (by simp [Value.oneCell']))
              go_wp2_with (at_builtin; refine wpList_append_seg rfl (.tmp 70) (.tmp 74) 64 rfl i0 _ 2 16 Try.underlying64 HI.out.1 HI.out.2.1 HI.out.2.2.1 HI.out.2.2.2 rfl (by decide) rfl HA.out _ 1 _ rfl HSR.out (by have := HTL.out; unfold maxLen; omega) (by have := HTL.out; omega) ?_; (intro v3 w3 hs3 hg3 ho3); have H3 := Lib.hid (HSD.out.snoc (p := (f, q)) hs3 hg3 ho3); (obtain ⟨a3, n3, c3, rfl⟩ : ∃ a n c, v3 = .slice a n c := (by obtain ⟨a, c, e, _⟩ := hs3.shape; exact ⟨_, _, _, e⟩)); clear hs3 hg3 ho3)
              go_roundw
              case rel => exact ⟨c + 1, by go_num, by omega, by rw [HTF.out]; exact H3.out⟩
              case measure => simp [intOf]; omega
        · have HEQ : Hid ((NS.take c).map (fun k => (k, cntS hl k)) = refG hl) := Lib.hid (by rw [List.take_of_length_le (by have := HNN.out; omega), HNS.out]; rfl)
          rw [HEQ.out] at HSP
          go_wp2
          go_ret
          exact ⟨_, rfl, ⟨HSP.out.seg, fun b hb => Nat.le_trans HMW.out.size (HSP.out.own b hb), HMW.out.trans HSP.out.mod⟩⟩
end Go.Proofs.Ytdblilhkojafgaa
