/- gussetref12.Cuts. -/
import Derived.Test.YtdblilhkojafgaaG10
namespace Go.Proofs.Ytdblilhkojafgaa
set_option linter.unusedVariables false
open Go.RowKit

def cuStep (hl : List Vs) (id : Nat) (ns : List Nat) (k : Nat) : List Nat := if holdB hl k then ns else insN id ns
def cuAll (hl : List Vs) (t : List Vs) : List Nat := t.foldl (fun ns s => (keysS s).foldl (cuStep hl s.x.id) ns) []
theorem cuAll_snoc (hl t : List Vs) (s : Vs) : cuAll hl (t ++ [s]) = (keysS s).foldl (cuStep hl s.x.id) (cuAll hl t) := by simp [cuAll]
theorem cuStep_length (hl : List Vs) (id : Nat) (ns : List Nat) (k : Nat) : (cuStep hl id ns k).length ≤ ns.length + 1 := by
  unfold cuStep
  have := insN_length id ns
  split <;> omega
theorem cuFold_mem (hl : List Vs) (id p : Nat) : ∀ (t ns : List Nat), p ∈ t.foldl (cuStep hl id) ns ↔ p ∈ ns ∨ (p = id ∧ ∃ k ∈ t, holdB hl k = false)
  | [], ns => by simp
  | k :: r, ns => by
    rw [List.foldl_cons, cuFold_mem hl id p r]
    have : p ∈ cuStep hl id ns k ↔ p ∈ ns ∨ (p = id ∧ holdB hl k = false) := by
      unfold cuStep
      split
      · rename_i h
        constructor
        · exact .inl
        · rintro (h2 | ⟨_, h2⟩)
          · exact h2
          · rw [h] at h2; exact absurd h2 (by simp)
      · rename_i h
        rw [insN_mem]
        constructor
        · rintro (rfl | h2)
          · exact .inr ⟨rfl, by simpa using h⟩
          · exact .inl h2
        · rintro (h2 | ⟨rfl, _⟩)
          · exact .inr h2
          · exact .inl rfl
    rw [this]
    constructor
    · rintro ((h | ⟨rfl, h⟩) | ⟨rfl, k2, h, h2⟩)
      · exact .inl h
      · exact .inr ⟨rfl, k, by simp, h⟩
      · exact .inr ⟨rfl, k2, by simp [h], h2⟩
    · rintro (h | ⟨rfl, k2, h, h2⟩)
      · exact .inl (.inl h)
      · rcases List.mem_cons.1 h with rfl | h
        · exact .inl (.inr ⟨rfl, h2⟩)
        · exact .inr ⟨rfl, k2, h, h2⟩
theorem cuFold_rising (hl : List Vs) (id : Nat) : ∀ (t ns : List Nat), ns.Pairwise (· < ·) → (t.foldl (cuStep hl id) ns).Pairwise (· < ·)
  | [], ns, h => h
  | k :: r, ns, h => by
    rw [List.foldl_cons]
    refine cuFold_rising hl id r _ ?_
    unfold cuStep
    split
    · exact h
    · exact insN_rising h
theorem cuAll_mem (hl t : List Vs) (p : Nat) : p ∈ cuAll hl t ↔ ∃ s ∈ t, s.x.id = p ∧ ∃ k ∈ keysS s, holdB hl k = false := by
  induction t using snoc_ind with
  | h0 => simp [cuAll]
  | hs t s ih =>
    rw [cuAll_snoc, cuFold_mem, ih]
    constructor
    · rintro (⟨u, hu, h1, h2⟩ | ⟨rfl, h2⟩)
      · exact ⟨u, by simp [hu], h1, h2⟩
      · exact ⟨s, by simp, rfl, h2⟩
    · rintro ⟨u, hu, h1, h2⟩
      rcases List.mem_append.1 hu with hu | hu
      · exact .inl ⟨u, hu, h1, h2⟩
      · rw [List.mem_singleton] at hu; subst hu; exact .inr ⟨h1.symm, h2⟩
theorem cuAll_rising (hl t : List Vs) : (cuAll hl t).Pairwise (· < ·) := by
  induction t using snoc_ind with
  | h0 => exact List.Pairwise.nil
  | hs t s ih => rw [cuAll_snoc]; exact cuFold_rising hl _ _ _ ih

set_option maxRecDepth 100000 in
set_option maxHeartbeats 2000000 in
theorem refcuts_any (va : Value) (la : List Vs) (w : World) (ha : LRd w va la) (hl0 : la.length ≤ 1000000) (hw0 : wt la < 999999) :
    Calls Try.prog 23 #[va] w fun e w' => ∃ vo, e = .returned vo ∧ RdS w' 1 vo (cuAll (heldL la) (heldL la)).length ((cuAll (heldL la) (heldL la)).map (keyV .u32)) ∧ (cuAll (heldL la) (heldL la)).length ≤ 999999 ∧ Mod (fun _ => False) w w' := by
  have HH := Lib.hid (held_any va la w ha hl0)
  have HWT : Hid (wt (heldL la) < 999999) := Lib.hid (Nat.lt_of_le_of_lt (wt_held la) hw0)
  have HLN : Hid ((heldL la).length ≤ 1000000) := Lib.hid (Nat.le_trans (heldL_length la) hl0)
  have HRD : Hid (∀ vo w1, SubAt w la vo (heldL la) w1 → LRd w1 vo (heldL la)) := Lib.hid (fun vo w1 h => h.rd ha)
  obtain ⟨aa, ca, rfl, -⟩ := ha.row.shape
  generalize la.length = na at HH ⊢
  clear ha hl0 hw0
  generalize heldL la = hl at *
  obtain ⟨n, hn⟩ : ∃ n, n = hl.length := ⟨_, rfl⟩
  have HN := Lib.hid hn
  have hn0 : n ≤ 1000000 := by rw [hn]; exact HLN.out
  clear hn HLN
  go_enter Try.func23, Try.ntmps23
  go_wp2_with (go_at_call 47; refine HH.out.mono ?_; (rintro e w1 ⟨vo, rfl, hs⟩); have HL1 := Lib.hid (HRD.out _ _ hs); have HM1 := Lib.hid hs.mod; (obtain ⟨av, cv, hcv, hcv2, rfl⟩ : ∃ a c, n ≤ c ∧ c ≤ 9223372036854775807 ∧ vo = .slice a n c := (by obtain ⟨a, c, e, h1, h2, _⟩ := (HRD.out _ _ hs).row.shape; rw [← HN.out] at e h1; exact ⟨_, _, h1, h2, e⟩)); clear hs)
  have HNM0 : Hid (cuAll hl (hl.take 0) = []) := Lib.hid rfl
  go_loopw [13, 4] (fun i o wr => ∃ k : Nat, i = .int .i64 k ∧ k ≤ n ∧ RdS wr 1 o (cuAll hl (hl.take k)).length ((cuAll hl (hl.take k)).map (keyV .u32)) ∧ (cuAll hl (hl.take k)).length ≤ wt (hl.take k) ∧ Mod (fun _ => False) w1 wr) (fun i _ _ => n - (intOf i).toNat)
  case atStart => exact ⟨0, rfl, Nat.zero_le _, by rw [HNM0.out]; exact (Seg.nil w1 27 1).rdS, by rw [HNM0.out]; simp, Mod.refl _ _⟩
  case round =>
    obtain ⟨k, rfl, hk, hs, hle, hm⟩ := hrel
    have HS := Lib.hid hs
    have HM := Lib.hid hm
    have HLE := Lib.hid hle
    clear hs hm hle HNM0
    obtain ⟨an, cn, nn, hvv⟩ : ∃ ao co no, u4 = .slice ao no co := by
      obtain ⟨a, c, e, _⟩ := HS.out.shape
      exact ⟨_, _, _, e⟩
    subst hvv
    by_cases hkn : k < n
    · obtain ⟨x, hx⟩ : ∃ x, hl[k]? = some x := ⟨_, List.getElem?_eq_getElem (by rw [← HN.out]; exact hkn)⟩
      obtain ⟨b, off, e0, hb, r0, r1, r2, r3⟩ := HL1.out.ent hx rfl
      have r0 := HM.out.cell r0
      have r1 := HM.out.cell r1
      have r2 := HM.out.cell r2
      have r3 := HM.out.cell r3
      have zb : b < wr.heap.size := Nat.lt_of_lt_of_le hb HM.out.size
      have HVR := Lib.hid (HL1.out.at hx)
      have HAT := Lib.hid (wt_at hx).1
      have HTK := Lib.hid (take_snoc hx)
      have HWK : Hid (wt (hl.take (k + 1)) < 999999) := Lib.hid (Nat.lt_of_le_of_lt wt_take HWT.out)
      clear hx hb
      obtain ⟨⟨id, there, xs, ys⟩, vp, vh⟩ := x
      obtain ⟨np, ap, cp, rfl⟩ : ∃ np ap cp, vp = .slice ap np cp := by
        obtain ⟨a, c, e, _⟩ := HVR.out.props.shape
        exact ⟨_, _, _, e⟩
      obtain ⟨nh, hnh⟩ : ∃ nh, nh = ys.length := ⟨_, rfl⟩
      have HNH := Lib.hid hnh
      obtain ⟨ah, ch, hch, hch2, rfl⟩ : ∃ ap cp, nh ≤ cp ∧ cp ≤ 9223372036854775807 ∧ vh = .slice ap nh cp := by
        obtain ⟨a, c, e, h1, h2, _⟩ := HVR.out.halves.shape
        simp only at e h1
        rw [← hnh] at e h1
        exact ⟨_, _, h1, h2, e⟩
      clear hnh
      have HYR : Hid (RdS w1 4 (.slice ah nh ch) nh (cellsOf .u32 ys)) := Lib.hid (by have h := HVR.out.halves; simp only at h; rwa [← HNH.out] at h)
      simp only at r0 r1 r2 r3 HAT
      clear HVR
      have HM2 := Lib.hid (HM.out.alloc (.cells #[.int .u32 (id : Int), .bool there, .slice ap np cp, .slice ah nh ch] 31))
      have HS2 := Lib.hid (HS.out.keep ((Mod.refl (fun _ => False) wr).alloc (.cells #[.int .u32 (id : Int), .bool there, .slice ap np cp, .slice ah nh ch] 31)))
      subst e0
      go_wp2
      go_loopw [20, 4] (fun i o wr' => ∃ j : Nat, i = .int .i64 j ∧ j ≤ nh ∧ RdS wr' 1 o ((((ys.map Ent.key).take j).foldl (cuStep hl id) (cuAll hl (hl.take k))).length) ((((ys.map Ent.key).take j).foldl (cuStep hl id) (cuAll hl (hl.take k))).map (keyV .u32)) ∧ (((ys.map Ent.key).take j).foldl (cuStep hl id) (cuAll hl (hl.take k))).length ≤ wt (hl.take k) + j ∧ Mod (fun _ => False) w1 wr' ∧ wr'.heap[wr.heap.size]? = some (.cells #[.int .u32 (id : Int), .bool there, .slice ap np cp, .slice ah nh ch] 31 (0, 0))) (fun i _ _ => nh - (intOf i).toNat)
      case atStart => exact ⟨0, rfl, Nat.zero_le _, HS2.out, HLE.out, HM2.out, heap_alloc_new' wr _⟩
      case round =>
        obtain ⟨j, rfl, hj, hs, hle, hm, hbx⟩ := hrel
        have HBX := Lib.hid hbx
        have x0 := cell_of_row hbx 0
        simp at x0
        have zbx := lt_of_block hbx
        clear hbx
        have HSJ := Lib.hid hs
        have HMJ := Lib.hid hm
        have HLJ := Lib.hid hle
        clear hs hm hle HS HM HM2 HS2 r0 r1 r2 r3 zb HLE
        obtain ⟨ns, hns⟩ : ∃ ns, ns = ((ys.map Ent.key).take j).foldl (cuStep hl id) (cuAll hl (hl.take k)) := ⟨_, rfl⟩
        have HNS := Lib.hid hns
        rw [← hns] at HSJ HLJ
        clear hns
        obtain ⟨aj, cj, nj, hvv⟩ : ∃ ao co no, u4 = .slice ao no co := by
          obtain ⟨a, c, e, _⟩ := HSJ.out.shape
          exact ⟨_, _, _, e⟩
        subst hvv
        by_cases hjn : j < nh
        · obtain ⟨y, hy⟩ : ∃ y, ys[j]? = some y := ⟨_, List.getElem?_eq_getElem (by rw [← HNH.out]; exact hjn)⟩
          have hyk : (ys.map Ent.key)[j]? = some y.key := by rw [List.getElem?_map, hy]; rfl
          obtain ⟨b2, off2, e2, hb2, p0, p1, p2, p3⟩ := HYR.out.ent2 hy rfl
          have p0 := HMJ.out.cell p0
          have p1 := HMJ.out.cell p1
          have p2 := HMJ.out.cell p2
          have p3 := HMJ.out.cell p3
          have zb2 : b2 < wr.heap.size := Nat.lt_of_lt_of_le hb2 HMJ.out.size
          have HST : Hid (((ys.map Ent.key).take (j + 1)).foldl (cuStep hl id) (cuAll hl (hl.take k)) = cuStep hl id ns y.key) := Lib.hid (by rw [take_snoc hyk, List.foldl_append, HNS.out]; rfl)
          have HSTL := Lib.hid (cuStep_length hl id ns y.key)
          obtain ⟨hb, hhb⟩ : ∃ hb, hb = holdB hl y.key := ⟨_, rfl⟩
          have HHB := Lib.hid hhb
          have HHO : Hid (∀ wX, Mod (fun _ => False) w1 wX → Calls Try.prog 48 #[.slice (some ⟨b, off, none⟩) n cv, .int .u32 (y.key : Int)] wX fun e w' => e = .returned (.bool hb) ∧ Mod (fun _ => False) wX w') := Lib.hid (fun wX m => by rw [hhb]; exact holds12_any _ _ _ _ (HL1.out.keep m))
          have HIN : Hid (∀ wX, Mod (fun _ => False) wr wX → Calls Try.prog 49 #[.slice aj nj cj, .int .u32 (id : Int)] wX fun e w' => ∃ v', e = .returned v' ∧ Mod (fun _ => False) wX w' ∧ RdS w' 1 v' (insN id ns).length ((insN id ns).map (keyV .u32))) := Lib.hid (fun wX m => by
            have h := HSJ.out.keep m
            have hnj : nj = ns.length := by
              obtain ⟨a, c, e, _⟩ := h.shape
              injection e
            exact insert_any _ ns id wX (by subst hnj; exact h) (by have := HLJ.out; have := HAT.out; have := HWK.out; have := HNH.out; omega))
          clear hy hyk hb2 hhb
          obtain ⟨key, ⟨vk, vn, vs⟩⟩ := y
          simp only at p0 p1 p2 p3 HST HHB HHO HIN HSTL
          subst e2
          have HMA := Lib.hid (HMJ.out.alloc (.cells #[.int .u32 (key : Int), .int .u8 (vk : Int), .int .i64 vn, .string vs] 96))
          have HSA := Lib.hid (HSJ.out.keep ((Mod.refl (fun _ => False) wr).alloc (.cells #[.int .u32 (key : Int), .int .u8 (vk : Int), .int .i64 vn, .string vs] 96)))
          cases hb with
          | true =>
            go_wp2_with (go_at_call 48; refine (HHO.out _ HMA.out).mono ?_; (rintro e w5 ⟨rfl, hm5⟩); have HM5 := Lib.hid (HMA.out.trans hm5); have HS5 := Lib.hid (HSA.out.keep hm5); have HB5 := Lib.hid (hm5.heap (heap_alloc_old HBX.out) (fun f => f)); clear hm5)
            go_roundw
            case rel => exact ⟨j + 1, by go_num, by omega, by rw [HST.out]; unfold cuStep; rw [← HHB.out, if_pos rfl]; exact HS5.out, by rw [HST.out]; have := HLJ.out; have := HSTL.out; omega, HM5.out, HB5.out⟩
            case measure => simp [intOf]; omega
          | false =>
            go_wp2_with (first
              | (go_at_call 48; refine (HHO.out _ HMA.out).mono ?_; (rintro e w5 ⟨rfl, hm5⟩); have HM5 := Lib.hid (HMA.out.trans hm5); have HR5 := Lib.hid (((Mod.refl (fun _ => False) wr).alloc (.cells #[.int .u32 (key : Int), .int .u8 (vk : Int), .int .i64 vn, .string vs] 96)).trans hm5); have HB5 := Lib.hid (hm5.heap (heap_alloc_old HBX.out) (fun f => f)); have f0 := cell_of_row HB5.out 0; simp at f0; clear hm5)
              | (go_at_call 49; refine (HIN.out _ HR5.out).mono ?_; (rintro e w6 ⟨v6, rfl, hm6, hr6⟩); have HM6 := Lib.hid (HM5.out.trans hm6); have HR6 := Lib.hid hr6; have HB6 := Lib.hid (hm6.heap HB5.out (fun f => f)); clear hm6 hr6))
            go_roundw
            case rel => exact ⟨j + 1, by go_num, by omega, by rw [HST.out]; unfold cuStep; rw [← HHB.out, if_neg (by simp)]; exact HR6.out, by rw [HST.out]; have := HLJ.out; have := HSTL.out; omega, HM6.out, HB6.out⟩
            case measure => simp [intOf]; omega
        · have HEQ : Hid (cuAll hl (hl.take (k + 1)) = ns) := Lib.hid (by
            have ht : (ys.map Ent.key).take j = ys.map Ent.key := List.take_of_length_le (by rw [List.length_map]; have := HNH.out; omega)
            rw [HTK.out, cuAll_snoc, HNS.out, ht]
            rfl)
          go_wp2
          go_roundw
          case rel => exact ⟨k + 1, by go_num, by omega, by rw [HEQ.out]; exact HSJ.out, by rw [HEQ.out, HAT.out]; have := HLJ.out; have := HNH.out; omega, HMJ.out⟩
          case measure => simp [intOf]; omega
    · have htk : hl.take k = hl := List.take_of_length_le (by have := HN.out; omega)
      rw [htk] at HS HLE
      go_wp2
      go_ret
      exact ⟨_, rfl, HS.out, by have := HLE.out; have := HWT.out; omega, HM1.out.trans HM.out⟩
end Go.Proofs.Ytdblilhkojafgaa
