/- gussetref12.holds, gussetref12.insert. -/
import Derived.Test.YtdblilhkojafgaaVG
import Derived.Test.YtdblilhkojafgaaIA
import Derived.Test.YtdblilhkojafgaaTB
namespace Go.Proofs.Ytdblilhkojafgaa
set_option linter.unusedVariables false
open Go.RowKit

def holdB (l : List Vs) (k : Nat) : Bool := l.any fun s => s.x.id == k
set_option maxRecDepth 100000 in
set_option maxHeartbeats 1000000 in
theorem holds12_any (v : Value) (l : List Vs) (f : Nat) (w : World) (hv : LRd w v l) :
    Calls Try.prog 48 #[v, .int .u32 (f : Int)] w fun e w' => e = .returned (.bool (holdB l f)) ∧ Mod (fun _ => False) w w' := by
  have HV := Lib.hid hv
  obtain ⟨a, c, rfl, hc1, hc2, -⟩ := hv.row.shape
  obtain ⟨n, hn⟩ : ∃ n, n = l.length := ⟨_, rfl⟩
  have HN := Lib.hid hn
  rw [← hn] at HV hc1 ⊢
  clear hn hv
  go_enter Try.func48, Try.ntmps48
  go_wp2
  go_loopw [9] (fun i wr => ∃ k : Nat, i = .int .i64 k ∧ k ≤ n ∧ holdB (l.take k) f = false ∧ Mod (fun _ => False) w wr) (fun i _ => n - (intOf i).toNat)
  case atStart => exact ⟨0, rfl, Nat.zero_le _, rfl, Mod.refl _ _⟩
  case round =>
    obtain ⟨k, rfl, hk, hh, hm⟩ := hrel
    have HM := Lib.hid hm
    have HH := Lib.hid hh
    clear hm hh
    by_cases hkn : k < n
    · obtain ⟨x, hx⟩ : ∃ x, l[k]? = some x := ⟨_, List.getElem?_eq_getElem (by rw [← HN.out]; exact hkn)⟩
      obtain ⟨b, off, rfl, hb, r0, r1, r2, r3⟩ := HV.out.ent hx rfl
      have r0 := HM.out.cell r0
      have r1 := HM.out.cell r1
      have r2 := HM.out.cell r2
      have r3 := HM.out.cell r3
      have zb : b < wr.heap.size := Nat.lt_of_lt_of_le hb HM.out.size
      have HVR := Lib.hid (HV.out.at hx)
      have HTK : Hid (holdB (l.take (k + 1)) f = (holdB (l.take k) f || x.x.id == f)) := Lib.hid (by
        obtain ⟨h1, h2⟩ := List.getElem?_eq_some_iff.1 hx
        rw [List.take_succ_eq_append_getElem h1, h2]
        simp [holdB, List.any_append])
      have HIN : Hid (x.x.id = f → holdB l f = true) := Lib.hid (fun e => List.any_eq_true.2 ⟨x, List.mem_of_getElem? hx, by simp [e]⟩)
      clear hx hb
      obtain ⟨⟨id, there, xs, ys⟩, vp, vh⟩ := x
      obtain ⟨np, ap, cp, rfl⟩ : ∃ np ap cp, vp = .slice ap np cp := by
        obtain ⟨a, c, e, _⟩ := HVR.out.props.shape
        exact ⟨_, _, _, e⟩
      obtain ⟨nh, ah, ch, rfl⟩ : ∃ np ap cp, vh = .slice ap np cp := by
        obtain ⟨a, c, e, _⟩ := HVR.out.halves.shape
        exact ⟨_, _, _, e⟩
      simp only at r0 r1 r2 r3 HTK HIN
      clear HVR
      have HM2 := Lib.hid (HM.out.alloc (.cells #[.int .u32 (id : Int), .bool there, .slice ap np cp, .slice ah nh ch] 31))
      by_cases hi : id = f
      · have HE := Lib.hid (HIN.out hi)
        subst hi
        go_wp2
        go_ret
        exact ⟨by rw [HE.out]; rfl, HM2.out⟩
      · have hi' : (id : Int) ≠ (f : Int) := by omega
        go_wp2
        go_roundw
        case rel => exact ⟨k + 1, by go_num, by omega, by rw [HTK.out, HH.out]; simp [hi], HM2.out⟩
        case measure => simp [intOf]; omega
    · have HE : Hid (holdB l f = false) := Lib.hid (by
        have h := HH.out
        rwa [List.take_of_length_le (by have := HN.out; omega)] at h)
      go_wp2
      go_ret
      exact ⟨by rw [HE.out]; rfl, HM.out⟩

/-! insert -/
def insR (k : Nat) : List Nat → List Nat
  | [] => [k]
  | x :: r => if k < x then k :: x :: r else x :: insR k r
def insN (k : Nat) (l : List Nat) : List Nat := if l.contains k then l else insR k l
def insS (k : Nat) (s : List Nat × Bool) (x : Nat) : List Nat × Bool := if !s.2 && decide (k < x) then (s.1 ++ [k] ++ [x], true) else (s.1 ++ [x], s.2)
def insT (k : Nat) (t : List Nat) : List Nat × Bool := t.foldl (insS k) ([], false)
theorem insT_snoc (k : Nat) (t : List Nat) (x : Nat) : insT k (t ++ [x]) = insS k (insT k t) x := by simp [insT]
theorem insF_true (k : Nat) : ∀ (t o : List Nat), t.foldl (insS k) (o, true) = (o ++ t, true)
  | [], o => by simp
  | x :: r, o => by
    rw [List.foldl_cons]
    have : insS k (o, true) x = (o ++ [x], true) := by simp [insS]
    rw [this, insF_true k r]
    simp
theorem insF (k : Nat) : ∀ (t o : List Nat), (if (t.foldl (insS k) (o, false)).2 then (t.foldl (insS k) (o, false)).1 else (t.foldl (insS k) (o, false)).1 ++ [k]) = o ++ insR k t
  | [], o => by simp [insR]
  | x :: r, o => by
    rw [List.foldl_cons]
    by_cases h : k < x
    · have : insS k (o, false) x = (o ++ [k] ++ [x], true) := by simp [insS, h]
      rw [this, insF_true]
      simp [insR, h]
    · have : insS k (o, false) x = (o ++ [x], false) := by simp [insS, h]
      rw [this, insF k r]
      simp [insR, h]
theorem insT_end (k : Nat) (t : List Nat) : (if (insT k t).2 then (insT k t).1 else (insT k t).1 ++ [k]) = insR k t := insF k t []
theorem insT_len (k : Nat) (t : List Nat) : (insT k t).1.length ≤ t.length + 1 ∧ ((insT k t).2 = false → (insT k t).1.length ≤ t.length) := by
  have key : ∀ (t o : List Nat) (d : Bool), (t.foldl (insS k) (o, d)).1.length ≤ o.length + t.length + (if d then 0 else 1) ∧ ((t.foldl (insS k) (o, d)).2 = false → (t.foldl (insS k) (o, d)).1.length ≤ o.length + t.length) := by
    intro t
    induction t with
    | nil => intro o d; simp
    | cons x r ih =>
      intro o d
      rw [List.foldl_cons]
      cases d with
      | true =>
        have : insS k (o, true) x = (o ++ [x], true) := by simp [insS]
        rw [this, insF_true]
        simp
      | false =>
        by_cases h : k < x
        · have : insS k (o, false) x = (o ++ [k] ++ [x], true) := by simp [insS, h]
          rw [this, insF_true]
          simp; omega
        · have : insS k (o, false) x = (o ++ [x], false) := by simp [insS, h]
          rw [this]
          obtain ⟨i1, i2⟩ := ih (o ++ [x]) false
          simp only [List.length_append, List.length_cons, List.length_nil, Bool.false_eq_true, if_false] at i1 i2 ⊢
          exact ⟨by omega, fun h => by have := i2 h; omega⟩
  have := key t [] false
  simpa [insT] using this
theorem insR_mem (k : Nat) (p : Nat) : ∀ l : List Nat, p ∈ insR k l ↔ p = k ∨ p ∈ l
  | [] => by simp [insR]
  | x :: r => by
    unfold insR
    split
    · simp
    · simp only [List.mem_cons, insR_mem k p r]
      constructor
      · rintro (h | h | h) <;> simp [h]
      · rintro (h | h | h) <;> simp [h]
theorem insR_rising (k : Nat) : ∀ l : List Nat, l.Pairwise (· < ·) → k ∉ l → (insR k l).Pairwise (· < ·)
  | [], _, _ => by simp [insR]
  | x :: r, h, hk => by
    obtain ⟨h1, h2⟩ := List.pairwise_cons.1 h
    have hx : k ≠ x := fun e => hk (by simp [e])
    have hr : k ∉ r := fun e => hk (by simp [e])
    unfold insR
    split
    · rename_i hlt
      refine List.pairwise_cons.2 ⟨fun y hy => ?_, h⟩
      rcases List.mem_cons.1 hy with rfl | hy
      · exact hlt
      · exact Nat.lt_trans hlt (h1 y hy)
    · refine List.pairwise_cons.2 ⟨fun y hy => ?_, insR_rising k r h2 hr⟩
      rcases (insR_mem k y r).1 hy with rfl | hy
      · omega
      · exact h1 y hy
theorem insN_mem (k p : Nat) (l : List Nat) : p ∈ insN k l ↔ p = k ∨ p ∈ l := by
  unfold insN
  split
  · rename_i h
    have := List.contains_iff_mem.1 h
    constructor
    · exact .inr
    · rintro (rfl | h) <;> assumption
  · exact insR_mem k p l
theorem insN_rising {k : Nat} {l : List Nat} (h : l.Pairwise (· < ·)) : (insN k l).Pairwise (· < ·) := by
  unfold insN
  split
  · exact h
  · rename_i hc
    exact insR_rising k l h (fun e => hc (List.contains_iff_mem.2 e))
theorem insR_length (k : Nat) : ∀ l : List Nat, (insR k l).length = l.length + 1
  | [] => rfl
  | x :: r => by unfold insR; split <;> simp [insR_length k r]
theorem insN_length (k : Nat) (l : List Nat) : (insN k l).length ≤ l.length + 1 := by
  unfold insN
  split
  · omega
  · rw [insR_length]; omega

theorem SegN.snoc {w wr w3 : World} {v v3 : Value} {ss : List Nat} {k : Nat} {o : Obj} (h : SegN w wr v ss) (hs : Seg w3 27 1 v3 (ss.length + 1) (ss.map (keyV .u32) ++ [.int .u32 (k : Int)])) (hg : (wr.alloc o).grownBy w3 v.ownBlock) (ho : v3.ownBlock = v.ownBlock ∨ v3.ownBlock = some (wr.alloc o).heap.size) : SegN w w3 v3 (ss ++ [k]) := by
  refine ⟨by simpa [keyV] using hs, fun b hb => ?_, (h.mod.alloc o).grown hg (fun b hb hlt => by have := h.own b hb; omega)⟩
  rcases ho with e | e
  · exact h.own b (e ▸ hb)
  · have := h.mod.size
    rw [e] at hb; simp at hb; omega
theorem SegN.keep {w wr wx : World} {v : Value} {ss : List Nat} (h : SegN w wr v ss) (m : Mod (fun _ => False) wr wx) : SegN w wx v ss := ⟨h.seg.mod m (fun _ _ f => f), h.own, h.mod.trans m⟩
theorem SegN.nil {w wr : World} (m : Mod (fun _ => False) w wr) : SegN w wr (.slice none 0 0) [] := ⟨Seg.nil _ _ _, fun b hb => by simp [Value.ownBlock] at hb, m⟩
theorem num_ent {w : World} {v : Value} {l : List Nat} {n : Nat} (h : RdS w 1 v n (l.map (keyV .u32))) {i : Nat} {x : Nat} (hi : l[i]? = some x) {a : Option Addr} {m c : Nat} (e : v = .slice a m c) :
    ∃ b off, a = some ⟨b, off, none⟩ ∧ b < w.heap.size ∧ w.cell? ⟨b, off + i, none⟩ = some (.int .u32 (x : Int)) := by
  obtain ⟨a', c', e', _⟩ := h.shape
  have := e.symm.trans e'
  injection this with h1 h2 h3
  subst h1 h2 h3
  exact h.cell _ _ e i _ (by rw [List.getElem?_map, hi]; rfl)

set_option maxRecDepth 100000 in
set_option maxHeartbeats 2000000 in
theorem insert_any (v : Value) (l : List Nat) (f : Nat) (w : World) (hv : RdS w 1 v l.length (l.map (keyV .u32))) (hn : l.length ≤ 1000000) :
    Calls Try.prog 49 #[v, .int .u32 (f : Int)] w fun e w' => ∃ v', e = .returned v' ∧ Mod (fun _ => False) w w' ∧ RdS w' 1 v' (insN f l).length ((insN f l).map (keyV .u32)) := by
  have HV := Lib.hid hv
  obtain ⟨a, c, rfl, hc1, hc2, -⟩ := hv.shape
  clear hv
  obtain ⟨n, hl⟩ : ∃ n, n = l.length := ⟨_, rfl⟩
  have HN := Lib.hid hl
  rw [← hl] at HV hc1 hn ⊢
  clear hl
  obtain ⟨i0, hi, hz0, hz1, hz2⟩ := info_parts infoU32
  have HI : Hid (Try.prog.info? 27 = some i0 ∧ i0.zero = some (.int .u32 0) ∧ i0.size = 1 ∧ i0.bytes = 4) := ⟨hi, hz0, hz1, hz2⟩
  clear hi hz0 hz1 hz2
  have HS : Hid (SegN w w (.slice none 0 0) (insT f (l.take 0)).1) := Lib.hid (SegN.nil (Mod.refl _ _))
  go_enter Try.func49, Try.ntmps49
  go_wp2
  go_loopw [11, 5, 6] (fun i o d wr => ∃ k : Nat, i = .int .i64 k ∧ k ≤ n ∧ (∀ x ∈ l.take k, x ≠ f) ∧ d = .bool (insT f (l.take k)).2 ∧ SegN w wr o (insT f (l.take k)).1) (fun i _ _ _ => n - (intOf i).toNat)
  case atStart => exact ⟨0, rfl, Nat.zero_le _, by simp, rfl, HS.out⟩
  case round =>
    obtain ⟨k, rfl, hk, hne, rfl, hs⟩ := hrel
    have HNE := Lib.hid hne
    have HO := Lib.hid hs
    clear hs hne HS
    obtain ⟨os, hos⟩ : ∃ os, os = (insT f (l.take k)).1 := ⟨_, rfl⟩
    obtain ⟨d, hd⟩ : ∃ d, d = (insT f (l.take k)).2 := ⟨_, rfl⟩
    have HOS : Hid (insT f (l.take k) = (os, d)) := Lib.hid (by rw [hos, hd])
    have HLE : Hid (os.length ≤ 1000001) := Lib.hid (by
      have := (insT_len f (l.take k)).1
      rw [List.length_take] at this
      rw [hos]; omega)
    rw [← hos] at HO
    rw [← hd]
    clear hos hd
    obtain ⟨ao, co, hvv⟩ : ∃ ao co, u5 = .slice ao os.length co := by
      obtain ⟨a, c, e, _⟩ := HO.out.seg.rdS.shape
      exact ⟨_, _, e⟩
    subst hvv
    obtain ⟨no, hno⟩ : ∃ no, no = os.length := ⟨_, rfl⟩
    have HNO := Lib.hid hno
    have HRW : Hid (Seg wr 27 1 (.slice ao no co) no (os.map (keyV .u32))) := Lib.hid (by have h := HO.out.seg; rwa [← hno] at h)
    rw [← hno] at HLE HO ⊢
    clear hno
    by_cases hkn : k < n
    · obtain ⟨x, hx⟩ : ∃ x, l[k]? = some x := ⟨_, List.getElem?_eq_getElem (by rw [← HN.out]; exact hkn)⟩
      obtain ⟨b, off, rfl, hb, p0⟩ := num_ent HV.out hx rfl
      have p0 := HO.out.mod.cell p0
      have HTK := Lib.hid (take_snoc hx)
      have HST : Hid (insT f (l.take (k + 1)) = insS f (os, d) x) := Lib.hid (by rw [HTK.out, insT_snoc, HOS.out])
      have HMX := Lib.hid (List.mem_of_getElem? hx)
      have zb : b < wr.heap.size := Nat.lt_of_lt_of_le hb HO.out.mod.size
      clear hx hb
      by_cases hxf : x = f
      · subst hxf
        have HE : Hid (insN x l = l) := Lib.hid (by unfold insN; rw [if_pos (List.contains_iff_mem.2 HMX.out)])
        go_wp2
        go_ret
        exact ⟨_, rfl, HO.out.mod, by rw [HE.out, ← HN.out]; exact HV.out.keep HO.out.mod⟩
      · have hxf' : (x : Int) ≠ (f : Int) := by omega
        have HNE2 : Hid (∀ y ∈ l.take (k + 1), y ≠ f) := Lib.hid (fun y hy => by
          rw [HTK.out] at hy
          rcases List.mem_append.1 hy with hy | hy
          · exact HNE.out y hy
          · rw [List.mem_singleton] at hy; subst hy; exact hxf)
        have HSF := Lib.hid (fun w1 => src_cells (w := w1) rfl (size := 1) 27 #[.int .u32 (f : Int)] rfl (by simp [Value.oneCell']))
        have HSX := Lib.hid (fun w1 => src_cells (w := w1) rfl (size := 1) 27 #[.int .u32 (x : Int)] rfl (by simp [Value.oneCell']))
        by_cases hput : d = false ∧ f < x
        · obtain ⟨rfl, hlt⟩ := hput
          have hlt' : (f : Int) < (x : Int) := by omega
          have HRW1 : Hid (Seg (wr.alloc (.cells #[.int .u32 (f : Int)] 27)) 27 1 (.slice ao no co) no (os.map (keyV .u32))) := Lib.hid (HRW.out.mod ((Mod.refl (fun _ => False) wr).alloc _) (fun _ _ f => f))
          go_wp2_with (first
            | (at_builtin; refine wpList_append_seg rfl (.tmp 26) (.tmp 28) 50 rfl i0 _ 1 4 Try.underlying50 HI.out.1 HI.out.2.1 HI.out.2.2.1 HI.out.2.2.2 rfl (by decide) rfl HRW1.out _ 1 _ rfl (HSF.out wr) (by have := HLE.out; unfold maxLen; omega) (by have := HLE.out; omega) ?_; intro v3 w3 hs3 hg3 ho3; have H3 := Lib.hid (HO.out.snoc (by rw [← HNO.out]; exact hs3) hg3 ho3); (obtain ⟨a3, c3, rfl⟩ : ∃ a c, v3 = .slice a (no + 1) c := (by obtain ⟨a, c, e, _⟩ := hs3.rdS.shape; exact ⟨_, _, e⟩)); have HRW3 : Hid (Seg (w3.alloc (.cells #[.int .u32 (x : Int)] 27)) 27 1 (.slice a3 (no + 1) c3) (no + 1) ((os ++ [f]).map (keyV .u32))) := Lib.hid (by rw [List.map_append]; exact hs3.mod ((Mod.refl (fun _ => False) w3).alloc _) (fun _ _ f => f)); clear hs3 hg3 ho3)
            | (at_builtin; refine wpList_append_seg rfl (.tmp 30) (.tmp 32) 50 rfl i0 _ 1 4 Try.underlying50 HI.out.1 HI.out.2.1 HI.out.2.2.1 HI.out.2.2.2 rfl (by decide) rfl HRW3.out _ 1 _ rfl (HSX.out w3) (by have := HLE.out; unfold maxLen; omega) (by have := HLE.out; omega) ?_; intro v4 w4 hs4 hg4 ho4; have H4 := Lib.hid (H3.out.snoc (k := x) (by rw [List.length_append, ← HNO.out]; exact hs4) hg4 ho4); (obtain ⟨a4, c4, n4, rfl⟩ : ∃ a c n, v4 = .slice a n c := (by obtain ⟨a, c, e, _⟩ := hs4.shape; exact ⟨_, _, _, e⟩)); clear hs4 hg4 ho4))
          have HSS : Hid (insT f (l.take (k + 1)) = (os ++ [f] ++ [x], true)) := Lib.hid (by rw [HST.out]; simp [insS, hlt])
          go_roundw
          case rel => exact ⟨k + 1, by go_num, by omega, HNE2.out, by rw [HSS.out], by rw [HSS.out]; exact H4.out⟩
          case measure => simp [intOf]; omega
        · have HSS : Hid (insT f (l.take (k + 1)) = (os ++ [x], d)) := Lib.hid (by
            rw [HST.out]
            cases d <;> simp_all [insS])
          have HRW1 : Hid (Seg (wr.alloc (.cells #[.int .u32 (x : Int)] 27)) 27 1 (.slice ao no co) no (os.map (keyV .u32))) := Lib.hid (HRW.out.mod ((Mod.refl (fun _ => False) wr).alloc _) (fun _ _ f => f))
          cases d with
          | true =>
            go_wp2_with (at_builtin; refine wpList_append_seg rfl (.tmp 30) (.tmp 32) 50 rfl i0 _ 1 4 Try.underlying50 HI.out.1 HI.out.2.1 HI.out.2.2.1 HI.out.2.2.2 rfl (by decide) rfl HRW1.out _ 1 _ rfl (HSX.out wr) (by have := HLE.out; unfold maxLen; omega) (by have := HLE.out; omega) ?_; intro v4 w4 hs4 hg4 ho4; have H4 := Lib.hid (HO.out.snoc (k := x) (by rw [← HNO.out]; exact hs4) hg4 ho4); (obtain ⟨a4, c4, n4, rfl⟩ : ∃ a c n, v4 = .slice a n c := (by obtain ⟨a, c, e, _⟩ := hs4.shape; exact ⟨_, _, _, e⟩)); clear hs4 hg4 ho4)
            go_roundw
            case rel => exact ⟨k + 1, by go_num, by omega, HNE2.out, by rw [HSS.out], by rw [HSS.out]; exact H4.out⟩
            case measure => simp [intOf]; omega
          | false =>
            have hnl : ¬ (f : Int) < (x : Int) := fun h => hput ⟨rfl, by omega⟩
            go_wp2_with (at_builtin; refine wpList_append_seg rfl (.tmp 30) (.tmp 32) 50 rfl i0 _ 1 4 Try.underlying50 HI.out.1 HI.out.2.1 HI.out.2.2.1 HI.out.2.2.2 rfl (by decide) rfl HRW1.out _ 1 _ rfl (HSX.out wr) (by have := HLE.out; unfold maxLen; omega) (by have := HLE.out; omega) ?_; intro v4 w4 hs4 hg4 ho4; have H4 := Lib.hid (HO.out.snoc (k := x) (by rw [← HNO.out]; exact hs4) hg4 ho4); (obtain ⟨a4, c4, n4, rfl⟩ : ∃ a c n, v4 = .slice a n c := (by obtain ⟨a, c, e, _⟩ := hs4.shape; exact ⟨_, _, _, e⟩)); clear hs4 hg4 ho4)
            go_roundw
            case rel => exact ⟨k + 1, by go_num, by omega, HNE2.out, by rw [HSS.out], by rw [HSS.out]; exact H4.out⟩
            case measure => simp [intOf]; omega
    · have HEND : Hid (insN f l = if d then os else os ++ [f]) := Lib.hid (by
        have hne := HNE.out
        have ht : l.take k = l := List.take_of_length_le (by have := HN.out; omega)
        rw [ht] at hne
        have h := insT_end f l
        have h2 := HOS.out
        rw [ht] at h2
        rw [h2] at h
        unfold insN
        rw [if_neg (fun e => hne f (List.contains_iff_mem.1 e) rfl)]
        exact h.symm)
      cases d with
      | true =>
        have HE : Hid (insN f l = os) := Lib.hid (by have := HEND.out; simpa using this)
        go_wp2
        go_ret
        exact ⟨_, rfl, HO.out.mod, by rw [HE.out, ← HNO.out]; exact HRW.out.rdS⟩
      | false =>
        have HSF := Lib.hid (fun w1 => src_cells (w := w1) rfl (size := 1) 27 #[.int .u32 (f : Int)] rfl (by simp [Value.oneCell']))
        have HRW1 : Hid (Seg (wr.alloc (.cells #[.int .u32 (f : Int)] 27)) 27 1 (.slice ao no co) no (os.map (keyV .u32))) := Lib.hid (HRW.out.mod ((Mod.refl (fun _ => False) wr).alloc _) (fun _ _ f => f))
        go_wp2_with (at_builtin; refine wpList_append_seg rfl (.tmp 37) (.tmp 39) 50 rfl i0 _ 1 4 Try.underlying50 HI.out.1 HI.out.2.1 HI.out.2.2.1 HI.out.2.2.2 rfl (by decide) rfl HRW1.out _ 1 _ rfl (HSF.out wr) (by have := HLE.out; unfold maxLen; omega) (by have := HLE.out; omega) ?_; intro v4 w4 hs4 hg4 ho4; have H4 := Lib.hid (HO.out.snoc (k := f) (by rw [← HNO.out]; exact hs4) hg4 ho4); (obtain ⟨a4, c4, n4, rfl⟩ : ∃ a c n, v4 = .slice a n c := (by obtain ⟨a, c, e, _⟩ := hs4.shape; exact ⟨_, _, _, e⟩)); clear hs4 hg4 ho4)
        go_ret
        have HE : Hid (insN f l = os ++ [f]) := Lib.hid (by have := HEND.out; simpa using this)
        exact ⟨_, rfl, H4.out.mod, by rw [HE.out]; exact H4.out.seg.rdS⟩
end Go.Proofs.Ytdblilhkojafgaa
