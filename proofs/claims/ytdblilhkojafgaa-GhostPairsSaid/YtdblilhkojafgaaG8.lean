/- gussetref12.Held. -/
import Derived.Test.YtdblilhkojafgaaG7
namespace Go.Proofs.Ytdblilhkojafgaa
set_option linter.unusedVariables false
open Go.RowKit

def heldL : List Vs → List Vs
  | [] => []
  | s :: r => if s.x.there && !holdB r s.x.id then s :: heldL r else heldL r
theorem heldL_sub : ∀ {l : List Vs} {s : Vs}, s ∈ heldL l → s ∈ l
  | t :: r, s, h => by
    unfold heldL at h
    split at h
    · rcases List.mem_cons.1 h with rfl | h
      · simp
      · simp [heldL_sub h]
    · simp [heldL_sub h]
theorem heldL_length : ∀ l : List Vs, (heldL l).length ≤ l.length
  | [] => by simp [heldL]
  | t :: r => by
    unfold heldL
    have := heldL_length r
    split <;> simp only [List.length_cons] <;> omega
theorem drop_step {α : Type} {l : List α} {k : Nat} {x : α} (h : l[k]? = some x) : l.drop k = x :: l.drop (k + 1) := by
  obtain ⟨h1, h2⟩ := List.getElem?_eq_some_iff.1 h
  rw [List.drop_eq_getElem_cons h1, h2]
/-- A list of one's own, of vertices that lie elsewhere. -/
structure SubAt (w : World) (la : List Vs) (v : Value) (l : List Vs) (wr : World) : Prop where
  mod : Mod (fun _ => False) w wr
  row : Seg wr 31 4 v l.length (vcells l)
  own : ∀ b, v.ownBlock = some b → w.heap.size ≤ b
  sub : ∀ s ∈ l, s ∈ la
theorem SubAt.nil (w wr : World) (la : List Vs) (m : Mod (fun _ => False) w wr) : SubAt w la (.slice none 0 0) [] wr := ⟨m, Seg.nil _ _ _, fun b hb => by simp [Value.ownBlock] at hb, by simp⟩
theorem SubAt.keep {w wr wx : World} {la l : List Vs} {v : Value} (h : SubAt w la v l wr) (m : Mod (fun _ => False) wr wx) : SubAt w la v l wx := ⟨h.mod.trans m, h.row.mod m (fun _ _ f => f), h.own, h.sub⟩
theorem SubAt.rd {w wr : World} {la l : List Vs} {v va : Value} (h : SubAt w la v l wr) (ha : LRd w va la) : LRd wr v l := ⟨h.row.rdS, fun s hs => (ha.each s (h.sub s hs)).keep h.mod⟩
theorem SubAt.app {w wr w3 : World} {la l : List Vs} {v v3 : Value} {o : Obj} (h : SubAt w la v l wr) (s : Vs) (hs : Seg w3 31 4 v3 (l.length + 1) (vcells l ++ s.cells)) (hg : (wr.alloc o).grownBy w3 v.ownBlock) (ho : v3.ownBlock = v.ownBlock ∨ v3.ownBlock = some (wr.alloc o).heap.size)
    (hin : s ∈ la) : SubAt w la v3 (l ++ [s]) w3 := by
  refine ⟨(h.mod.alloc o).grown hg (fun b hb hlt => by have := h.own b hb; omega), by rw [vcells_snoc]; simpa using hs, fun b hb => ?_, ?_⟩
  · rcases ho with e | e
    · exact h.own b (e ▸ hb)
    · have := h.mod.size
      rw [e] at hb; simp at hb; omega
  · intro x hx
    rcases List.mem_append.1 hx with hx | hx
    · exact h.sub x hx
    · rw [List.mem_singleton] at hx; subst hx; exact hin
structure SubIn (w : World) (la : List Vs) (v : Value) (l : List Vs) (n0 : Nat) (o : Array Value) (wr : World) : Prop where
  mine : SubAt w la v l wr
  box : wr.heap[n0]? = some (.cells o 31 (0, 0))
theorem SubIn.keep {w wr wx : World} {la l : List Vs} {v : Value} {n0 : Nat} {o : Array Value} (h : SubIn w la v l n0 o wr) (m : Mod (fun _ => False) wr wx) : SubIn w la v l n0 o wx := ⟨h.mine.keep m, m.heap h.box (fun f => f)⟩
theorem SubAt.begin {w wr : World} {la l : List Vs} {v : Value} (h : SubAt w la v l wr) (o : Array Value) : SubIn w la v l wr.heap.size o (wr.alloc (.cells o 31)) := ⟨h.keep ((Mod.refl _ _).alloc _), heap_alloc_new' wr _⟩

set_option maxRecDepth 100000 in
set_option maxHeartbeats 4000000 in
theorem held_any (va : Value) (la : List Vs) (w : World) (ha : LRd w va la) (hl0 : la.length ≤ 1000000) :
    Calls Try.prog 47 #[va] w fun e w' => ∃ vo, e = .returned vo ∧ SubAt w la vo (heldL la) w' := by
  have HA := Lib.hid ha
  obtain ⟨aa, ca, rfl, hca, hca2, -⟩ := ha.row.shape
  obtain ⟨n, hna⟩ : ∃ n, n = la.length := ⟨_, rfl⟩
  have HNA := Lib.hid hna
  rw [← hna] at HA hca hl0 ⊢
  clear hna ha
  obtain ⟨i0, hi, hz0, hz1, hz2⟩ := info_parts infoVtx
  have HI : Hid (Try.prog.info? 31 = some i0 ∧ i0.zero = some (.agg #[.int .u32 0, .bool false, .slice none 0 0, .slice none 0 0]) ∧ i0.size = 4 ∧ i0.bytes = 56) := ⟨hi, hz0, hz1, hz2⟩
  clear hi hz0 hz1 hz2
  go_enter Try.func47, Try.ntmps47
  go_wp2
  go_loopw [11, 3] (fun i o wr => ∃ (k : Nat) (l : List Vs), i = .int .i64 k ∧ k ≤ n ∧ SubAt w la o l wr ∧ l ++ heldL (la.drop k) = heldL la ∧ l.length ≤ k) (fun i _ _ => n - (intOf i).toNat)
  case atStart => exact ⟨0, [], rfl, Nat.zero_le _, SubAt.nil _ _ _ (Mod.refl _ _), rfl, Nat.le_refl _⟩
  case round =>
    obtain ⟨k, l, rfl, hk, hm, hacc, hlk⟩ := hrel
    have HM := Lib.hid hm
    have HACC := Lib.hid hacc
    clear hm hacc
    obtain ⟨am, cm, hvv⟩ : ∃ ao co, u3 = .slice ao l.length co := by
      obtain ⟨a, c, e, _⟩ := HM.out.row.rdS.shape
      exact ⟨_, _, e⟩
    subst hvv
    obtain ⟨m, hml⟩ : ∃ m, m = l.length := ⟨_, rfl⟩
    have HML := Lib.hid hml
    rw [← hml] at HM hlk ⊢
    clear hml
    by_cases hkn : k < n
    · obtain ⟨y, hy⟩ : ∃ x, la[k]? = some x := ⟨_, List.getElem?_eq_getElem (by rw [← HNA.out]; exact hkn)⟩
      obtain ⟨bl, offl, rfl, hbl, r0, r1, r2, r3⟩ := HA.out.ent hy rfl
      have r0 := HM.out.mod.cell r0
      have r1 := HM.out.mod.cell r1
      have r2 := HM.out.mod.cell r2
      have r3 := HM.out.mod.cell r3
      have zbl : bl < wr.heap.size := Nat.lt_of_lt_of_le hbl HM.out.mod.size
      have HVR := Lib.hid (HA.out.at hy)
      have HYM := Lib.hid (List.mem_of_getElem? hy)
      have HDS := Lib.hid (drop_step hy)
      clear hy hbl
      obtain ⟨⟨id, there, xs, ys⟩, vp, vh⟩ := y
      obtain ⟨np, ap, cp, rfl⟩ : ∃ np ap cp, vp = .slice ap np cp := by
        obtain ⟨a, c, e, _⟩ := HVR.out.props.shape
        exact ⟨_, _, _, e⟩
      obtain ⟨nh, ah, ch, rfl⟩ : ∃ np ap cp, vh = .slice ap np cp := by
        obtain ⟨a, c, e, _⟩ := HVR.out.halves.shape
        exact ⟨_, _, _, e⟩
      simp only at r0 r1 r2 r3 HYM
      clear HVR
      have HO0 := Lib.hid (HM.out.begin #[.int .u32 (id : Int), .bool there, .slice ap np cp, .slice ah nh ch])
      have HA1 := Lib.hid (HA.out.keep HO0.out.mine.mod)
      obtain ⟨vt, hsl, hlr⟩ := HA1.out.from (k := k + 1) (by rw [← HNA.out]; omega) .i64
      have hsl' : (Instr.slice 26 (.slice (some ⟨bl, offl, none⟩) n ca) (some (.int .i64 ((k : Int) + 1))) none none).run Try.prog (wr.alloc (.cells #[.int .u32 (id : Int), .bool there, .slice ap np cp, .slice ah nh ch] 31)) = .ok vt (wr.alloc (.cells #[.int .u32 (id : Int), .bool there, .slice ap np cp, .slice ah nh ch] 31)) := hsl
      clear hsl
      have HR := Lib.hid hlr
      obtain ⟨rest, hrest⟩ : ∃ r, r = la.drop (k + 1) := ⟨_, rfl⟩
      have HRS := Lib.hid hrest
      rw [← hrest] at HR
      obtain ⟨nt, hnt⟩ : ∃ r, r = rest.length := ⟨_, rfl⟩
      have HNT := Lib.hid hnt
      have hntn : nt ≤ n := by rw [hnt, hrest, List.length_drop, ← HNA.out]; omega
      obtain ⟨at', ct, hct, hvt⟩ : ∃ a c, nt ≤ c ∧ vt = .slice a nt c := by
        obtain ⟨a, c, e, h1, _⟩ := HR.out.row.shape
        rw [← hnt] at e h1
        exact ⟨_, _, h1, e⟩
      subst hvt
      clear hlr hrest hnt
      go_upto_region 7 with fail
      have HW5 := Lib.hid HO0.out
      clear HO0 HM r0 r1 r2 r3 zbl HA1 hsl'
      go_wp2
      go_loopw [23, 6] (fun i o wr' => ∃ (j : Nat) (f : Bool), i = .int .i64 j ∧ j ≤ nt ∧ o = .bool f ∧ f = (there && !holdB (rest.take j) id) ∧ SubIn w la (.slice am m cm) l wr.heap.size #[.int .u32 (id : Int), .bool there, .slice ap np cp, .slice ah nh ch] wr' ∧ Mod (fun _ => False) (wr.alloc (.cells #[.int .u32 (id : Int), .bool there, .slice ap np cp, .slice ah nh ch] 31)) wr') (fun i _ _ => nt - (intOf i).toNat)
      case atStart => exact ⟨0, _, rfl, Nat.zero_le _, rfl, by simp [holdB], HW5.out, Mod.refl _ _⟩
      case round =>
        obtain ⟨j, f, rfl, hj, rfl, hf, hm, hmod⟩ := hrel
        have HF := Lib.hid hf
        have HO := Lib.hid hm
        have HMO := Lib.hid hmod
        clear hm hf HW5 hmod
        have d0 := cell_of_row HO.out.box 0
        have d1 := cell_of_row HO.out.box 1
        have d2 := cell_of_row HO.out.box 2
        have d3 := cell_of_row HO.out.box 3
        simp at d0 d1 d2 d3
        have zn := (Array.getElem?_eq_some_iff.1 HO.out.box).1
        by_cases hjm : j < nt
        · obtain ⟨x, hx⟩ : ∃ x, rest[j]? = some x := ⟨_, List.getElem?_eq_getElem (by rw [← HNT.out]; exact hjm)⟩
          obtain ⟨bx, offx, rfl, hbx, s0, s1, s2, s3⟩ := HR.out.ent hx rfl
          have s0 := HMO.out.cell s0
          have s1 := HMO.out.cell s1
          have s2 := HMO.out.cell s2
          have s3 := HMO.out.cell s3
          have zbx := Nat.lt_of_lt_of_le hbx HMO.out.size
          have HTK : Hid (holdB (rest.take (j + 1)) id = (holdB (rest.take j) id || x.x.id == id)) := Lib.hid (by rw [take_snoc hx]; simp [holdB, List.any_append])
          have HVX := Lib.hid (HR.out.at hx)
          clear hx
          obtain ⟨⟨id', there', xs', ys'⟩, vp', vh'⟩ := x
          obtain ⟨np', ap', cp', rfl⟩ : ∃ np ap cp, vp' = .slice ap np cp := by
            obtain ⟨a, c, e, _⟩ := HVX.out.props.shape
            exact ⟨_, _, _, e⟩
          obtain ⟨nh', ah', ch', rfl⟩ : ∃ np ap cp, vh' = .slice ap np cp := by
            obtain ⟨a, c, e, _⟩ := HVX.out.halves.shape
            exact ⟨_, _, _, e⟩
          clear HVX
          simp only at s0 s1 s2 s3 HTK
          have HO2 := Lib.hid (HO.out.keep ((Mod.refl (fun _ => False) wr).alloc (.cells #[.int .u32 (id' : Int), .bool there', .slice ap' np' cp', .slice ah' nh' ch'] 31)))
          have HM2 := Lib.hid (HMO.out.alloc (.cells #[.int .u32 (id' : Int), .bool there', .slice ap' np' cp', .slice ah' nh' ch'] 31))
          cases f with
          | false =>
            go_wp2
            go_roundw
            case rel => exact ⟨j + 1, false, by go_num, by omega, rfl, by rw [HTK.out]; have := HF.out; revert this; cases there <;> cases holdB (rest.take j) id <;> simp, HO2.out, HM2.out⟩
            case measure => simp [intOf]; omega
          | true =>
            by_cases hii : id' = id
            · subst hii
              go_wp2
              go_roundw
              case rel => exact ⟨j + 1, false, by go_num, by omega, rfl, by rw [HTK.out]; simp, HO2.out, HM2.out⟩
              case measure => simp [intOf]; omega
            · have hii' : (id' : Int) ≠ (id : Int) := by omega
              go_wp2
              go_roundw
              case rel => exact ⟨j + 1, true, by go_num, by omega, by simp; omega, by rw [HTK.out]; have := HF.out; revert this; cases there <;> cases holdB (rest.take j) id <;> simp [hii], HO2.out, HM2.out⟩
              case measure => simp [intOf]; omega
        · have HFE : Hid (f = (there && !holdB rest id)) := Lib.hid (by
            have := HF.out
            rwa [List.take_of_length_le (by have := HNT.out; omega)] at this)
          have HSTEP : Hid (heldL (la.drop k) = if f then (⟨⟨id, there, xs, ys⟩, .slice ap np cp, .slice ah nh ch⟩ : Vs) :: heldL rest else heldL rest) := Lib.hid (by
            rw [HDS.out, ← HRS.out, HFE.out]; rfl)
          cases f with
          | false =>
            go_wp2
            go_roundw
            case rel => exact ⟨k + 1, l, by go_num, by omega, HO.out.mine, by rw [← HACC.out, HSTEP.out, ← HRS.out]; rfl, by have := HML.out; omega⟩
            case measure => simp [intOf]; omega
          | true =>
            have HO3 := Lib.hid (HO.out.mine)
            have HO4 := Lib.hid (HO.out.mine.keep ((Mod.refl (fun _ => False) wr).alloc (.cells #[.int .u32 (id : Int), .bool there, .slice ap np cp, .slice ah nh ch] 31)))
            have HSR := Lib.hid (src_cells (w := wr) rfl (size := 4) 31 #[.int .u32 (id : Int), .bool there, .slice ap np cp, .slice ah nh ch] rfl (by simp [Value.oneCell']))
            have HRW : Hid (Seg _ 31 4 (.slice am m cm) m (vcells l)) := Lib.hid (by have h := HO4.out.row; rwa [← HML.out] at h)
            go_wp2_with (at_builtin; refine wpList_append_seg rfl (.tmp 37) (.tmp 39) 26 rfl i0 _ 4 56 Try.underlying26 HI.out.1 HI.out.2.1 HI.out.2.2.1 HI.out.2.2.2 rfl (by decide) rfl HRW.out _ 1 _ rfl HSR.out (by unfold maxLen; omega) (by omega) ?_; intro v3 w3 hs3 hg3 ho3; have H3 := Lib.hid (HO3.out.app ⟨⟨id, there, xs, ys⟩, .slice ap np cp, .slice ah nh ch⟩ (by rw [← HML.out]; exact hs3) hg3 ho3 HYM.out); (obtain ⟨a3, c3, n3, rfl⟩ : ∃ a c n, v3 = .slice a n c := (by obtain ⟨a, c, e, _⟩ := hs3.shape; exact ⟨_, _, _, e⟩)); clear hs3 hg3 ho3)
            go_roundw
            case rel => exact ⟨k + 1, _, by go_num, by omega, H3.out, by rw [← HACC.out, HSTEP.out, ← HRS.out]; simp, by rw [List.length_append, List.length_singleton]; have := HML.out; omega⟩
            case measure => simp [intOf]; omega
    · have HEQ : Hid (l = heldL la) := Lib.hid (by
        have := HACC.out
        rw [List.drop_eq_nil_of_le (by have := HNA.out; omega)] at this
        simpa [heldL] using this)
      go_wp2
      go_ret
      exact ⟨_, rfl, by rw [← HEQ.out]; exact HM.out⟩
end Go.Proofs.Ytdblilhkojafgaa
