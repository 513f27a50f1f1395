/- gussetlaw12.GhostOrder, walked. -/
import Derived.Test.YtdblilhkojafgaaG4
import Derived.Test.YtdblilhkojafgaaG2
namespace Go.Proofs.Ytdblilhkojafgaa
set_option linter.unusedVariables false
open Go.RowKit Go.Maps

/-- The list of the law's own: vertices of the list that came in, of right form, no number twice. -/
structure MineAt (w : World) (la : List Vs) (v : Value) (l : List Vs) (wr : World) : Prop where
  mod : Mod (fun _ => False) w wr
  row : Seg wr 31 4 v l.length (vcells l)
  own : ∀ b, v.ownBlock = some b → w.heap.size ≤ b
  sub : ∀ s ∈ l, s ∈ la
  right : ∀ s ∈ l, s.x.right = true
  dist : (l.map fun s => s.x.id).Nodup
  len : l.length ≤ 40
theorem MineAt.nil (w wr : World) (la : List Vs) (m : Mod (fun _ => False) w wr) : MineAt w la (.slice none 0 0) [] wr := ⟨m, Seg.nil _ _ _, fun b hb => by simp [Value.ownBlock] at hb, by simp, by simp, by simp, by simp⟩
theorem MineAt.keep {w wr wx : World} {la l : List Vs} {v : Value} (h : MineAt w la v l wr) (m : Mod (fun _ => False) wr wx) : MineAt w la v l wx := ⟨h.mod.trans m, h.row.mod m (fun _ _ f => f), h.own, h.sub, h.right, h.dist, h.len⟩
theorem MineAt.rd {w wr : World} {la l : List Vs} {v va : Value} (h : MineAt w la v l wr) (ha : LRd w va la) : LRd wr v l := ⟨h.row.rdS, fun s hs => (ha.each s (h.sub s hs)).keep h.mod⟩
theorem MineAt.app {w wr w3 : World} {la l : List Vs} {v v3 : Value} {o : Obj} (h : MineAt w la v l wr) (s : Vs) (hs : Seg w3 31 4 v3 (l.length + 1) (vcells l ++ s.cells)) (hg : (wr.alloc o).grownBy w3 v.ownBlock) (ho : v3.ownBlock = v.ownBlock ∨ v3.ownBlock = some (wr.alloc o).heap.size)
    (hin : s ∈ la) (hr : s.x.right = true) (hid : ∀ x ∈ l, x.x.id ≠ s.x.id) (hl : l.length < 40) : MineAt w la v3 (l ++ [s]) w3 := by
  refine ⟨(h.mod.alloc o).grown hg (fun b hb hlt => by have := h.own b hb; omega), by rw [vcells_snoc]; simpa using hs, fun b hb => ?_, ?_, ?_, ?_, ?_⟩
  · rcases ho with e | e
    · exact h.own b (e ▸ hb)
    · have := h.mod.size
      rw [e] at hb; simp at hb; omega
  · intro x hx
    rcases List.mem_append.1 hx with hx | hx
    · exact h.sub x hx
    · rw [List.mem_singleton] at hx; subst hx; exact hin
  · intro x hx
    rcases List.mem_append.1 hx with hx | hx
    · exact h.right x hx
    · rw [List.mem_singleton] at hx; subst hx; exact hr
  · rw [List.map_append, List.nodup_append]
    refine ⟨h.dist, by simp, ?_⟩
    intro a ha b hb
    obtain ⟨x, hx, rfl⟩ := List.mem_map.1 ha
    simp at hb
    subst hb
    exact hid x hx
  · rw [List.length_append, List.length_singleton]; omega
structure OrIn (w : World) (la : List Vs) (v : Value) (l : List Vs) (n0 : Nat) (o : Array Value) (wr : World) : Prop where
  mine : MineAt w la v l wr
  box : wr.heap[n0]? = some (.cells o 31 (0, 0))
theorem OrIn.keep {w wr wx : World} {la l : List Vs} {v : Value} {n0 : Nat} {o : Array Value} (h : OrIn w la v l n0 o wr) (m : Mod (fun _ => False) wr wx) : OrIn w la v l n0 o wx := ⟨h.mine.keep m, m.heap h.box (fun f => f)⟩
theorem MineAt.begin {w wr : World} {la l : List Vs} {v : Value} (h : MineAt w la v l wr) (o : Array Value) : OrIn w la v l wr.heap.size o (wr.alloc (.cells o 31)) := ⟨h.keep ((Mod.refl _ _).alloc _), heap_alloc_new' wr _⟩
theorem wt_right {l : List Vs} (h : ∀ s ∈ l, s.x.right = true) : wt l ≤ l.length * 17 := by
  induction l with
  | nil => simp [wt]
  | cons s r ih =>
    have h1 := right_len (h s (by simp))
    have h2 := ih (fun t ht => h t (by simp [ht]))
    simp only [wt, List.map_cons, List.sum_cons, List.length_cons] at h2 ⊢
    omega
theorem GhostsOf.len {H : Names} {a b : List (Nat × Nat)} (ha : GhostsOf H a) (hb : GhostsOf H b) : b.length = a.length := by rw [ha.uniq hb]
theorem vtx_map {l m : List Vs} (h : l.map Vs.x = m.map Vs.x) : turnAll l = turnAll m ∧ l.length = m.length ∧ ((∀ s ∈ m, s.x.right = true) → ∀ s ∈ l, s.x.right = true) := by
  refine ⟨by rw [turnAll_x, turnAll_x, h], by have := congrArg List.length h; simpa using this, fun hr s hs => ?_⟩
  have : s.x ∈ m.map Vs.x := by rw [← h]; exact List.mem_map_of_mem hs
  obtain ⟨t, ht, e⟩ := List.mem_map.1 this
  rw [← e]
  exact hr t ht

set_option maxRecDepth 100000 in
set_option maxHeartbeats 8000000 in
theorem order_main (va : Value) (la : List Vs) (t : Nat) (w : World) (ha : LRd w va la) (za : ∀ s ∈ la, Slim s.x) (ht : t < 256) :
    Calls Try.prog 9 #[va, .int .u8 (t : Int)] w fun e w' => e = .returned (.bool true) ∧ Mod (fun _ => False) w w' := by
  have HAW := Lib.hid (awake12_any)
  have HNW := Lib.hid (tally_new)
  have HA := Lib.hid ha
  have HZA := Lib.hid za
  obtain ⟨aa, ca, rfl, hca, hca2, -⟩ := ha.row.shape
  obtain ⟨n, hna⟩ : ∃ n, n = la.length := ⟨_, rfl⟩
  have HNA := Lib.hid hna
  rw [← hna] at HA hca ⊢
  clear hna ha za
  obtain ⟨i0, hi, hz0, hz1, hz2⟩ := info_parts infoVtx
  have HI : Hid (Try.prog.info? 31 = some i0 ∧ i0.zero = some (.agg #[.int .u32 0, .bool false, .slice none 0 0, .slice none 0 0]) ∧ i0.size = 4 ∧ i0.bytes = 56) := ⟨hi, hz0, hz1, hz2⟩
  clear hi hz0 hz1 hz2
  go_enter Try.func9, Try.ntmps9
  go_wp2_with (first
    | (go_at_call 13; refine (HAW.out _).mono ?_; (rintro e w1 ⟨rfl, hm1⟩); have HM1 := Lib.hid (MineAt.nil w w1 la hm1); clear hm1))
  go_loopw [20, 5] (fun i o wr => ∃ (k : Nat) (l : List Vs), i = .int .i64 k ∧ k ≤ n ∧ MineAt w la o l wr) (fun i _ _ => n - (intOf i).toNat)
  case atStart => exact ⟨0, [], rfl, Nat.zero_le _, HM1.out⟩
  case round =>
    obtain ⟨k, l, rfl, hk, hm⟩ := hrel
    have HM := Lib.hid hm
    clear hm HM1
    obtain ⟨am, cm, hvv⟩ : ∃ ao co, u5 = .slice ao l.length co := by
      obtain ⟨a, c, e, _⟩ := HM.out.row.rdS.shape
      exact ⟨_, _, e⟩
    subst hvv
    obtain ⟨m, hml⟩ : ∃ m, m = l.length := ⟨_, rfl⟩
    have HML := Lib.hid hml
    rw [← hml] at HM ⊢
    have hm40 : m ≤ 40 := by rw [hml]; exact HM.out.len
    clear hml
    by_cases hkn : k < n
    · obtain ⟨y, hy⟩ : ∃ x, la[k]? = some x := ⟨_, List.getElem?_eq_getElem (by rw [← HNA.out]; exact hkn)⟩
      obtain ⟨bl, offl, rfl, hbl, r0, r1, r2, r3⟩ := HA.out.ent hy rfl
      have r0 := HM.out.mod.cell r0
      have r1 := HM.out.mod.cell r1
      have r2 := HM.out.mod.cell r2
      have r3 := HM.out.mod.cell r3
      have zbl : bl < wr.heap.size := Nat.lt_of_lt_of_le hbl HM.out.mod.size
      have HVR := Lib.hid (HA.out.at hy)
      have hzy := HZA.out y (List.mem_of_getElem? hy)
      have HYM := Lib.hid (List.mem_of_getElem? hy)
      have HRY : Hid (∀ w', Mod (fun _ => False) wr w' → Calls Try.prog 27 #[vtxV y.x y.vp y.vh] w' fun e w'' => e = .returned (.bool y.x.right) ∧ Mod (fun _ => False) w' w'') := Lib.hid (fun w' mm => dright_any y.x y.vp y.vh w' (HVR.out.keep (HM.out.mod.trans mm)) (by have := hzy.1; have := hzy.2; omega))
      clear hy hzy hbl
      obtain ⟨r, hr⟩ : ∃ r, r = y.x.right := ⟨_, rfl⟩
      have HRE := Lib.hid hr
      rw [← hr] at HRY
      clear hr
      obtain ⟨⟨id, there, xs, ys⟩, vp, vh⟩ := y
      obtain ⟨np, ap, cp, rfl⟩ : ∃ np ap cp, vp = .slice ap np cp := by
        obtain ⟨a, c, e, _⟩ := HVR.out.props.shape
        exact ⟨_, _, _, e⟩
      obtain ⟨nh, ah, ch, rfl⟩ : ∃ np ap cp, vh = .slice ap np cp := by
        obtain ⟨a, c, e, _⟩ := HVR.out.halves.shape
        exact ⟨_, _, _, e⟩
      simp only at r0 r1 r2 r3 HRE HYM
      simp only [vtxV] at HRY
      clear HVR
      obtain ⟨box, hbx⟩ : ∃ o : Array Value, o = #[.int .u32 (id : Int), .bool there, .slice ap np cp, .slice ah nh ch] := ⟨_, rfl⟩
      have HBX := Lib.hid hbx
      have HO0 := Lib.hid (HM.out.begin box)
      rw [hbx] at HO0
      have HRY1 := Lib.hid (HRY.out _ ((Mod.refl (fun _ => False) wr).alloc (.cells #[.int .u32 (id : Int), .bool there, .slice ap np cp, .slice ah nh ch] 31)))
      clear HRY hbx
      by_cases h40 : m < 40
      · have h40' : (m : Int) < 40 := by omega
        go_upto_region 8 with (go_at_call 27; refine HRY1.out.mono ?_; (rintro e w5 ⟨rfl, hm5⟩); have HO5 := Lib.hid (HO0.out.keep hm5); clear hm5)
        have HW5 := Lib.hid (HO5.out)
        clear HO0 HM r0 r1 r2 r3 zbl HRY1
        go_wp2
        go_loopw [33, 8] (fun i o wr' => ∃ (j : Nat) (f : Bool), i = .int .i64 j ∧ j ≤ m ∧ o = .bool f ∧ (f = true → m < 40 ∧ r = true ∧ ∀ s ∈ l.take j, s.x.id ≠ id) ∧ OrIn w la (.slice am m cm) l wr.heap.size #[.int .u32 (id : Int), .bool there, .slice ap np cp, .slice ah nh ch] wr') (fun i _ _ => m - (intOf i).toNat)
        case atStart => exact ⟨0, _, rfl, Nat.zero_le _, rfl, fun h => ⟨h40, h, by simp⟩, HW5.out⟩
        case round =>
          obtain ⟨j, f, rfl, hj, rfl, hf, hm⟩ := hrel
          have HF := Lib.hid hf
          have HO := Lib.hid hm
          clear hm hf HW5
          have d0 := cell_of_row HO.out.box 0
          have d1 := cell_of_row HO.out.box 1
          have d2 := cell_of_row HO.out.box 2
          have d3 := cell_of_row HO.out.box 3
          simp at d0 d1 d2 d3
          have zn := (Array.getElem?_eq_some_iff.1 HO.out.box).1
          by_cases hjm : j < m
          · obtain ⟨x, hx⟩ : ∃ x, l[j]? = some x := ⟨_, List.getElem?_eq_getElem (by rw [← HML.out]; exact hjm)⟩
            have HLR := Lib.hid (HO.out.mine.rd HA.out)
            have HSH : Hid (Value.slice am m cm = .slice am l.length cm) := Lib.hid (by rw [HML.out])
            obtain ⟨bx, offx, rfl, hbx, s0, s1, s2, s3⟩ := HLR.out.ent hx HSH.out
            have HTK := Lib.hid (take_snoc hx)
            have HVX := Lib.hid (HLR.out.at hx)
            clear hx HLR HSH
            obtain ⟨⟨id', there', xs', ys'⟩, vp', vh'⟩ := x
            obtain ⟨np', ap', cp', rfl⟩ : ∃ np ap cp, vp' = .slice ap np cp := by
              obtain ⟨a, c, e, _⟩ := HVX.out.props.shape
              exact ⟨_, _, _, e⟩
            obtain ⟨nh', ah', ch', rfl⟩ : ∃ np ap cp, vh' = .slice ap np cp := by
              obtain ⟨a, c, e, _⟩ := HVX.out.halves.shape
              exact ⟨_, _, _, e⟩
            clear HVX
            simp only at s0 s1 s2 s3 HTK
            have HO2 := Lib.hid (HO.out.keep ((Mod.refl (fun _ => False) wr).alloc (.cells #[.int .u32 (id' : Int), .bool there', .slice ap' np' cp', .slice ah' nh' ch'] 31)))
            cases f with
            | false =>
              go_wp2
              go_roundw
              case rel => exact ⟨j + 1, false, by go_num, by omega, rfl, fun h => by simp at h, HO2.out⟩
              case measure => simp [intOf]; omega
            | true =>
              by_cases hii : id' = id
              · subst hii
                go_wp2
                go_roundw
                case rel => exact ⟨j + 1, false, by go_num, by omega, rfl, fun h => by simp at h, HO2.out⟩
                case measure => simp [intOf]; omega
              · have hii' : (id' : Int) ≠ (id : Int) := by omega
                go_wp2
                go_roundw
                case rel => exact ⟨j + 1, true, by go_num, by omega, by simp; omega, fun _ => ⟨(HF.out rfl).1, (HF.out rfl).2.1, fun s hs => by
                  rw [HTK.out] at hs
                  rcases List.mem_append.1 hs with hs | hs
                  · exact (HF.out rfl).2.2 s hs
                  · rw [List.mem_singleton] at hs; subst hs; exact hii⟩, HO2.out⟩
                case measure => simp [intOf]; omega
          · cases f with
            | false =>
              go_wp2
              go_roundw
              case rel => exact ⟨k + 1, l, by go_num, by omega, HO.out.mine⟩
              case measure => simp [intOf]; omega
            | true =>
              have HOK : Hid (m < 40 ∧ r = true ∧ ∀ s ∈ l, s.x.id ≠ id) := Lib.hid (by
                have := HF.out rfl
                rwa [List.take_of_length_le (by have := HML.out; omega)] at this)
              have HO3 := Lib.hid (HO.out.mine)
              have HO4 := Lib.hid (HO.out.mine.keep ((Mod.refl (fun _ => False) wr).alloc (.cells #[.int .u32 (id : Int), .bool there, .slice ap np cp, .slice ah nh ch] 31)))
              have HSR := Lib.hid (src_cells (w := wr) rfl (size := 4) 31 #[.int .u32 (id : Int), .bool there, .slice ap np cp, .slice ah nh ch] rfl (by simp [Value.oneCell']))
              have HRW : Hid (Seg _ 31 4 (.slice am m cm) m (vcells l)) := Lib.hid (by have h := HO4.out.row; rwa [← HML.out] at h)
              go_wp2_with (at_builtin; refine wpList_append_seg rfl (.tmp 47) (.tmp 49) 26 rfl i0 _ 4 56 Try.underlying26 HI.out.1 HI.out.2.1 HI.out.2.2.1 HI.out.2.2.2 rfl (by decide) rfl HRW.out _ 1 _ rfl HSR.out (by have := HOK.out.1; have := HML.out; unfold maxLen; omega) (by have := HOK.out.1; have := HML.out; omega) ?_; intro v3 w3 hs3 hg3 ho3; have H3 := Lib.hid (HO3.out.app ⟨⟨id, there, xs, ys⟩, .slice ap np cp, .slice ah nh ch⟩ (by rw [← HML.out]; exact hs3) hg3 ho3 HYM.out (by rw [← HRE.out]; exact HOK.out.2.1) HOK.out.2.2 (by rw [← HML.out]; exact HOK.out.1)); (obtain ⟨a3, c3, n3, rfl⟩ : ∃ a c n, v3 = .slice a n c := (by obtain ⟨a, c, e, _⟩ := hs3.shape; exact ⟨_, _, _, e⟩)); clear hs3 hg3 ho3)
              go_roundw
              case rel => exact ⟨k + 1, _, by go_num, by omega, H3.out⟩
              case measure => simp [intOf]; omega
      · have h40' : ¬ (m : Int) < 40 := by omega
        go_upto_region 8 with fail
        have HW5 := Lib.hid (HO0.out)
        clear HO0 HM r0 r1 r2 r3 zbl HRY1
        go_wp2
        go_loopw [33, 8] (fun i o wr' => ∃ (j : Nat) (f : Bool), i = .int .i64 j ∧ j ≤ m ∧ o = .bool f ∧ (f = true → m < 40 ∧ r = true ∧ ∀ s ∈ l.take j, s.x.id ≠ id) ∧ OrIn w la (.slice am m cm) l wr.heap.size #[.int .u32 (id : Int), .bool there, .slice ap np cp, .slice ah nh ch] wr') (fun i _ _ => m - (intOf i).toNat)
        case atStart => exact ⟨0, _, rfl, Nat.zero_le _, rfl, fun h => by simp at h, HW5.out⟩
        case round =>
          obtain ⟨j, f, rfl, hj, rfl, hf, hm⟩ := hrel
          have HF := Lib.hid hf
          have HO := Lib.hid hm
          clear hm hf HW5
          have d0 := cell_of_row HO.out.box 0
          have d1 := cell_of_row HO.out.box 1
          have d2 := cell_of_row HO.out.box 2
          have d3 := cell_of_row HO.out.box 3
          simp at d0 d1 d2 d3
          have zn := (Array.getElem?_eq_some_iff.1 HO.out.box).1
          by_cases hjm : j < m
          · obtain ⟨x, hx⟩ : ∃ x, l[j]? = some x := ⟨_, List.getElem?_eq_getElem (by rw [← HML.out]; exact hjm)⟩
            have HLR := Lib.hid (HO.out.mine.rd HA.out)
            have HSH : Hid (Value.slice am m cm = .slice am l.length cm) := Lib.hid (by rw [HML.out])
            obtain ⟨bx, offx, rfl, hbx, s0, s1, s2, s3⟩ := HLR.out.ent hx HSH.out
            have HTK := Lib.hid (take_snoc hx)
            have HVX := Lib.hid (HLR.out.at hx)
            clear hx HLR HSH
            obtain ⟨⟨id', there', xs', ys'⟩, vp', vh'⟩ := x
            obtain ⟨np', ap', cp', rfl⟩ : ∃ np ap cp, vp' = .slice ap np cp := by
              obtain ⟨a, c, e, _⟩ := HVX.out.props.shape
              exact ⟨_, _, _, e⟩
            obtain ⟨nh', ah', ch', rfl⟩ : ∃ np ap cp, vh' = .slice ap np cp := by
              obtain ⟨a, c, e, _⟩ := HVX.out.halves.shape
              exact ⟨_, _, _, e⟩
            clear HVX
            simp only at s0 s1 s2 s3 HTK
            have HO2 := Lib.hid (HO.out.keep ((Mod.refl (fun _ => False) wr).alloc (.cells #[.int .u32 (id' : Int), .bool there', .slice ap' np' cp', .slice ah' nh' ch'] 31)))
            cases f with
            | false =>
              go_wp2
              go_roundw
              case rel => exact ⟨j + 1, false, by go_num, by omega, rfl, fun h => by simp at h, HO2.out⟩
              case measure => simp [intOf]; omega
            | true =>
              by_cases hii : id' = id
              · subst hii
                go_wp2
                go_roundw
                case rel => exact ⟨j + 1, false, by go_num, by omega, rfl, fun h => by simp at h, HO2.out⟩
                case measure => simp [intOf]; omega
              · have hii' : (id' : Int) ≠ (id : Int) := by omega
                go_wp2
                go_roundw
                case rel => exact ⟨j + 1, true, by go_num, by omega, by simp; omega, fun _ => ⟨(HF.out rfl).1, (HF.out rfl).2.1, fun s hs => by
                  rw [HTK.out] at hs
                  rcases List.mem_append.1 hs with hs | hs
                  · exact (HF.out rfl).2.2 s hs
                  · rw [List.mem_singleton] at hs; subst hs; exact hii⟩, HO2.out⟩
                case measure => simp [intOf]; omega
          · cases f with
            | false =>
              go_wp2
              go_roundw
              case rel => exact ⟨k + 1, l, by go_num, by omega, HO.out.mine⟩
              case measure => simp [intOf]; omega
            | true =>
              have HOK : Hid (m < 40 ∧ r = true ∧ ∀ s ∈ l, s.x.id ≠ id) := Lib.hid (by
                have := HF.out rfl
                rwa [List.take_of_length_le (by have := HML.out; omega)] at this)
              have HO3 := Lib.hid (HO.out.mine)
              have HO4 := Lib.hid (HO.out.mine.keep ((Mod.refl (fun _ => False) wr).alloc (.cells #[.int .u32 (id : Int), .bool there, .slice ap np cp, .slice ah nh ch] 31)))
              have HSR := Lib.hid (src_cells (w := wr) rfl (size := 4) 31 #[.int .u32 (id : Int), .bool there, .slice ap np cp, .slice ah nh ch] rfl (by simp [Value.oneCell']))
              have HRW : Hid (Seg _ 31 4 (.slice am m cm) m (vcells l)) := Lib.hid (by have h := HO4.out.row; rwa [← HML.out] at h)
              go_wp2_with (at_builtin; refine wpList_append_seg rfl (.tmp 47) (.tmp 49) 26 rfl i0 _ 4 56 Try.underlying26 HI.out.1 HI.out.2.1 HI.out.2.2.1 HI.out.2.2.2 rfl (by decide) rfl HRW.out _ 1 _ rfl HSR.out (by have := HOK.out.1; have := HML.out; unfold maxLen; omega) (by have := HOK.out.1; have := HML.out; omega) ?_; intro v3 w3 hs3 hg3 ho3; have H3 := Lib.hid (HO3.out.app ⟨⟨id, there, xs, ys⟩, .slice ap np cp, .slice ah nh ch⟩ (by rw [← HML.out]; exact hs3) hg3 ho3 HYM.out (by rw [← HRE.out]; exact HOK.out.2.1) HOK.out.2.2 (by rw [← HML.out]; exact HOK.out.1)); (obtain ⟨a3, c3, n3, rfl⟩ : ∃ a c n, v3 = .slice a n c := (by obtain ⟨a, c, e, _⟩ := hs3.shape; exact ⟨_, _, _, e⟩)); clear hs3 hg3 ho3)
              go_roundw
              case rel => exact ⟨k + 1, _, by go_num, by omega, H3.out⟩
              case measure => simp [intOf]; omega
    · have HLR := Lib.hid (HM.out.rd HA.out)
      have MW := Lib.hid HM.out.mod
      have HRI := Lib.hid HM.out.right
      have HDI := Lib.hid HM.out.dist
      have HSL : Hid (∀ s ∈ l, Slim s.x) := Lib.hid (fun s hs => HZA.out s (HM.out.sub s hs))
      have HAM : Hid (Value.slice am m cm = .slice am l.length cm) := Lib.hid (by rw [HML.out])
      obtain ⟨q, hq, hqm⟩ : ∃ q : Nat, (t : Int) % ((m : Int) + 1) = (q : Int) ∧ q ≤ m := ⟨t % (m + 1), by simp, by have := Nat.mod_lt t (show 0 < m + 1 by omega); omega⟩
      obtain ⟨W0, hW0⟩ : ∃ W0, W0 = wr := ⟨_, rfl⟩
      subst hW0
      clear HM
      go_upto_region 18 with (first
        | (go_at_call 25; refine (HNW.out _).mono ?_; (rintro e w4 ⟨rfl, hm4, ht4⟩); have HTT := Lib.hid (two_new (Nat.le_refl _) (Mod.refl _ _) HS3.out.1 HS3.out.2 hm4 ht4); clear hm4 ht4)
        | (go_at_call 25; refine (HNW.out _).mono ?_; (rintro e w3 ⟨rfl, hm3, ht3⟩); have HS3 := Lib.hid (And.intro hm3 ht3); clear hm3 ht3))
      rw [hq]
      clear hq HS3
      go_wp2
      go_loopw [62] (fun i wr' => ∃ j : Nat, i = .int .i64 j ∧ j ≤ m ∧ TwoT W0 (W0.heap.size + 2) W0.heap.size (W0.heap.size + 1) (w3.heap.size + 2) w3.heap.size (w3.heap.size + 1) (allH ((l.take j).map Vs.x)) (allH (((rotL q l).take j).map Vs.x)) (34 * j) wr') (fun i _ => m - (intOf i).toNat)
      case atStart => exact ⟨0, rfl, Nat.zero_le _, HTT.out⟩
      case round =>
        obtain ⟨j, rfl, hj, htt⟩ := hrel
        have HT := Lib.hid htt
        clear htt HTT
        by_cases hjm : j < m
        · have hm0 : 0 < m := by omega
          obtain ⟨p, hp⟩ : ∃ p, p = (q + j) % m := ⟨_, rfl⟩
          have hpm : p < m := by rw [hp]; exact Nat.mod_lt _ hm0
          have hmod : ((q : Int) + (j : Int)) % (m : Int) = (p : Int) := by rw [hp]; simp
          obtain ⟨x, hx⟩ : ∃ x, l[j]? = some x := ⟨_, List.getElem?_eq_getElem (by rw [← HML.out]; exact hjm)⟩
          obtain ⟨y, hy⟩ : ∃ x, l[p]? = some x := ⟨_, List.getElem?_eq_getElem (by rw [← HML.out]; exact hpm)⟩
          have hyr : (rotL q l)[j]? = some y := by rw [rotL_get q j l (by rw [← HML.out]; exact hqm) (by rw [← HML.out]; exact hjm), ← HML.out, ← hp]; exact hy
          have HTX : Hid (allH ((l.take (j + 1)).map Vs.x) = putH x.x (allH ((l.take j).map Vs.x))) := Lib.hid (by rw [take_map_succ _ hx, allH_snoc])
          have HTYR : Hid (allH (((rotL q l).take (j + 1)).map Vs.x) = putH y.x (allH (((rotL q l).take j).map Vs.x))) := Lib.hid (by rw [take_map_succ _ hyr, allH_snoc])
          obtain ⟨bl, offl, e0, hbl, r0, r1, r2, r3⟩ := HLR.out.ent hx HAM.out
          obtain ⟨bl2, offl2, e2, hbl2, s0, s1, s2, s3⟩ := HLR.out.ent hy HAM.out
          subst e0
          injection e2 with e2
          injection e2 with e3 e4
          subst e3 e4
          have hmx := List.mem_of_getElem? hx
          have hmy := List.mem_of_getElem? hy
          have HTWX : Hid (∀ w', Mod (fun _ => False) W0 w' → Calls Try.prog 15 #[vtxV x.x x.vp x.vh] w' (Twins w' x.x)) := Lib.hid (fun w' mm => twinV_any x.x x.vp x.vh w' ((HLR.out.at hx).keep mm) (HSL.out x hmx).1 (HSL.out x hmx).2)
          have HTWY : Hid (∀ w', Mod (fun _ => False) W0 w' → Calls Try.prog 15 #[vtxV y.x y.vp y.vh] w' (Twins w' y.x)) := Lib.hid (fun w' mm => twinV_any y.x y.vp y.vh w' ((HLR.out.at hy).keep mm) (HSL.out y hmy).1 (HSL.out y hmy).2)
          have HP1 : Hid (∀ {g1 h1 n1 g2 h2 n2 : Nat} {H1 H2 : Names} {m : Nat} {wx w0 : World} {vp vh : Value}, TwoT W0 g1 h1 n1 g2 h2 n2 H1 H2 m wx → m < 990000 → VNew w0 wx vp vh x.x → Calls Try.prog 26 #[.pointer (some ⟨g1, 0, none⟩), vtxV x.x vp vh] wx fun e w' => e = .returned (.int .i64 0) ∧ TwoT W0 g1 h1 n1 g2 h2 n2 (putH x.x H1) H2 (m + 17) w') := Lib.hid (fun h hm hn => by
            have := h.put1 x.x _ _ hn.rd hm
            rw [HRI.out x hmx] at this
            exact this.mono (fun _ _ h => ⟨h.1, h.2.1⟩))
          have HP2 : Hid (∀ {g1 h1 n1 g2 h2 n2 : Nat} {H1 H2 : Names} {m : Nat} {wx w0 : World} {vp vh : Value}, TwoT W0 g1 h1 n1 g2 h2 n2 H1 H2 m wx → m < 990000 → VNew w0 wx vp vh y.x → Calls Try.prog 26 #[.pointer (some ⟨g2, 0, none⟩), vtxV y.x vp vh] wx fun e w' => e = .returned (.int .i64 0) ∧ TwoT W0 g1 h1 n1 g2 h2 n2 H1 (putH y.x H2) (m + 17) w') := Lib.hid (fun h hm hn => by
            have := h.put2 y.x _ _ hn.rd hm
            rw [HRI.out y hmy] at this
            exact this.mono (fun _ _ h => ⟨h.1, h.2.1⟩))
          have HVX := Lib.hid (HLR.out.at hx)
          have HVY := Lib.hid (HLR.out.at hy)
          have zbl : bl < wr.heap.size := Nat.lt_of_lt_of_le hbl HT.out.mod.size
          clear hx hy hyr hmx hmy hbl hbl2 hp
          generalize putH x.x = px at HTX HP1
          generalize putH y.x = py at HTYR HP2
          obtain ⟨⟨id, there, xs, ys⟩, vp, vh⟩ := x
          obtain ⟨np, ap, cp, rfl⟩ : ∃ np ap cp, vp = .slice ap np cp := by
            obtain ⟨a, c, e, _⟩ := HVX.out.props.shape
            exact ⟨_, _, _, e⟩
          obtain ⟨nh, ah, ch, rfl⟩ : ∃ np ap cp, vh = .slice ap np cp := by
            obtain ⟨a, c, e, _⟩ := HVX.out.halves.shape
            exact ⟨_, _, _, e⟩
          obtain ⟨⟨id', there', xs', ys'⟩, vp', vh'⟩ := y
          obtain ⟨np', ap', cp', rfl⟩ : ∃ np ap cp, vp' = .slice ap np cp := by
            obtain ⟨a, c, e, _⟩ := HVY.out.props.shape
            exact ⟨_, _, _, e⟩
          obtain ⟨nh', ah', ch', rfl⟩ : ∃ np ap cp, vh' = .slice ap np cp := by
            obtain ⟨a, c, e, _⟩ := HVY.out.halves.shape
            exact ⟨_, _, _, e⟩
          simp only at r0 r1 r2 r3 s0 s1 s2 s3
          simp only [vtxV] at HTWX HTWY HP1 HP2
          clear HVX HVY
          have c0 := HT.out.mod.cell r0
          have c1 := HT.out.mod.cell r1
          have c2 := HT.out.mod.cell r2
          have c3 := HT.out.mod.cell r3
          go_wp2_with (first
            | (go_at_call 26; refine (HP2.out HT7.out (by omega) HN7.out).mono ?_; (rintro e w8 ⟨rfl, hm8⟩); have HT8 := Lib.hid hm8; clear hm8)
            | (go_at_call 15; refine (HTWY.out _ HT6.out.mod).mono ?_; (rintro e w7 ⟨vp7, vh7, rfl, hm7, hn7⟩); have HT7 := Lib.hid (HT6.out.keep hm7); have HN7 := Lib.hid hn7; clear hm7 hn7)
            | (go_at_call 26; refine (HP1.out HT5.out (by omega) HN5.out).mono ?_; (rintro e w6 ⟨rfl, hm6⟩); have HT6 := Lib.hid hm6; have c4 := HT6.out.mod.cell s0; have c5 := HT6.out.mod.cell s1; have c6 := HT6.out.mod.cell s2; have c7 := HT6.out.mod.cell s3; clear hm6)
            | (go_at_call 15; refine (HTWX.out _ HT.out.mod).mono ?_; (rintro e w5 ⟨vp5, vh5, rfl, hm5, hn5⟩); have HT5 := Lib.hid (HT.out.keep hm5); have HN5 := Lib.hid hn5; clear hm5 hn5))
          go_roundw
          case rel => exact ⟨j + 1, by go_num, by omega, by rw [HTX.out, HTYR.out]; exact HT8.out.up (by omega)⟩
          case measure => simp [intOf]; omega
        · obtain ⟨HH, hHH⟩ : ∃ HH, HH = turnX (l.map Vs.x) := ⟨_, rfl⟩
          have HTE : Hid (TwoT W0 (W0.heap.size + 2) W0.heap.size (W0.heap.size + 1) (w3.heap.size + 2) w3.heap.size (w3.heap.size + 1) HH HH (34 * j) wr) := Lib.hid (by
            have h := HT.out
            rw [List.take_of_length_le (by have := HML.out; omega), List.take_of_length_le (by rw [rotL_length]; have := HML.out; omega)] at h
            have hr : ∀ x ∈ l.map Vs.x, x.right = true := fun x hx => by
              obtain ⟨s, hs, rfl⟩ := List.mem_map.1 hx
              exact HRI.out s hs
            have hr2 : ∀ x ∈ (rotL q l).map Vs.x, x.right = true := fun x hx => by
              obtain ⟨s, hs, rfl⟩ := List.mem_map.1 hx
              exact HRI.out s ((rotL_perm q l).mem_iff.1 hs)
            rw [allH_turn _ hr, allH_turn _ hr2, turnX_perm (b := l.map Vs.x) (by
              exact (((rotL_perm q l).map Vs.x).map Vtx.id).nodup_iff.2 (by rw [List.map_map]; exact HDI.out)) ((rotL_perm q l).map Vs.x)] at h
            rw [hHH]
            exact h)
          have HTWS := Lib.hid (twins12_any (.slice am m cm) l wr (by have h := HLR.out.keep HT.out.mod; exact h) (by have := HML.out; omega) HSL.out)
          have HWT : Hid (∀ l', l'.map Vs.x = l.map Vs.x → wt l' < 999999 ∧ turnAll l' = HH) := Lib.hid (fun l' h => by
            obtain ⟨h1, h2, h3⟩ := vtx_map h
            have h4 := wt_right (h3 HRI.out)
            have := HML.out
            exact ⟨by omega, by rw [turnAll_x, h, hHH]⟩)
          clear HT hHH
          go_wp2_with (first
            | (go_at_call 18; refine (psame_yes _ _ gl w12 HP12.out.seg.rdS HQ12.out.seg.rdS).mono ?_; (rintro e w13 ⟨rfl, hm⟩); have HT13 := Lib.hid (HT12.out.keep hm); clear hm)
            | (go_at_call 19; refine (ghosts_any _ gl w11 HP11.out.seg.rdS (by have := HLE.out; omega)).mono ?_; (rintro e w12 ⟨v12, rfl, hp⟩); have HT12 := Lib.hid (HT11.out.keep hp.mod); have HQ12 := Lib.hid (HQ11.out.keep hp.mod); have HP12 := Lib.hid hp; clear hp)
            | (go_at_call 28; refine (talList _ _ _ _ _ w10 HT10.out.two.tal (by omega)).mono ?_; (rintro e w11 ⟨v11, gl', rfl, hp, hg, hl⟩); (obtain rfl := (hg.uniq HGL.out).symm); have HT11 := Lib.hid (HT10.out.keep hp.mod); have HQ11 := Lib.hid (HQ10.out.keep hp.mod); have HP11 := Lib.hid hp; clear hp hg hl)
            | (go_at_call 18; refine (psame_yes _ _ gl w9 HP9.out.seg.rdS HQ9.out.seg.rdS).mono ?_; (rintro e w10 ⟨rfl, hm⟩); have HT10 := Lib.hid (HT9.out.keep hm); have HQ10 := Lib.hid (HQ9.out.keep hm); clear hm)
            | (go_at_call 19; refine (ghosts_any _ gl w8 HP8.out.seg.rdS (by have := HLE.out; omega)).mono ?_; (rintro e w9 ⟨v9, rfl, hp⟩); have HT9 := Lib.hid (HT8.out.keep hp.mod); have HQ9 := Lib.hid (HQ8.out.keep hp.mod); have HP9 := Lib.hid hp; clear hp)
            | (go_at_call 28; refine (talList _ _ _ _ _ w7 HT7.out.one.tal (by omega)).mono ?_; (rintro e w8 ⟨v8, gl', rfl, hp, hg, hl⟩); (obtain rfl := (hg.uniq HGL.out).symm); have HT8 := Lib.hid (HT7.out.keep hp.mod); have HQ8 := Lib.hid (HQ7.out.keep hp.mod); have HP8 := Lib.hid hp; clear hp hg hl)
            | (go_at_call 19; refine (ghosts_any _ gl w6 HP6.out.seg.rdS (by have := HLE.out; omega)).mono ?_; (rintro e w7 ⟨v7, rfl, hp⟩); have HT7 := Lib.hid (HT6.out.keep hp.mod); have HQ7 := Lib.hid hp; clear hp)
            | (go_at_call 16; refine (countL_any _ l' w5 HLO.out (HWT.out l' HDD.out).1).mono ?_; (rintro e w6 ⟨v6, gl, rfl, hp, hg, hl⟩); have HT6 := Lib.hid (HT5.out.keep hp.mod); have HGL := Lib.hid hg; have HLE := Lib.hid hl; rw [(HWT.out l' HDD.out).2] at HGL; have HP6 := Lib.hid hp; clear hp hg hl)
            | (go_at_call 17; refine HTWS.out.mono ?_; (rintro e w5 ⟨vo, l', rfl, hm, ho, hd⟩); have HT5 := Lib.hid (HTE.out.keep hm); have HLO := Lib.hid ho.rd; have HDD := Lib.hid hd; clear hm ho hd))
          go_ret
          exact ⟨rfl, MW.out.trans HT13.out.mod⟩
theorem order_all (v0 v1 : Value) (w : World) (h0 : InVs w v0) (h1 : InU8 w v1) : Calls Try.prog 9 #[v0, v1] w fun e w' => e = .returned (.bool true) ∧ Below w.heap.size w w' := by
  obtain ⟨la, ha, za⟩ := h0
  obtain ⟨t, rfl, ht⟩ := h1
  exact Calls.mono (R := fun e w' => e = .returned (.bool true) ∧ Mod (fun _ => False) w w') (order_main v0 la t w ha za ht) (fun _ _ ⟨h, m⟩ => ⟨h, m.toBelow (Nat.le_refl _) (fun _ _ f => f)⟩)
end Go.Proofs.Ytdblilhkojafgaa
