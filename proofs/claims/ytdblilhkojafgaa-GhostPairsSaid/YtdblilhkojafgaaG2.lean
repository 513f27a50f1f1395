/- gussetlaw12.GhostMoves, walked. -/
import Derived.Test.YtdblilhkojafgaaG1
import Derived.Test.YtdblilhkojafgaaTD
namespace Go.Proofs.Ytdblilhkojafgaa
set_option linter.unusedVariables false
open Go.RowKit Go.Maps

theorem RightAt.mv {w w1 : World} {o : Array Value} {w2 w3 : World} (h : RightAt w o w1) (m1 : Mod (fun _ => False) w1 w2) (t1 : TAt w2 (w1.heap.size + 2) w1.heap.size (w1.heap.size + 1) [] [] (fun _ => 0) 0)
    (m2 : Mod (fun _ => False) w2 w3) (t2 : TAt w3 (w2.heap.size + 2) w2.heap.size (w2.heap.size + 1) [] [] (fun _ => 0) 0) :
    MvAt w o (w1.heap.size + 2) w1.heap.size (w1.heap.size + 1) (w2.heap.size + 2) w2.heap.size (w2.heap.size + 1) [] [] 0 w3 :=
  ⟨two_new h.mod.size h.mod m1 t1 m2 t2, m2.heap (m1.heap h.box (fun f => f)) (fun f => f)⟩
theorem min_step {k : Nat} (h : k < 20) : 17 * min k 20 + 17 = 17 * min (k + 1) 20 := by omega

set_option maxRecDepth 100000 in
set_option maxHeartbeats 4000000 in
theorem moves_wrong (va vb : Value) (x : Vtx) (vp vh : Value) (w : World) (hx : VRd w vp vh x) (hz : Slim x) (hr : (x.right && x.there) = false) (ha : ∃ a n c, va = .slice a n c) (hb : ∃ a n c, vb = .slice a n c) :
    Calls Try.prog 7 #[va, vb, vtxV x vp vh] w fun e w' => e = .returned (.bool true) ∧ Mod (fun _ => False) w w' := by
  have HR := Lib.hid (fun (w1 : World) (m : Mod (fun _ => False) w w1) => dright_any x vp vh w1 (hx.keep m) (by have := hz.1; have := hz.2; omega))
  have HAW := Lib.hid (awake12_any)
  obtain ⟨ap, cp, rfl, -⟩ := hx.props.shape
  obtain ⟨ah, ch, rfl, -⟩ := hx.halves.shape
  obtain ⟨aa, na, ca, rfl⟩ := ha
  obtain ⟨ab, nb, cb, rfl⟩ := hb
  clear hx hz
  simp only [vtxV] at HR ⊢
  generalize x.right = r at hr HR
  obtain ⟨id, there, ps, hs⟩ := x
  simp only at hr HR ⊢
  generalize ps.length = np at HR ⊢
  generalize hs.length = nh at HR ⊢
  clear ps hs
  have key : ∀ r there, (r && there) = false → Hid (∀ (w1 : World), Mod (fun _ => False) w w1 → Calls Try.prog 27 #[.agg #[.int .u32 (id : Int), .bool there, .slice ap np cp, .slice ah nh ch]] w1 fun e w' => e = .returned (.bool r) ∧ Mod (fun _ => False) w1 w') →
      Calls Try.prog 7 #[.slice aa na ca, .slice ab nb cb, .agg #[.int .u32 (id : Int), .bool there, .slice ap np cp, .slice ah nh ch]] w fun e w' => e = .returned (.bool true) ∧ Mod (fun _ => False) w w' := by
    clear HR hr
    clear there r
    intro r there hr HR
    cases r <;> cases there <;> first | (exfalso; revert hr; decide) | skip
    all_goals
      clear hr
      go_enter Try.func7, Try.ntmps7
      go_wp2_with (first
        | (go_at_call 13; refine (HAW.out _).mono ?_; (rintro e w1 ⟨rfl, hm1⟩); have HR1 : Hid (RightAt w _ w1) := Lib.hid ⟨((Mod.refl _ w).alloc _).trans hm1, hm1.heap (heap_alloc_new' w _) (fun f => f)⟩; have c0 := cell_of_row HR1.out.box 0; have c1 := cell_of_row HR1.out.box 1; have c2 := cell_of_row HR1.out.box 2; have c3 := cell_of_row HR1.out.box 3; simp at c0 c1 c2 c3; clear hm1)
        | (go_at_call 27; refine (HR.out _ HR1.out.mod).mono ?_; (rintro e w2 ⟨rfl, hm2⟩); have HR2 := Lib.hid (HR1.out.more hm2); have d0 := cell_of_row HR2.out.box 0; have d1 := cell_of_row HR2.out.box 1; have d2 := cell_of_row HR2.out.box 2; have d3 := cell_of_row HR2.out.box 3; simp at d0 d1 d2 d3; clear hm2))
      go_ret
      exact ⟨rfl, HR2.out.mod⟩
  exact key r there hr HR

set_option maxRecDepth 100000 in
set_option maxHeartbeats 4000000 in
theorem moves_good (va vb : Value) (la lb : List Vs) (x : Vtx) (vp vh : Value) (w : World) (hx : VRd w vp vh x) (hz : Slim x) (hr : x.right = true) (ht : x.there = true) (ha : LRd w va la) (hb : LRd w vb lb) (za : ∀ s ∈ la, Slim s.x) (zb : ∀ s ∈ lb, Slim s.x) :
    Calls Try.prog 7 #[va, vb, vtxV x vp vh] w fun e w' => e = .returned (.bool true) ∧ Mod (fun _ => False) w w' := by
  have HR := Lib.hid (fun (w1 : World) (m : Mod (fun _ => False) w w1) => dright_any x vp vh w1 (hx.keep m) (by have := hz.1; have := hz.2; omega))
  have HTW := Lib.hid (fun (w1 : World) (m : Mod (fun _ => False) w w1) => twinV_any x vp vh w1 (hx.keep m) hz.1 hz.2)
  have HAW := Lib.hid (awake12_any)
  have HNW := Lib.hid (tally_new)
  have hid0 : x.id < 4294967296 := hx.fits.id
  have HA := Lib.hid ha
  have HB := Lib.hid hb
  have HZA := Lib.hid za
  have HZB := Lib.hid zb
  obtain ⟨ap, cp, rfl, -⟩ := hx.props.shape
  obtain ⟨ah, ch, rfl, -⟩ := hx.halves.shape
  obtain ⟨aa, ca, rfl, hca, hca2, -⟩ := ha.row.shape
  obtain ⟨ab, cb, rfl, hcb, hcb2, -⟩ := hb.row.shape
  obtain ⟨na, hna⟩ : ∃ n, n = la.length := ⟨_, rfl⟩
  have HNA := Lib.hid hna
  rw [← hna] at HA hca ⊢
  obtain ⟨nb, hnb⟩ : ∃ n, n = lb.length := ⟨_, rfl⟩
  have HNB := Lib.hid hnb
  rw [← hnb] at HB hcb ⊢
  clear hna hnb ha hb za zb hx hz
  have HP1 : Hid (∀ {o : Array Value} {g1 h1 n1 g2 h2 n2 : Nat} {H1 H2 : Names} {m : Nat} {wx w0 : World} {vp vh : Value}, MvAt w o g1 h1 n1 g2 h2 n2 H1 H2 m wx → m < 990000 → VNew w0 wx vp vh x → Calls Try.prog 26 #[.pointer (some ⟨g1, 0, none⟩), vtxV x vp vh] wx fun e w' => e = .returned (.int .i64 0) ∧ MvAt w o g1 h1 n1 g2 h2 n2 (putH x H1) H2 (m + 17) w') := Lib.hid (fun h hm hn => by
    have := h.put1 x _ _ hn.rd hm
    rw [hr] at this
    exact this)
  have HP2 : Hid (∀ {o : Array Value} {g1 h1 n1 g2 h2 n2 : Nat} {H1 H2 : Names} {m : Nat} {wx w0 : World} {vp vh : Value}, MvAt w o g1 h1 n1 g2 h2 n2 H1 H2 m wx → m < 990000 → VNew w0 wx vp vh x → Calls Try.prog 26 #[.pointer (some ⟨g2, 0, none⟩), vtxV x vp vh] wx fun e w' => e = .returned (.int .i64 0) ∧ MvAt w o g1 h1 n1 g2 h2 n2 H1 (putH x H2) (m + 17) w') := Lib.hid (fun h hm hn => by
    have := h.put2 x _ _ hn.rd hm
    rw [hr] at this
    exact this)
  have HG1 : Hid (∀ {o : Array Value} {g1 h1 n1 g2 h2 n2 : Nat} {H1 H2 : Names} {m : Nat} {wx : World}, MvAt w o g1 h1 n1 g2 h2 n2 H1 H2 m wx → m < 990000 → Calls Try.prog 26 #[.pointer (some ⟨g1, 0, none⟩), vtxV (gone x.id) (.slice none 0 0) (.slice none 0 0)] wx fun e w' => e = .returned (.int .i64 0) ∧ MvAt w o g1 h1 n1 g2 h2 n2 (putH (gone x.id) H1) H2 (m + 17) w') := Lib.hid (by
    intro h hm
    have := h.put1 (gone x.id) (.slice none 0 0) (.slice none 0 0) ⟨⟨hid0, by simp [gone], by simp [gone]⟩, (Seg.nil _ 0 4).rdS, (Seg.nil _ 0 4).rdS⟩ hm
    rw [gone_right hr] at this
    exact this)
  have HO1 : Hid (∀ {o : Array Value} {g1 h1 n1 g2 h2 n2 : Nat} {H1 H2 : Names} {m : Nat} {wx : World}, MvAt w o g1 h1 n1 g2 h2 n2 (putH x H1) H2 m wx → Calls Try.prog 29 #[.pointer (some ⟨g1, 0, none⟩), .int .u32 (x.id : Int)] wx fun e w' => e = .returned (.int .i64 0) ∧ MvAt w o g1 h1 n1 g2 h2 n2 (putH x H1) H2 m w') := Lib.hid (fun h => by
    have := h.of1 x.id hid0
    rw [of_held hr ht] at this
    exact this)
  have HO2 : Hid (∀ {o : Array Value} {g1 h1 n1 g2 h2 n2 : Nat} {H1 H2 : Names} {m : Nat} {wx : World}, MvAt w o g1 h1 n1 g2 h2 n2 H1 (putH x H2) m wx → Calls Try.prog 29 #[.pointer (some ⟨g2, 0, none⟩), .int .u32 (x.id : Int)] wx fun e w' => e = .returned (.int .i64 0) ∧ MvAt w o g1 h1 n1 g2 h2 n2 H1 (putH x H2) m w') := Lib.hid (fun h => by
    have := h.of2 x.id hid0
    rw [of_held hr ht] at this
    exact this)
  have HQ1 : Hid (∀ {o : Array Value} {g1 h1 n1 g2 h2 n2 : Nat} {H1 H2 : Names} {m : Nat} {wx : World}, MvAt w o g1 h1 n1 g2 h2 n2 H1 H2 m wx → Calls Try.prog 29 #[.pointer (some ⟨g1, 0, none⟩), .int .u32 (x.id : Int)] wx fun e w' => e = .returned (.int .i64 (ofC H1 (tot H1) x.id : Nat)) ∧ MvAt w o g1 h1 n1 g2 h2 n2 H1 H2 m w') := Lib.hid (fun h => h.of1 x.id hid0)
  have HQ2 : Hid (∀ {o : Array Value} {g1 h1 n1 g2 h2 n2 : Nat} {H1 H2 : Names} {m : Nat} {wx : World}, MvAt w o g1 h1 n1 g2 h2 n2 H1 H2 m wx → Calls Try.prog 29 #[.pointer (some ⟨g2, 0, none⟩), .int .u32 (x.id : Int)] wx fun e w' => e = .returned (.int .i64 (ofC H2 (tot H2) x.id : Nat)) ∧ MvAt w o g1 h1 n1 g2 h2 n2 H1 H2 m w') := Lib.hid (fun h => h.of2 x.id hid0)
  rw [hr] at HR
  clear hr
  obtain ⟨id, there, ps, hs⟩ := x
  simp only at ht hid0
  subst ht
  generalize putH ⟨id, true, ps, hs⟩ = put at *
  simp only [vtxV, gone] at *
  clear hid0
  go_enter Try.func7, Try.ntmps7
  go_wp2_with (first
    | (go_at_call 13; refine (HAW.out _).mono ?_; (rintro e w1 ⟨rfl, hm1⟩); have HR1 : Hid (RightAt w _ w1) := Lib.hid ⟨((Mod.refl _ w).alloc _).trans hm1, hm1.heap (heap_alloc_new' w _) (fun f => f)⟩; have c0 := cell_of_row HR1.out.box 0; have c1 := cell_of_row HR1.out.box 1; have c2 := cell_of_row HR1.out.box 2; have c3 := cell_of_row HR1.out.box 3; simp at c0 c1 c2 c3; clear hm1)
    | (go_at_call 27; refine (HR.out _ HR1.out.mod).mono ?_; (rintro e w2 ⟨rfl, hm2⟩); have HR2 := Lib.hid (HR1.out.more hm2); have d0 := cell_of_row HR2.out.box 0; have d1 := cell_of_row HR2.out.box 1; have d2 := cell_of_row HR2.out.box 2; have d3 := cell_of_row HR2.out.box 3; simp at d0 d1 d2 d3; clear hm2)
    | (go_at_call 25; refine (HNW.out _).mono ?_; (rintro e w4 ⟨rfl, hm4, ht4⟩); have HMV := Lib.hid (HR2.out.mv HS3.out.1 HS3.out.2 hm4 ht4); clear hm4 ht4)
    | (go_at_call 25; refine (HNW.out _).mono ?_; (rintro e w3 ⟨rfl, hm3, ht3⟩); have HS3 := Lib.hid (And.intro hm3 ht3); clear hm3 ht3))
  obtain ⟨o, ho⟩ : ∃ o : Array Value, o = #[.int .u32 (id : Int), .bool true, .slice ap ps.length cp, .slice ah hs.length ch] := ⟨_, rfl⟩
  rw [← ho] at HMV
  have HOE := Lib.hid ho
  clear ho HS3 HR1 HR2 d0 d1 d2 d3 HR HAW HNW
  go_loopw [28] (fun i wr => ∃ (k : Nat) (H1 : Names), i = .int .i64 k ∧ k ≤ na ∧ MvAt w o (w2.heap.size + 2) w2.heap.size (w2.heap.size + 1) (w3.heap.size + 2) w3.heap.size (w3.heap.size + 1) H1 [] (17 * min k 20) wr) (fun i _ => na - (intOf i).toNat)
  case atStart => exact ⟨0, _, rfl, Nat.zero_le _, HMV.out⟩
  case round =>
    obtain ⟨k, H1, rfl, hk, hm⟩ := hrel
    have HM := Lib.hid hm
    clear hm
    have c0 := cell_of_row HM.out.box 0
    simp [HOE.out] at c0
    have zw : w.heap.size < wr.heap.size := (Array.getElem?_eq_some_iff.1 HM.out.box).1
    by_cases hkn : k < na
    · obtain ⟨y, hy⟩ : ∃ x, la[k]? = some x := ⟨_, List.getElem?_eq_getElem (by rw [← HNA.out]; exact hkn)⟩
      obtain ⟨bl, offl, rfl, hbl, r0, r1, r2, r3⟩ := HA.out.ent hy rfl
      have r0 := HM.out.mod.cell r0
      have r1 := HM.out.mod.cell r1
      have r2 := HM.out.mod.cell r2
      have r3 := HM.out.mod.cell r3
      have zbl : bl < wr.heap.size := Nat.lt_of_lt_of_le hbl HM.out.mod.size
      have HVR := Lib.hid (HA.out.at hy)
      have hzy := HZA.out y (List.mem_of_getElem? hy)
      have HTY : Hid (∀ w', Mod (fun _ => False) wr w' → Calls Try.prog 15 #[vtxV y.x y.vp y.vh] w' (Twins w' y.x)) := Lib.hid (fun w' mm => twinV_any y.x y.vp y.vh w' (HVR.out.keep (HM.out.mod.trans mm)) hzy.1 hzy.2)
      have HPY : Hid (∀ {w5 w0 : World} {vp vh : Value}, MvAt w o (w2.heap.size + 2) w2.heap.size (w2.heap.size + 1) (w3.heap.size + 2) w3.heap.size (w3.heap.size + 1) H1 [] (17 * min k 20)  w5 → VNew w0 w5 vp vh y.x → Calls Try.prog 26 #[.pointer (some ⟨w2.heap.size + 2, 0, none⟩), vtxV y.x vp vh] w5 fun e w' => e = .returned (.int .i64 (errB y.x.right)) ∧ MvAt w o (w2.heap.size + 2) w2.heap.size (w2.heap.size + 1) (w3.heap.size + 2) w3.heap.size (w3.heap.size + 1) (putH y.x H1) [] (17 * min k 20 + 17)  w') := Lib.hid (fun h hn => h.put1 y.x _ _ hn.rd (by omega))
      clear hy hzy hbl
      generalize putH y.x = pu at HPY
      generalize errB y.x.right = er at HPY
      obtain ⟨⟨id', there', xs, ys⟩, vp', vh'⟩ := y
      obtain ⟨np, ap', cp', rfl⟩ : ∃ np ap cp, vp' = .slice ap np cp := by
        obtain ⟨a, c, e, _⟩ := HVR.out.props.shape
        exact ⟨_, _, _, e⟩
      obtain ⟨nh, ah', ch', rfl⟩ : ∃ np ap cp, vh' = .slice ap np cp := by
        obtain ⟨a, c, e, _⟩ := HVR.out.halves.shape
        exact ⟨_, _, _, e⟩
      simp only at r0 r1 r2 r3
      simp only [vtxV] at HTY HPY
      clear HVR
      have HM1 := Lib.hid (HM.out.keep ((Mod.refl (fun _ => False) wr).alloc (.cells #[.int .u32 (id' : Int), .bool there', .slice ap' np cp', .slice ah' nh ch'] 31)))
      by_cases h20 : k < 20
      · have h20' : (k : Int) < 20 := by omega
        by_cases hii : id' = id
        · subst hii
          go_wp2
          go_roundw
          case rel => exact ⟨k + 1, _, by go_num, by omega, HM1.out.up (by omega)⟩
          case measure => simp [intOf]; omega
        · have hii' : (id' : Int) ≠ (id : Int) := by omega
          go_wp2_with (first
            | (go_at_call 15; refine (HTY.out _ ((Mod.refl (fun _ => False) wr).alloc _)).mono ?_; (rintro e w5 ⟨vp5, vh5, rfl, hm5, hn5⟩); have HM5 := Lib.hid (HM1.out.keep hm5); have HN5 := Lib.hid hn5; clear hm5 hn5)
            | (go_at_call 26; refine (HPY.out HM5.out HN5.out).mono ?_; (rintro e w6 ⟨rfl, hm6⟩); have HM6 := Lib.hid hm6; clear hm6))
          go_roundw
          case rel => exact ⟨k + 1, _, by go_num, by omega, HM6.out.up (by omega)⟩
          case measure => simp [intOf]; omega
      · have h20' : ¬ (k : Int) < 20 := by omega
        go_wp2
        go_roundw
        case rel => exact ⟨k + 1, _, by go_num, by omega, HM1.out.up (by omega)⟩
        case measure => simp [intOf]; omega
    · have HMX := Lib.hid (HM.out.up (m' := 340) (by omega))
      clear HM c0 zw HMV
      go_wp2
      clear hkn
      go_loopw [49] (fun i wr => ∃ (k : Nat) (H2 : Names), i = .int .i64 k ∧ k ≤ nb ∧ MvAt w o (w2.heap.size + 2) w2.heap.size (w2.heap.size + 1) (w3.heap.size + 2) w3.heap.size (w3.heap.size + 1) H1 H2 (340 + 17 * min k 20) wr) (fun i _ => nb - (intOf i).toNat)
      case atStart => exact ⟨0, _, rfl, Nat.zero_le _, HMX.out⟩
      case round =>
        obtain ⟨k, H2, rfl, hk, hm⟩ := hrel
        have HM := Lib.hid hm
        clear hm
        have c0 := cell_of_row HM.out.box 0
        simp [HOE.out] at c0
        have zw : w.heap.size < wr.heap.size := (Array.getElem?_eq_some_iff.1 HM.out.box).1
        by_cases hkn : k < nb
        · obtain ⟨y, hy⟩ : ∃ x, lb[k]? = some x := ⟨_, List.getElem?_eq_getElem (by rw [← HNB.out]; exact hkn)⟩
          obtain ⟨bl, offl, rfl, hbl, r0, r1, r2, r3⟩ := HB.out.ent hy rfl
          have r0 := HM.out.mod.cell r0
          have r1 := HM.out.mod.cell r1
          have r2 := HM.out.mod.cell r2
          have r3 := HM.out.mod.cell r3
          have zbl : bl < wr.heap.size := Nat.lt_of_lt_of_le hbl HM.out.mod.size
          have HVR := Lib.hid (HB.out.at hy)
          have hzy := HZB.out y (List.mem_of_getElem? hy)
          have HTY : Hid (∀ w', Mod (fun _ => False) wr w' → Calls Try.prog 15 #[vtxV y.x y.vp y.vh] w' (Twins w' y.x)) := Lib.hid (fun w' mm => twinV_any y.x y.vp y.vh w' (HVR.out.keep (HM.out.mod.trans mm)) hzy.1 hzy.2)
          have HPY : Hid (∀ {w5 w0 : World} {vp vh : Value}, MvAt w o (w2.heap.size + 2) w2.heap.size (w2.heap.size + 1) (w3.heap.size + 2) w3.heap.size (w3.heap.size + 1) H1 H2 (340 + 17 * min k 20)  w5 → VNew w0 w5 vp vh y.x → Calls Try.prog 26 #[.pointer (some ⟨w3.heap.size + 2, 0, none⟩), vtxV y.x vp vh] w5 fun e w' => e = .returned (.int .i64 (errB y.x.right)) ∧ MvAt w o (w2.heap.size + 2) w2.heap.size (w2.heap.size + 1) (w3.heap.size + 2) w3.heap.size (w3.heap.size + 1) H1 (putH y.x H2) (340 + 17 * min k 20 + 17)  w') := Lib.hid (fun h hn => h.put2 y.x _ _ hn.rd (by omega))
          clear hy hzy hbl
          generalize putH y.x = pu at HPY
          generalize errB y.x.right = er at HPY
          obtain ⟨⟨id', there', xs, ys⟩, vp', vh'⟩ := y
          obtain ⟨np, ap', cp', rfl⟩ : ∃ np ap cp, vp' = .slice ap np cp := by
            obtain ⟨a, c, e, _⟩ := HVR.out.props.shape
            exact ⟨_, _, _, e⟩
          obtain ⟨nh, ah', ch', rfl⟩ : ∃ np ap cp, vh' = .slice ap np cp := by
            obtain ⟨a, c, e, _⟩ := HVR.out.halves.shape
            exact ⟨_, _, _, e⟩
          simp only at r0 r1 r2 r3
          simp only [vtxV] at HTY HPY
          clear HVR
          have HM1 := Lib.hid (HM.out.keep ((Mod.refl (fun _ => False) wr).alloc (.cells #[.int .u32 (id' : Int), .bool there', .slice ap' np cp', .slice ah' nh ch'] 31)))
          by_cases h20 : k < 20
          · have h20' : (k : Int) < 20 := by omega
            by_cases hii : id' = id
            · subst hii
              go_wp2
              go_roundw
              case rel => exact ⟨k + 1, _, by go_num, by omega, HM1.out.up (by omega)⟩
              case measure => simp [intOf]; omega
            · have hii' : (id' : Int) ≠ (id : Int) := by omega
              go_wp2_with (first
                | (go_at_call 15; refine (HTY.out _ ((Mod.refl (fun _ => False) wr).alloc _)).mono ?_; (rintro e w5 ⟨vp5, vh5, rfl, hm5, hn5⟩); have HM5 := Lib.hid (HM1.out.keep hm5); have HN5 := Lib.hid hn5; clear hm5 hn5)
                | (go_at_call 26; refine (HPY.out HM5.out HN5.out).mono ?_; (rintro e w6 ⟨rfl, hm6⟩); have HM6 := Lib.hid hm6; clear hm6))
              go_roundw
              case rel => exact ⟨k + 1, _, by go_num, by omega, HM6.out.up (by omega)⟩
              case measure => simp [intOf]; omega
          · have h20' : ¬ (k : Int) < 20 := by omega
            go_wp2
            go_roundw
            case rel => exact ⟨k + 1, _, by go_num, by omega, HM1.out.up (by omega)⟩
            case measure => simp [intOf]; omega
        · have c1 := cell_of_row HM.out.box 1
          have c2 := cell_of_row HM.out.box 2
          have c3 := cell_of_row HM.out.box 3
          simp [HOE.out] at c1 c2 c3
          generalize ps.length = np at *
          generalize hs.length = nh at *
          go_wp2_with (first
            | (go_at_call 29; refine (HQ1.out HS8.out).mono ?_; (rintro e wj ⟨rfl, hm⟩); have HS9 := Lib.hid hm; have c0 := cell_of_row HS9.out.box 0; have c1 := cell_of_row HS9.out.box 1; have c2 := cell_of_row HS9.out.box 2; have c3 := cell_of_row HS9.out.box 3; simp [HOE.out] at c0 c1 c2 c3; clear hm)
            | (go_at_call 29; refine (HO2.out HS7.out).mono ?_; (rintro e wi ⟨rfl, hm⟩); have HS8 := Lib.hid hm; have c0 := cell_of_row HS8.out.box 0; have c1 := cell_of_row HS8.out.box 1; have c2 := cell_of_row HS8.out.box 2; have c3 := cell_of_row HS8.out.box 3; simp [HOE.out] at c0 c1 c2 c3; clear hm)
            | (go_at_call 26; refine (HP2.out HS6.out (by omega) HN2.out).mono ?_; (rintro e wh ⟨rfl, hm⟩); have HS7 := Lib.hid hm; have c0 := cell_of_row HS7.out.box 0; have c1 := cell_of_row HS7.out.box 1; have c2 := cell_of_row HS7.out.box 2; have c3 := cell_of_row HS7.out.box 3; simp [HOE.out] at c0 c1 c2 c3; clear hm)
            | (go_at_call 15; refine (HTW.out _ HS5.out.mod).mono ?_; (rintro e wg ⟨vp2, vh2, rfl, hm, hn⟩); have HS6 := Lib.hid (HS5.out.keep hm); have c0 := cell_of_row HS6.out.box 0; have c1 := cell_of_row HS6.out.box 1; have c2 := cell_of_row HS6.out.box 2; have c3 := cell_of_row HS6.out.box 3; simp [HOE.out] at c0 c1 c2 c3; (obtain ⟨ap2, cp2, np2, rfl⟩ : ∃ a c n, vp2 = .slice a n c := (by obtain ⟨a, c, e, _⟩ := hn.props.shape; exact ⟨_, _, _, e⟩)); (obtain ⟨ah2, ch2, nh2, rfl⟩ : ∃ a c n, vh2 = .slice a n c := (by obtain ⟨a, c, e, _⟩ := hn.halves.shape; exact ⟨_, _, _, e⟩)); have HN2 := Lib.hid hn; clear hn; clear hm)
            | (go_at_call 26; refine (HG1.out HS4.out (by omega)).mono ?_; (rintro e wf ⟨rfl, hm⟩); have HS5 := Lib.hid hm; have c0 := cell_of_row HS5.out.box 0; have c1 := cell_of_row HS5.out.box 1; have c2 := cell_of_row HS5.out.box 2; have c3 := cell_of_row HS5.out.box 3; simp [HOE.out] at c0 c1 c2 c3; clear hm)
            | (go_at_call 29; refine (HQ2.out HS3.out).mono ?_; (rintro e we ⟨rfl, hm⟩); have HS4 := Lib.hid hm; have c0 := cell_of_row HS4.out.box 0; have c1 := cell_of_row HS4.out.box 1; have c2 := cell_of_row HS4.out.box 2; have c3 := cell_of_row HS4.out.box 3; simp [HOE.out] at c0 c1 c2 c3; clear hm)
            | (go_at_call 29; refine (HO1.out HS2.out).mono ?_; (rintro e wd ⟨rfl, hm⟩); have HS3 := Lib.hid hm; have c0 := cell_of_row HS3.out.box 0; have c1 := cell_of_row HS3.out.box 1; have c2 := cell_of_row HS3.out.box 2; have c3 := cell_of_row HS3.out.box 3; simp [HOE.out] at c0 c1 c2 c3; clear hm)
            | (go_at_call 26; refine (HP1.out HS1.out (by omega) HN1.out).mono ?_; (rintro e wc ⟨rfl, hm⟩); have HS2 := Lib.hid hm; have c0 := cell_of_row HS2.out.box 0; have c1 := cell_of_row HS2.out.box 1; have c2 := cell_of_row HS2.out.box 2; have c3 := cell_of_row HS2.out.box 3; simp [HOE.out] at c0 c1 c2 c3; clear hm)
            | (go_at_call 15; refine (HTW.out _ HS0.out.mod).mono ?_; (rintro e wb ⟨vp1, vh1, rfl, hm, hn⟩); have HS1 := Lib.hid (HS0.out.keep hm); have c0 := cell_of_row HS1.out.box 0; have c1 := cell_of_row HS1.out.box 1; have c2 := cell_of_row HS1.out.box 2; have c3 := cell_of_row HS1.out.box 3; simp [HOE.out] at c0 c1 c2 c3; (obtain ⟨ap1, cp1, np1, rfl⟩ : ∃ a c n, vp1 = .slice a n c := (by obtain ⟨a, c, e, _⟩ := hn.props.shape; exact ⟨_, _, _, e⟩)); (obtain ⟨ah1, ch1, nh1, rfl⟩ : ∃ a c n, vh1 = .slice a n c := (by obtain ⟨a, c, e, _⟩ := hn.halves.shape; exact ⟨_, _, _, e⟩)); have HN1 := Lib.hid hn; clear hn; clear hm)
            | (go_at_call 29; refine (HQ2.out HM.out).mono ?_; (rintro e wa ⟨rfl, hm⟩); have HS0 := Lib.hid hm; have c0 := cell_of_row HS0.out.box 0; have c1 := cell_of_row HS0.out.box 1; have c2 := cell_of_row HS0.out.box 2; have c3 := cell_of_row HS0.out.box 3; simp [HOE.out] at c0 c1 c2 c3; clear hm))
          go_ret
          exact ⟨by first | rfl | simp, HS9.out.mod⟩

open Go.ChangeShapes Go.WideShapes Go.ChangeAt in
section
variable {H : Type} {enc : TypeId × Value → H} {W : World} {base : Nat} {v : Value} {d : DataW H} {p : List MemPlace}
def InVs (W : World) (v : Value) : Prop := ∃ l, LRd W v l ∧ ∀ s ∈ l, Slim s.x
set_option maxRecDepth 100000 in
theorem in_vs (hv : Value.okWide Try.prog W .any base 26 v) (h : DataW.Trod enc Try.prog W 0 (fun _ => true) true 26 v d p) (hs : okW 26 d) : InVs W v := by
  obtain ⟨a0, len0, cap0, rfl⟩ := okWide_slice Try.underlying26 hv
  obtain ⟨fuel, hf⟩ := h
  obtain ⟨s, e, rl, g⟩ := in_list fuel [.slice a0 len0 cap0] (d, p) rfl (by simpa [Value.cells] using hf) hs
  simp only [List.cons.injEq, and_true] at e
  exact ⟨s.l, e ▸ rl, g⟩
end
theorem moves_all (v0 v1 v2 : Value) (w : World) (h0 : InVs w v0) (h1 : InVs w v1) (h2 : InVtx w v2) : Calls Try.prog 7 #[v0, v1, v2] w fun e w' => e = .returned (.bool true) ∧ Below w.heap.size w w' := by
  obtain ⟨la, ha, za⟩ := h0
  obtain ⟨lb, hb, zb⟩ := h1
  obtain ⟨x, vp, vh, rfl, hv, hz⟩ := h2
  refine Calls.mono (R := fun e w' => e = .returned (.bool true) ∧ Mod (fun _ => False) w w') ?_ (fun _ _ ⟨h, m⟩ => ⟨h, m.toBelow (Nat.le_refl _) (fun _ _ f => f)⟩)
  cases hr : x.right && x.there with
  | true =>
    rw [Bool.and_eq_true] at hr
    exact moves_good v0 v1 la lb x vp vh w hv hz hr.1 hr.2 ha hb za zb
  | false =>
    refine moves_wrong v0 v1 x vp vh w hv hz hr ?_ ?_
    · obtain ⟨a, c, e, _⟩ := ha.row.shape
      exact ⟨_, _, _, e⟩
    · obtain ⟨a, c, e, _⟩ := hb.row.shape
      exact ⟨_, _, _, e⟩
end Go.Proofs.Ytdblilhkojafgaa
