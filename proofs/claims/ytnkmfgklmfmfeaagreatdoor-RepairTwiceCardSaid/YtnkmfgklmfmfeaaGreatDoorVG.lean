/- VG: what is needed of it (by shake.py). -/
import Derived.Test.YtnkmfgklmfmfeaaGreatDoorVF

/- VG, as far as the seat goes. -/
/- V21, V22 in one. -/
/- gussetlaw23.twins, walked. -/
namespace Go.Proofs.YtnkmfgklmfmfeaaGreatDoor
set_option linter.unusedVariables false
open Go.RowKit
theorem dat_snoc (ls : List Ls) (s : Ls) : dat (ls ++ [s]) = dat ls ++ [s.l.map Vs.x] := by simp [dat]
theorem take_map_succ {α β : Type} (f : α → β) {l : List α} {k : Nat} {x : α} (h : l[k]? = some x) : (l.take (k + 1)).map f = (l.take k).map f ++ [f x] := by
  obtain ⟨h1, h2⟩ := List.getElem?_eq_some_iff.1 h
  rw [List.take_succ_eq_append_getElem h1, h2]; simp
set_option maxRecDepth 100000 in
set_option maxHeartbeats 2000000 in
theorem twins_any (v : Value) (ls : List Ls) (w : World) (hv : LLRd w v ls) (hn : ls.length ≤ 1000) (hl : ∀ s ∈ ls, s.l.length ≤ 1000) (hz : ∀ s ∈ ls, ∀ x ∈ s.l, Slim x.x) :
    Calls Tryz.prog 13 #[v] w fun e w' => ∃ vo ls', e = .returned vo ∧ Mod (fun _ => False) w w' ∧ LLOwn w' vo ls' ∧ dat ls' = dat ls := by
  have HV := Lib.hid hv
  have HLL := Lib.hid hl
  have HZ := Lib.hid hz
  obtain ⟨a, c, rfl, hc1, hc2, -⟩ := hv.row.shape
  clear hv hl hz
  obtain ⟨n, hl⟩ : ∃ n, n = ls.length := ⟨_, rfl⟩
  have HN := Lib.hid hl
  rw [← hl] at HV hc1 hn ⊢
  clear hl
  obtain ⟨i0, hi, hz0, hz1, hz2⟩ := info_parts infoVtx
  have HI : Hid (Tryz.prog.info? 44 = some i0 ∧ i0.zero = some (.agg #[.int .u32 0, .bool false, .slice none 0 0, .slice none 0 0]) ∧ i0.size = 4 ∧ i0.bytes = 56) := ⟨hi, hz0, hz1, hz2⟩
  obtain ⟨j0, hj, hy0, hy1, hy2⟩ := info_parts infoVs
  have HJ : Hid (Tryz.prog.info? 40 = some j0 ∧ j0.zero = some (.slice none 0 0) ∧ j0.size = 1 ∧ j0.bytes = 24) := ⟨hj, hy0, hy1, hy2⟩
  clear hi hz0 hz1 hz2 hj hy0 hy1 hy2
  go_enter Tryz.func13, Tryz.ntmps13
  go_wp2
  go_loopw [11, 3] (fun i o wr => ∃ (k : Nat) (ls' : List Ls), i = .int .i64 k ∧ k ≤ n ∧ TwOut w o ls' wr ∧ dat ls' = dat (ls.take k) ∧ ls'.length = k) (fun i _ _ => n - (intOf i).toNat)
  case atStart => exact ⟨0, [], rfl, Nat.zero_le _, ⟨Mod.refl _ _, LLOwn.nil _, fun b hb => by simp [Value.ownBlock] at hb⟩, rfl, rfl⟩
  case round =>
    obtain ⟨k, ls', rfl, hk, hm, hd, hlk⟩ := hrel
    have HM := Lib.hid hm
    have HD := Lib.hid hd
    have HLK := Lib.hid hlk
    clear hm hd hlk
    obtain ⟨av, cv, nv, hvv⟩ : ∃ ao co no, u3 = .slice ao no co := by
      obtain ⟨a, c, e, _⟩ := HM.out.out.row.shape
      exact ⟨_, _, _, e⟩
    subst hvv
    by_cases hkn : k < n
    · obtain ⟨x, hx⟩ : ∃ x, ls[k]? = some x := ⟨_, List.getElem?_eq_getElem (by rw [← HN.out]; exact hkn)⟩
      obtain ⟨b, off, rfl, hb, p0⟩ := HV.out.ent hx rfl
      have p0 := HM.out.mod.cell p0
      have HL := Lib.hid (HV.out.at hx)
      have HT : Hid (dat (ls.take (k + 1)) = dat (ls.take k) ++ [x.l.map Vs.x]) := Lib.hid (take_map_succ _ hx)
      have hm3 := HLL.out x (List.mem_of_getElem? hx)
      have HZX := Lib.hid (HZ.out x (List.mem_of_getElem? hx))
      clear hx
      obtain ⟨xv, xl⟩ := x
      simp only at p0 HL hm3 HZX HT
      obtain ⟨al, cl, rfl, hcl1, hcl2, -⟩ := HL.out.row.shape
      obtain ⟨m, hm⟩ : ∃ m, m = xl.length := ⟨_, rfl⟩
      have HML := Lib.hid hm
      rw [← hm] at p0 HL hcl1 hm3
      clear hm
      have HS := Lib.hid HM.out.start
      go_wp2
      go_loopw [17, 6] (fun i o wr => ∃ (j : Nat) (l' : List Vs), i = .int .i64 j ∧ j ≤ m ∧ TwIn w (.slice av nv cv) ls' o l' wr ∧ l'.map Vs.x = (xl.take j).map Vs.x ∧ l'.length = j) (fun i _ _ => m - (intOf i).toNat)
      case atStart => exact ⟨0, [], rfl, Nat.zero_le _, HS.out, rfl, rfl⟩
      case round =>
        obtain ⟨j, l', rfl, hj, hm, hd, hlj⟩ := hrel
        have HI2 := Lib.hid hm
        have HD2 := Lib.hid hd
        have HLJ := Lib.hid hlj
        clear hm hd hlj HS HM p0
        obtain ⟨am, cm, nm, hvv⟩ : ∃ ao co no, u6 = .slice ao no co := by
          obtain ⟨a, c, e, _⟩ := HI2.out.mine.row.shape
          exact ⟨_, _, _, e⟩
        subst hvv
        by_cases hjm : j < m
        · obtain ⟨y, hy⟩ : ∃ y, xl[j]? = some y := ⟨_, List.getElem?_eq_getElem (by rw [← HML.out]; exact hjm)⟩
          obtain ⟨bl, offl, rfl, hbl, r0, r1, r2, r3⟩ := HL.out.ent hy rfl
          have r0 := HI2.out.mod.cell r0
          have r1 := HI2.out.mod.cell r1
          have r2 := HI2.out.mod.cell r2
          have r3 := HI2.out.mod.cell r3
          have zbl : bl < wr.heap.size := Nat.lt_of_lt_of_le hbl HI2.out.mod.size
          have HVR := Lib.hid (HL.out.at hy)
          have HTX : Hid ((xl.take (j + 1)).map Vs.x = (xl.take j).map Vs.x ++ [y.x]) := Lib.hid (take_map_succ _ hy)
          have hzy := HZX.out y (List.mem_of_getElem? hy)
          have HTW : Hid (∀ w', Mod (fun _ => False) wr w' → Calls Tryz.prog 32 #[vtxV y.x y.vp y.vh] w' (Twins w' y.x)) := Lib.hid (fun w' mm => twinV_any y.x y.vp y.vh w' (HVR.out.keep (HI2.out.mod.trans mm)) hzy.1 hzy.2)
          clear hy hzy
          obtain ⟨⟨id, there, xs, ys⟩, vp, vh⟩ := y
          obtain ⟨np, ap, cp, rfl⟩ : ∃ np ap cp, vp = .slice ap np cp := by
            obtain ⟨a, c, e, _⟩ := HVR.out.props.shape
            exact ⟨_, _, _, e⟩
          obtain ⟨nh, ah, ch, rfl⟩ : ∃ np ap cp, vh = .slice ap np cp := by
            obtain ⟨a, c, e, _⟩ := HVR.out.halves.shape
            exact ⟨_, _, _, e⟩
          simp only at r0 r1 r2 r3 HTX
          simp only [vtxV] at HTW
          clear HVR
          have HTW1 := Lib.hid (HTW.out _ ((Mod.refl (fun _ => False) wr).alloc (.cells #[.int .u32 (id : Int), .bool there, .slice ap np cp, .slice ah nh ch] 44)))
          have HI3 := Lib.hid (HI2.out.more ((Mod.refl (fun _ => False) wr).alloc (.cells #[.int .u32 (id : Int), .bool there, .slice ap np cp, .slice ah nh ch] 44)))
          have HOM := Lib.hid HI2.out.mine.row.lt
          have HOO := Lib.hid HI2.out.out.row.lt
          clear HTW HI2
          go_wp2_with (first
            | (go_at_call 32; refine HTW1.out.mono ?_; rintro e w5 ⟨vp5, vh5, rfl, hm5, hn5⟩; have HI5 := Lib.hid (HI3.out.more hm5); have HN5 := Lib.hid hn5; have HZ5 := Lib.hid hm5.size; (obtain ⟨a5, c5, n5, rfl⟩ : ∃ a c n, vp5 = .slice a n c := (by obtain ⟨a, c, e, _⟩ := hn5.props.shape; exact ⟨_, _, _, e⟩)); (obtain ⟨a6, c6, n6, rfl⟩ : ∃ a c n, vh5 = .slice a n c := (by obtain ⟨a, c, e, _⟩ := hn5.halves.shape; exact ⟨_, _, _, e⟩)); clear hm5 hn5;
               have HI6 := Lib.hid (HI5.out.more ((Mod.refl (fun _ => False) w5).alloc (.cells #[.int .u32 (id : Int), .bool there, .slice a5 n5 c5, .slice a6 n6 c6] 44)));
               have HV6 := Lib.hid (HN5.out.vown.mod ((Mod.refl (fun _ => False) w5).alloc (.cells #[.int .u32 (id : Int), .bool there, .slice a5 n5 c5, .slice a6 n6 c6] 44)) ⟨fun _ _ f => f, fun _ _ f => f⟩);
               have HSR := Lib.hid (src_cells (w := w5) rfl (size := 4) 44 #[.int .u32 (id : Int), .bool there, .slice a5 n5 c5, .slice a6 n6 c6] rfl (by simp [Value.oneCell'])))
            | (at_builtin; refine wpList_append_seg rfl (.tmp 21) (.tmp 24) 40 rfl i0 _ 4 56 Tryz.underlying40 HI.out.1 HI.out.2.1 HI.out.2.2.1 HI.out.2.2.2 rfl (by decide) rfl HI6.out.mine.row _ 1 _ rfl HSR.out (by have := HLJ.out; unfold maxLen; omega) (by have := HLJ.out; omega) ?_; intro v3 w3 hs3 hg3 ho3;
               have H3 := Lib.hid (HI6.out.app ⟨⟨id, there, xs, ys⟩, .slice a5 n5 c5, .slice a6 n6 c6⟩ (wc := wr.alloc (.cells #[.int .u32 (id : Int), .bool there, .slice ap np cp, .slice ah nh ch] 44)) (Nat.le_trans HZ5.out (by simp)) (fun b hb => by have := HOM.out b hb; simp; omega) (fun b hb => by have := HOO.out b hb; simp; omega) HV6.out HN5.out.newp HN5.out.newh hs3 hg3 ho3); (obtain ⟨a3, c3, n3, rfl⟩ : ∃ a c n, v3 = .slice a n c := (by obtain ⟨a, c, e, _⟩ := hs3.shape; exact ⟨_, _, _, e⟩)); clear hs3 hg3 ho3))
          go_roundw
          case rel => exact ⟨j + 1, _, by go_num, by omega, H3.out, by rw [List.map_append, HTX.out, HD2.out]; rfl, by rw [List.length_append, HLJ.out]; rfl⟩
          case measure => simp [intOf]; omega
        · have HEQ : Hid (l'.map Vs.x = xl.map Vs.x) := Lib.hid (by rw [HD2.out, List.take_of_length_le (by have := HML.out; omega)])
          have HI3 := Lib.hid (HI2.out.more ((Mod.refl (fun _ => False) wr).alloc (.cells #[.slice am nm cm] 40)))
          have HSR := Lib.hid (src_cells (w := wr) rfl (size := 1) 40 #[.slice am nm cm] rfl (by simp [Value.oneCell']))
          have HK : Hid (ls'.length + 1 ≤ 1000) := Lib.hid (by have := HLK.out; omega)
          go_wp2_with (at_builtin; refine wpList_append_seg rfl (.tmp 27) (.tmp 29) 38 rfl j0 _ 1 24 Tryz.underlying38 HJ.out.1 HJ.out.2.1 HJ.out.2.2.1 HJ.out.2.2.2 rfl (by decide) rfl HI3.out.out.row _ 1 _ rfl HSR.out (by have := HK.out; unfold maxLen; omega) (by have := HK.out; omega) ?_; intro v3 w3 hs3 hg3 ho3; have H3 := Lib.hid (HI3.out.close hs3 hg3 ho3); (obtain ⟨a3, c3, n3, rfl⟩ : ∃ a c n, v3 = .slice a n c := (by obtain ⟨a, c, e, _⟩ := hs3.shape; exact ⟨_, _, _, e⟩)); clear hs3 hg3 ho3)
          go_roundw
          case rel => exact ⟨k + 1, _, by go_num, by omega, H3.out, by rw [dat_snoc, HT.out, HD.out, HEQ.out], by rw [List.length_append, HLK.out]; rfl⟩
          case measure => simp [intOf]; omega
    · have HT : Hid (dat ls' = dat ls) := Lib.hid (by rw [HD.out, List.take_of_length_le (by have := HN.out; omega)])
      go_wp2
      go_ret
      exact ⟨_, _, rfl, HM.out.mod, HM.out.out, HT.out⟩
end Go.Proofs.YtnkmfgklmfmfeaaGreatDoor
/- gussetlaw23.awake. -/
namespace Go.Proofs.YtnkmfgklmfmfeaaGreatDoor
set_option linter.unusedVariables false
open Go.RowKit
def va : Vtx := ⟨1, true, [], [farE 2]⟩
def vb : Vtx := ⟨2, true, [], []⟩
theorem vertex_a (b : Nat) (w : World) (hb : w.heap[b]? = some (.cells #[.int .u32 2] 28 (0, 0))) :
    Calls Tryz.prog 15 #[.int .u32 1, .slice (some ⟨b, 0, none⟩) 1 1] w fun e w' => ∃ vh, e = .returned (.agg #[.int .u32 1, .bool true, .slice none 0 0, vh]) ∧ Mod (fun _ => False) w w' ∧ VNew w w' (.slice none 0 0) vh va :=
  vertex_any 1 _ [2] w (by omega) (by simp) ⟨rfl, ⟨_, _, rfl, Nat.le_refl _, by simp, fun h => by cases h⟩, fun a c e j u hu => by
    injection e with e1 e2 e3
    refine ⟨b, 0, e1.symm, lt_of_block hb, ?_⟩
    match j, hu with
    | 0, hu => simp at hu; subst hu; exact cell_of_row hb 0⟩ (by simp)
theorem vertex_b (w : World) :
    Calls Tryz.prog 15 #[.int .u32 2, .slice none 0 0] w fun e w' => ∃ vh, e = .returned (.agg #[.int .u32 2, .bool true, .slice none 0 0, vh]) ∧ Mod (fun _ => False) w w' ∧ VNew w w' (.slice none 0 0) vh vb :=
  vertex_any 2 _ [] w (by omega) (by simp) ⟨rfl, ⟨_, _, rfl, Nat.le_refl _, by simp, fun _ => rfl⟩, fun a c e j u hu => by simp at hu⟩ (by simp)
theorem rd_lit (w : World) (t : TypeId) (cs : Array Value) (n size n0 : Nat) (h0 : w.heap.size = n0) (hs : cs.size = n * size) (hn : n ≤ maxLen) (h1 : ∀ u ∈ cs.toList, u.oneCell' = true) : RdS (w.alloc (.cells cs t)) size (.slice (some ⟨n0, 0, none⟩) n n) n cs.toList := by
  subst h0
  exact (Seg.lit (e := t) (size := size) w cs n hs hn h1).rdS
def lsA (w1 w2 : World) (v1 v2 : Value) : List Ls := [⟨.slice (some ⟨w1.heap.size, 0, none⟩) 1 1, [⟨va, .slice none 0 0, v1⟩]⟩, ⟨.slice (some ⟨w2.heap.size, 0, none⟩) 1 1, [⟨vb, .slice none 0 0, v2⟩]⟩]
theorem awake_rd (w0 w0' w1 w2 : World) (a1 a2 : Option Addr) (l1 l2 c1 c2 : Nat) (u : Bool) (h1 : VNew w0 w1 (.slice none 0 0) (.slice a1 l1 c1) va) (m : Mod (fun _ => False) (w1.alloc (.cells #[.int .u32 1, .bool true, .slice none 0 0, .slice a1 l1 c1] 44)) w2) (h2 : VNew w0' w2 (.slice none 0 0) (.slice a2 l2 c2) vb) :
    LLRd (((w2.alloc (.cells #[.int .u32 2, .bool true, .slice none 0 0, .slice a2 l2 c2] 44)).alloc (.cells #[.slice (some ⟨w1.heap.size, 0, none⟩) 1 1, .slice (some ⟨w2.heap.size, 0, none⟩) 1 1] 40)).alloc (.cells #[.bool true, .bool u] 4)) (.slice (some ⟨w2.heap.size + 1, 0, none⟩) 2 2) (lsA w1 w2 (.slice a1 l1 c1) (.slice a2 l2 c2)) ∧
    FRd (((w2.alloc (.cells #[.int .u32 2, .bool true, .slice none 0 0, .slice a2 l2 c2] 44)).alloc (.cells #[.slice (some ⟨w1.heap.size, 0, none⟩) 1 1, .slice (some ⟨w2.heap.size, 0, none⟩) 1 1] 40)).alloc (.cells #[.bool true, .bool u] 4)) (.slice (some ⟨w2.heap.size + 1 + 1, 0, none⟩) 2 2) [true, u] := by
  have mA : Mod (fun _ => False) w2 (((w2.alloc (.cells #[.int .u32 2, .bool true, .slice none 0 0, .slice a2 l2 c2] 44)).alloc (.cells #[.slice (some ⟨w1.heap.size, 0, none⟩) 1 1, .slice (some ⟨w2.heap.size, 0, none⟩) 1 1] 40)).alloc (.cells #[.bool true, .bool u] 4)) := (((Mod.refl _ _).alloc _).alloc _).alloc _
  have m1 : Mod (fun _ => False) w1 w2 := ((Mod.refl (fun _ => False) w1).alloc _).trans m
  refine ⟨⟨?_, ?_⟩, ?_⟩
  · exact ((rd_lit _ _ #[.slice (some ⟨w1.heap.size, 0, none⟩) 1 1, .slice (some ⟨w2.heap.size, 0, none⟩) 1 1] 2 1 (w2.heap.size + 1) (by simp) rfl (by simp [maxLen]) (by simp [Value.oneCell'])).keep ((Mod.refl (fun _ => False) _).alloc _))
  · intro s hs
    simp only [lsA, List.mem_cons, List.not_mem_nil, or_false] at hs
    rcases hs with rfl | rfl
    · refine ⟨?_, ?_⟩
      · exact ((rd_lit w1 _ #[.int .u32 1, .bool true, .slice none 0 0, .slice a1 l1 c1] 1 4 _ rfl rfl (by simp [maxLen]) (by simp [Value.oneCell'])).keep m).keep mA
      · intro s hs; simp only [List.mem_cons, List.not_mem_nil, or_false] at hs; subst hs
        exact (h1.rd.keep m1).keep mA
    · refine ⟨?_, ?_⟩
      · exact ((rd_lit w2 _ #[.int .u32 2, .bool true, .slice none 0 0, .slice a2 l2 c2] 1 4 _ rfl rfl (by simp [maxLen]) (by simp [Value.oneCell'])).keep ((Mod.refl (fun _ => False) _).alloc _)).keep ((Mod.refl (fun _ => False) _).alloc _)
      · intro s hs; simp only [List.mem_cons, List.not_mem_nil, or_false] at hs; subst hs
        exact h2.rd.keep mA
  · exact rd_lit _ _ #[.bool true, .bool u] 2 1 (w2.heap.size + 1 + 1) (by simp) rfl (by simp [maxLen]) (by simp [Value.oneCell'])
theorem awake_ok (w1 w2 : World) (v1 v2 : Value) : (lsA w1 w2 v1 v2).any notOK = false := by
  simp [lsA, notOK, listOK, va, vb, Vtx.right, numB, above, chain, farE, halfOK, Val.ok, ByteArray.toList_eq]
theorem awake_reps (w1 w2 : World) (v1 v2 : Value) (u : Bool) : allR (held [true, u] 0 (lsA w1 w2 v1 v2)) (![true, u].any (!·)) = [⟨if u then 2 else 4, 0, 1, 2⟩] := by
  cases u <;> simp [lsA, held, allR, repOf, preR, halfR, judgeN, seatF, va, vb, farE]
theorem awake_cmp (w0 w0' w1 w2 : World) (a1 a2 : Option Addr) (l1 l2 c1 c2 : Nat) (u : Bool) (h1 : VNew w0 w1 (.slice none 0 0) (.slice a1 l1 c1) va) (m : Mod (fun _ => False) (w1.alloc (.cells #[.int .u32 1, .bool true, .slice none 0 0, .slice a1 l1 c1] 44)) w2) (h2 : VNew w0' w2 (.slice none 0 0) (.slice a2 l2 c2) vb) :
    Calls Tryz.prog 12 #[.slice (some ⟨w2.heap.size + 1, 0, none⟩) 2 2, .slice (some ⟨w2.heap.size + 1 + 1, 0, none⟩) 2 2] (((w2.alloc (.cells #[.int .u32 2, .bool true, .slice none 0 0, .slice a2 l2 c2] 44)).alloc (.cells #[.slice (some ⟨w1.heap.size, 0, none⟩) 1 1, .slice (some ⟨w2.heap.size, 0, none⟩) 1 1] 40)).alloc (.cells #[.bool true, .bool u] 4)) fun e w' => ∃ vo, e = .returned (.tuple #[vo, .int .i64 0]) ∧ Told (((w2.alloc (.cells #[.int .u32 2, .bool true, .slice none 0 0, .slice a2 l2 c2] 44)).alloc (.cells #[.slice (some ⟨w1.heap.size, 0, none⟩) 1 1, .slice (some ⟨w2.heap.size, 0, none⟩) 1 1] 40)).alloc (.cells #[.bool true, .bool u] 4)) vo [⟨if u then 2 else 4, 0, 1, 2⟩] w' := by
  obtain ⟨hr, hf⟩ := awake_rd w0 w0' w1 w2 a1 a2 l1 l2 c1 c2 u h1 m h2
  have h := compare_good _ _ _ [true, u] _ hr hf rfl (by simp [lsA]) (by simp [lsA]) (awake_ok _ _ _ _) (by cases u <;> simp [lsA, held, maxLen]) (by rw [awake_reps]; simp)
  rw [awake_reps] at h
  exact h
end Go.Proofs.YtnkmfgklmfmfeaaGreatDoor
