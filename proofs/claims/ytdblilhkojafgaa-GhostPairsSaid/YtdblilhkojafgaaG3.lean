/- gussetlaw12.twins, walked. -/
import Derived.Test.YtdblilhkojafgaaVG
namespace Go.Proofs.Ytdblilhkojafgaa
set_option linter.unusedVariables false
open Go.RowKit

set_option maxRecDepth 100000 in
set_option maxHeartbeats 2000000 in
theorem twins12_any (v : Value) (xl : List Vs) (w : World) (hv : LRd w v xl) (hn : xl.length ≤ 1000) (hz : ∀ x ∈ xl, Slim x.x) :
    Calls Try.prog 17 #[v] w fun e w' => ∃ vo l', e = .returned vo ∧ Mod (fun _ => False) w w' ∧ LOwn w' vo l' ∧ l'.map Vs.x = xl.map Vs.x := by
  have HL := Lib.hid hv
  have HZX := Lib.hid hz
  obtain ⟨al, cl, rfl, hcl1, hcl2, -⟩ := hv.row.shape
  clear hv hz
  obtain ⟨m, hl⟩ : ∃ n, n = xl.length := ⟨_, rfl⟩
  have HML := Lib.hid hl
  rw [← hl] at HL hcl1 hn ⊢
  clear hl
  obtain ⟨i0, hi, hz0, hz1, hz2⟩ := info_parts infoVtx
  have HI : Hid (Try.prog.info? 31 = some i0 ∧ i0.zero = some (.agg #[.int .u32 0, .bool false, .slice none 0 0, .slice none 0 0]) ∧ i0.size = 4 ∧ i0.bytes = 56) := ⟨hi, hz0, hz1, hz2⟩
  clear hi hz0 hz1 hz2
  have HS : Hid (TwIn w (.slice none 0 0) [] (.slice none 0 0) [] w) := Lib.hid (TwOut.start ⟨Mod.refl _ _, LLOwn.nil _, fun b hb => by simp [Value.ownBlock] at hb⟩)
  go_enter Try.func17, Try.ntmps17
  go_wp2
  go_loopw [8, 3] (fun i o wr => ∃ (j : Nat) (l' : List Vs), i = .int .i64 j ∧ j ≤ m ∧ TwIn w (.slice none 0 0) [] o l' wr ∧ l'.map Vs.x = (xl.take j).map Vs.x ∧ l'.length = j) (fun i _ _ => m - (intOf i).toNat)
  case atStart => exact ⟨0, [], rfl, Nat.zero_le _, HS.out, rfl, rfl⟩
  case round =>
    obtain ⟨j, l', rfl, hj, hm, hd, hlj⟩ := hrel
    have HI2 := Lib.hid hm
    have HD2 := Lib.hid hd
    have HLJ := Lib.hid hlj
    clear hm hd hlj HS
    obtain ⟨am, cm, nm, hvv⟩ : ∃ ao co no, u3 = .slice ao no co := by
      obtain ⟨a, c, e, _⟩ := HI2.out.mine.row.shape
      exact ⟨_, _, _, e⟩
    subst hvv
    by_cases hjm : j < m
    · obtain ⟨y, hy⟩ : ∃ y, xl[j]? = some y := ⟨_, List.getElem?_eq_getElem (by rw [← HML.out]; exact hjm)⟩
      obtain ⟨bl, offl, rfl, hbl, r0, r1, r2, r3⟩ := HL.out.ent hy rfl
      have r0 := HI2.out.mod.cell r0
      have r1 := HI2.out.mod.cell r1
      have r2 := HI2.out.mod.cell r2
      have r3 := HI2.out.mod.cell r3
      have zbl : bl < wr.heap.size := Nat.lt_of_lt_of_le hbl HI2.out.mod.size
      have HVR := Lib.hid (HL.out.at hy)
      have HTX : Hid ((xl.take (j + 1)).map Vs.x = (xl.take j).map Vs.x ++ [y.x]) := Lib.hid (take_map_succ _ hy)
      have hzy := HZX.out y (List.mem_of_getElem? hy)
      have HTW : Hid (∀ w', Mod (fun _ => False) wr w' → Calls Try.prog 15 #[vtxV y.x y.vp y.vh] w' (Twins w' y.x)) := Lib.hid (fun w' mm => twinV_any y.x y.vp y.vh w' (HVR.out.keep (HI2.out.mod.trans mm)) hzy.1 hzy.2)
      clear hy hzy
      obtain ⟨⟨id, there, xs, ys⟩, vp, vh⟩ := y
      obtain ⟨np, ap, cp, rfl⟩ : ∃ np ap cp, vp = .slice ap np cp := by
        obtain ⟨a, c, e, _⟩ := HVR.out.props.shape
        exact ⟨_, _, _, e⟩
      obtain ⟨nh, ah, ch, rfl⟩ : ∃ np ap cp, vh = .slice ap np cp := by
        obtain ⟨a, c, e, _⟩ := HVR.out.halves.shape
        exact ⟨_, _, _, e⟩
      simp only at r0 r1 r2 r3 HTX
      simp only [vtxV] at HTW
      clear HVR
      have HTW1 := Lib.hid (HTW.out _ ((Mod.refl (fun _ => False) wr).alloc (.cells #[.int .u32 (id : Int), .bool there, .slice ap np cp, .slice ah nh ch] 31)))
      have HI3 := Lib.hid (HI2.out.more ((Mod.refl (fun _ => False) wr).alloc (.cells #[.int .u32 (id : Int), .bool there, .slice ap np cp, .slice ah nh ch] 31)))
      have HOM := Lib.hid HI2.out.mine.row.lt
      have HOO := Lib.hid HI2.out.out.row.lt
      clear HTW HI2
      go_wp2_with (first
        | (go_at_call 15; refine HTW1.out.mono ?_; rintro e w5 ⟨vp5, vh5, rfl, hm5, hn5⟩; have HI5 := Lib.hid (HI3.out.more hm5); have HN5 := Lib.hid hn5; have HZ5 := Lib.hid hm5.size; (obtain ⟨a5, c5, n5, rfl⟩ : ∃ a c n, vp5 = .slice a n c := (by obtain ⟨a, c, e, _⟩ := hn5.props.shape; exact ⟨_, _, _, e⟩)); (obtain ⟨a6, c6, n6, rfl⟩ : ∃ a c n, vh5 = .slice a n c := (by obtain ⟨a, c, e, _⟩ := hn5.halves.shape; exact ⟨_, _, _, e⟩)); clear hm5 hn5;
           have HI6 := Lib.hid (HI5.out.more ((Mod.refl (fun _ => False) w5).alloc (.cells #[.int .u32 (id : Int), .bool there, .slice a5 n5 c5, .slice a6 n6 c6] 31)));
           have HV6 := Lib.hid (HN5.out.vown.mod ((Mod.refl (fun _ => False) w5).alloc (.cells #[.int .u32 (id : Int), .bool there, .slice a5 n5 c5, .slice a6 n6 c6] 31)) ⟨fun _ _ f => f, fun _ _ f => f⟩);
           have HSR := Lib.hid (src_cells (w := w5) rfl (size := 4) 31 #[.int .u32 (id : Int), .bool there, .slice a5 n5 c5, .slice a6 n6 c6] rfl (by simp [Value.oneCell'])))
        | (at_builtin; refine wpList_append_seg rfl (.tmp 12) (.tmp 15) 26 rfl i0 _ 4 56 Try.underlying26 HI.out.1 HI.out.2.1 HI.out.2.2.1 HI.out.2.2.2 rfl (by decide) rfl HI6.out.mine.row _ 1 _ rfl HSR.out (by have := HLJ.out; unfold maxLen; omega) (by have := HLJ.out; omega) ?_; intro v3 w3 hs3 hg3 ho3;
           have H3 := Lib.hid (HI6.out.app ⟨⟨id, there, xs, ys⟩, .slice a5 n5 c5, .slice a6 n6 c6⟩ (wc := wr.alloc (.cells #[.int .u32 (id : Int), .bool there, .slice ap np cp, .slice ah nh ch] 31)) (Nat.le_trans HZ5.out (by simp)) (fun b hb => by have := HOM.out b hb; simp; omega) (fun b hb => by have := HOO.out b hb; simp; omega) HV6.out HN5.out.newp HN5.out.newh hs3 hg3 ho3); (obtain ⟨a3, c3, n3, rfl⟩ : ∃ a c n, v3 = .slice a n c := (by obtain ⟨a, c, e, _⟩ := hs3.shape; exact ⟨_, _, _, e⟩)); clear hs3 hg3 ho3))
      go_roundw
      case rel => exact ⟨j + 1, _, by go_num, by omega, H3.out, by rw [List.map_append, HTX.out, HD2.out]; rfl, by rw [List.length_append, HLJ.out]; rfl⟩
      case measure => simp [intOf]; omega
    · have HEQ : Hid (l'.map Vs.x = xl.map Vs.x) := Lib.hid (by rw [HD2.out, List.take_of_length_le (by have := HML.out; omega)])
      go_wp2
      go_ret
      exact ⟨_, _, rfl, HI2.out.mod, HI2.out.mine, HEQ.out⟩
end Go.Proofs.Ytdblilhkojafgaa
