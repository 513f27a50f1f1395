/- gussetlaw23.awake, walked. -/
import Derived.Test.YtdblilhkojafgaaV22
namespace Go.Proofs.Ytdblilhkojafgaa
set_option linter.unusedVariables false
open Go.RowKit

/-- Reports that were told, later on. -/
structure Got (w : World) (vo : Value) (l : List Rep) (wr : World) : Prop where
  mod : Mod (fun _ => False) w wr
  rd : RdS wr 4 vo l.length (rcells l)
theorem Got.more {w wr wy : World} {vo : Value} {l : List Rep} (h : Got w vo l wr) (m : Mod (fun _ => False) wr wy) : Got w vo l wy := ⟨h.mod.trans m, h.rd.keep m⟩

set_option maxRecDepth 100000 in
set_option maxHeartbeats 2000000 in
theorem awake23_any (w : World) :
    Calls Try.prog 10 #[] w fun e w' => e = .returned (.bool true) ∧ Mod (fun _ => False) w w' := by
  go_enter Try.func10, Try.ntmps10
  go_upto_region 2 with (first
      | (go_at_call 31; have hdum := M1; clear hdum; refine (vertex_b _).mono ?_; rintro e w2 ⟨vh2, rfl, hm2, hn2⟩; (obtain ⟨a2, c2, l2, rfl⟩ : ∃ a c n, vh2 = .slice a n c := (by obtain ⟨a, c, e, _⟩ := hn2.halves.shape; exact ⟨_, _, _, e⟩)); have M2 := Lib.hid hm2; have HN2 := Lib.hid hn2; clear hm2 hn2)
      | (go_at_call 31; refine (vertex_a w.heap.size (w.alloc (.cells #[.int .u32 2] 27)) (heap_alloc_new' _ _)).mono ?_; rintro e w1 ⟨vh1, rfl, hm1, hn1⟩; (obtain ⟨a1, c1, l1, rfl⟩ : ∃ a c n, vh1 = .slice a n c := (by obtain ⟨a, c, e, _⟩ := hn1.halves.shape; exact ⟨_, _, _, e⟩)); have M1 := Lib.hid hm1; have HN1 := Lib.hid hn1; clear hm1 hn1)
      | (go_at_call 11; refine (awake_cmp _ _ w1 w2 a1 a2 l1 l2 c1 c2 true HN1.out M2.out HN2.out).mono ?_; rintro e w3 ⟨vo, rfl, ht⟩; (obtain ⟨ao, co, no, rfl⟩ : ∃ a c n, vo = .slice a n c := (by obtain ⟨a, c, e, _⟩ := ht.out.shape; exact ⟨_, _, _, e⟩)); have HT3 : Hid (Got w (.slice ao no co) [⟨if true then 2 else 4, 0, 1, 2⟩] w3) := Lib.hid ⟨((Mod.refl (fun _ => False) _).alloc _).trans (M1.out.trans (((Mod.refl (fun _ => False) _).alloc _).trans (M2.out.trans (((((Mod.refl (fun _ => False) _).alloc _).alloc _).alloc _).trans ht.mod)))), ht.out.rdS⟩; clear ht))
  have HA : Hid (Got w (.slice ao no co) [⟨2, 0, 1, 2⟩] w3) := HT3
  clear HT3 M1 M2 HN1 HN2
  go_upto_region 3 with (first
      | (go_at_call 31; have hdum := M1; clear hdum; refine (vertex_b _).mono ?_; rintro e w2 ⟨vh2, rfl, hm2, hn2⟩; (obtain ⟨a2, c2, l2, rfl⟩ : ∃ a c n, vh2 = .slice a n c := (by obtain ⟨a, c, e, _⟩ := hn2.halves.shape; exact ⟨_, _, _, e⟩)); have M2 := Lib.hid hm2; have HN2 := Lib.hid hn2; clear hm2 hn2)
      | (go_at_call 31; refine (vertex_a w3.heap.size (w3.alloc (.cells #[.int .u32 2] 27)) (heap_alloc_new' _ _)).mono ?_; rintro e w1 ⟨vh1, rfl, hm1, hn1⟩; (obtain ⟨a1, c1, l1, rfl⟩ : ∃ a c n, vh1 = .slice a n c := (by obtain ⟨a, c, e, _⟩ := hn1.halves.shape; exact ⟨_, _, _, e⟩)); have M1 := Lib.hid hm1; have HN1 := Lib.hid hn1; clear hm1 hn1)
      | (go_at_call 11; refine (awake_cmp _ _ w1 w2 a1 a2 l1 l2 c1 c2 false HN1.out M2.out HN2.out).mono ?_; rintro e w4 ⟨vo, rfl, ht⟩; (obtain ⟨ao, co, no, rfl⟩ : ∃ a c n, vo = .slice a n c := (by obtain ⟨a, c, e, _⟩ := ht.out.shape; exact ⟨_, _, _, e⟩)); have HT3 : Hid (Got w3 (.slice ao no co) [⟨if false then 2 else 4, 0, 1, 2⟩] w4) := Lib.hid ⟨((Mod.refl (fun _ => False) _).alloc _).trans (M1.out.trans (((Mod.refl (fun _ => False) _).alloc _).trans (M2.out.trans (((((Mod.refl (fun _ => False) _).alloc _).alloc _).alloc _).trans ht.mod)))), ht.out.rdS⟩; clear ht))

  have HB : Hid (Got w3 _ [⟨4, 0, 1, 2⟩] w4) := HT3
  have HA := Lib.hid (HA.out.more HB.out.mod)
  clear HT3 M1 M2 HN1 HN2
  go_wp2_with (first
    | (go_at_call 32; have hdum := G2; clear hdum; refine (same_yes _ _ [⟨4, 0, 1, 2⟩] (w7.alloc (.cells #[.int .u8 4, .int .i64 0, .int .u32 1, .int .u32 2] 86)) (G2.out.seg.rdS.keep ((Mod.refl (fun _ => False) _).alloc _)) (rd_lit w7 _ #[.int .u8 4, .int .i64 0, .int .u32 1, .int .u32 2] 1 4 _ rfl rfl (by simp [maxLen]) (by simp [Value.oneCell']))).mono ?_; rintro e w8 ⟨rfl, hm⟩; have S2 : Hid (Mod (fun _ => False) w6 w8) := Lib.hid ((G2.out.mod.trans ((Mod.refl (fun _ => False) _).alloc _)).trans hm); clear hm)
    | (go_at_call 33; have hdum := S1; clear hdum; refine (reports_any _ [⟨4, 0, 1, 2⟩] w6 (HB.out.rd.keep S1.out) (by simp)).mono ?_; rintro e w7 ⟨vo, rfl, hg⟩; (obtain ⟨ao, co, no, rfl⟩ : ∃ a c n, vo = .slice a n c := (by obtain ⟨a, c, e, _⟩ := hg.seg.shape; exact ⟨_, _, _, e⟩)); have G2 := Lib.hid hg; clear hg)
    | (go_at_call 32; have hdum := G1; clear hdum; refine (same_yes _ _ [⟨2, 0, 1, 2⟩] (w5.alloc (.cells #[.int .u8 2, .int .i64 0, .int .u32 1, .int .u32 2] 86)) (G1.out.seg.rdS.keep ((Mod.refl (fun _ => False) _).alloc _)) (rd_lit w5 _ #[.int .u8 2, .int .i64 0, .int .u32 1, .int .u32 2] 1 4 _ rfl rfl (by simp [maxLen]) (by simp [Value.oneCell']))).mono ?_; rintro e w6 ⟨rfl, hm⟩; have S1 : Hid (Mod (fun _ => False) w4 w6) := Lib.hid ((G1.out.mod.trans ((Mod.refl (fun _ => False) _).alloc _)).trans hm); clear hm)
    | (go_at_call 33; refine (reports_any _ [⟨2, 0, 1, 2⟩] w4 (HA.out.rd) (by simp)).mono ?_; rintro e w5 ⟨vo, rfl, hg⟩; (obtain ⟨ao, co, no, rfl⟩ : ∃ a c n, vo = .slice a n c := (by obtain ⟨a, c, e, _⟩ := hg.seg.shape; exact ⟨_, _, _, e⟩)); have G1 := Lib.hid hg; clear hg))
  go_ret
  exact ⟨rfl, HA.out.mod.trans (S1.out.trans S2.out)⟩
end Go.Proofs.Ytdblilhkojafgaa
