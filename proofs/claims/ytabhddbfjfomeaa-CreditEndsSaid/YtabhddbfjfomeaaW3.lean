/- The contracts of awake and DocSplit, and the walk of CreditSplits. -/
import Derived.Test.YtabhddbfjfomeaaW2
namespace Go.Proofs.Ytabhddbfjfomeaa
set_option linter.unusedVariables false
open Go.RowKit Go.Maps
theorem split_ten (w : World) : Calls Try.prog 8 #[.int .u64 10, .int .i64 3] w fun e w' => e = .returned (.tuple #[.int .u64 2, .int .u64 4, .int .i64 0]) ∧ w = w' :=
  (split_any 10 3 (by omega) (by omega) w).mono fun _ _ h => h
theorem awake_any (w : World) : Calls Try.prog 7 #[] w fun e w' => e = .returned (.bool true) ∧ Mod (fun _ => False) w w' := by
  go_enter Try.func7, Try.ntmps7
  go_wp2_with fail
  refine (split_ten _).mono ?_
  rintro e w' ⟨rfl, rfl⟩
  go_wp2_with fail
  refine (new_any _).mono ?_
  rintro e w' ⟨rfl, rfl⟩
  have hP := new_pool w
  have hM : Mod (fun _ => False) w ((w.alloc (.map #[] 0)).alloc (.cells #[.int .u64 1152921504606846976, .map (some w.heap.size)] 45)) := ((Mod.refl _ _).alloc _).alloc _
  generalize (w.alloc (.map #[] 0)).alloc (.cells #[.int .u64 1152921504606846976, .map (some w.heap.size)] 45) = w1 at hP hM ⊢
  have HP := Lib.hid hP
  have HM := Lib.hid hM
  clear hP hM
  go_wp2_with fail
  refine (back_new w1 _ _ _ 0 1 _ 0 _ HP.out (by decide) (by decide) rfl (Int.le_refl _) (by decide) (by decide) (by decide)).mono ?_
  rintro e w2 ⟨rfl, hP2, hM2⟩
  have HP2 := Lib.hid hP2
  have HM2 := Lib.hid hM2
  clear hP2 hM2
  go_wp2_with fail
  refine (done_any w2 _ _ _ _ _ HP2.out).mono ?_
  rintro e w' ⟨rfl, rfl⟩
  go_wp2
  go_ret
  refine ⟨by simp, HM.out.trans' HM2.out ?_⟩
  intro i hi h
  rcases h with h | h <;> omega

theorem docsplit_any (c m : Int) (hc : 0 ≤ c) (hc2 : c < 18446744073709551616) (w : World) :
    Calls Try.prog 9 #[.int .u64 c, .int .i64 m] w fun e w' => e = .returned (.tuple #[.int .u64 (spShare c m), .int .u64 (spRest c m), .int .i64 (spErr c m)]) ∧ w = w' := by
  by_cases h0 : m < 0
  · go_enter Try.func9, Try.ntmps9
    go_wp2
    go_ret3
    exact ⟨ret3 (by simp [spShare, h0]) (by simp [spRest, h0]) (by simp [spErr, h0]), rfl⟩
  by_cases h4 : 4 < m
  · go_enter Try.func9, Try.ntmps9
    go_wp2
    go_ret3
    exact ⟨ret3 (by simp [spShare, h4]) (by simp [spRest, h4]) (by simp [spErr, h4]), rfl⟩
  have hn : ¬ (m < 0 ∨ 4 < m) := by omega
  have hm : m = 0 ∨ m = 1 ∨ m = 2 ∨ m = 3 ∨ m = 4 := by omega
  rcases hm with rfl | rfl | rfl | rfl | rfl
  all_goals
    go_enter Try.func9, Try.ntmps9
    go_wp2
    all_goals
      have hz := ‹(_ == (0 : Int)) = _›
      simp at hz
      go_ret3
      refine ⟨ret3 ?_ ?_ ?_, rfl⟩
      · simp [spShare]; try omega
      · simp [spRest]; first | done | omega | (intro; omega) | (rw [if_pos (by omega)]) | (rw [if_neg (by omega)]; omega)
      · simp [spErr]; first | done | omega

theorem split_bad (c m : Int) (hc : 0 ≤ c) (hc2 : c < 18446744073709551616) (hm : m < 0 ∨ 4 < m) (w : World) :
    Calls Try.prog 8 #[.int .u64 c, .int .i64 m] w fun e w' => e = .returned (.tuple #[.int .u64 0, .int .u64 0, .int .i64 1]) ∧ w = w' :=
  (split_any c m hc hc2 w).mono fun _ _ ⟨h, h'⟩ => ⟨h.trans (ret3 (by simp [spShare, hm]) (by simp [spRest, hm]) (by simp [spErr, hm])), h'⟩
theorem split_none (c m : Int) (hc : 0 ≤ c) (hc2 : c < 18446744073709551616) (hm : ¬ (m < 0 ∨ 4 < m)) (hz : c / (m + 1) = 0) (w : World) :
    Calls Try.prog 8 #[.int .u64 c, .int .i64 m] w fun e w' => e = .returned (.tuple #[.int .u64 0, .int .u64 0, .int .i64 4]) ∧ w = w' :=
  (split_any c m hc hc2 w).mono fun _ _ ⟨h, h'⟩ => ⟨h.trans (ret3 (by simp [spShare, hm, hz]) (by simp [spRest, hm, hz]) (by simp [spErr, hm, hz])), h'⟩
theorem split_some (c m : Int) (hc : 0 ≤ c) (hc2 : c < 18446744073709551616) (hm : ¬ (m < 0 ∨ 4 < m)) (hz : ¬ c / (m + 1) = 0) (w : World) :
    Calls Try.prog 8 #[.int .u64 c, .int .i64 m] w fun e w' => e = .returned (.tuple #[.int .u64 (c / (m + 1)), .int .u64 (c - c / (m + 1) * m), .int .i64 0]) ∧ w = w' :=
  (split_any c m hc hc2 w).mono fun _ _ ⟨h, h'⟩ => ⟨h.trans (ret3 (by simp [spShare, hm]) (by simp [spRest, hm, hz]) (by simp [spErr, hm, hz])), h'⟩
theorem docsplit_bad (c m : Int) (hc : 0 ≤ c) (hc2 : c < 18446744073709551616) (hm : m < 0 ∨ 4 < m) (w : World) :
    Calls Try.prog 9 #[.int .u64 c, .int .i64 m] w fun e w' => e = .returned (.tuple #[.int .u64 0, .int .u64 0, .int .i64 1]) ∧ w = w' :=
  (docsplit_any c m hc hc2 w).mono fun _ _ ⟨h, h'⟩ => ⟨h.trans (ret3 (by simp [spShare, hm]) (by simp [spRest, hm]) (by simp [spErr, hm])), h'⟩
theorem docsplit_none (c m : Int) (hc : 0 ≤ c) (hc2 : c < 18446744073709551616) (hm : ¬ (m < 0 ∨ 4 < m)) (hz : c / (m + 1) = 0) (w : World) :
    Calls Try.prog 9 #[.int .u64 c, .int .i64 m] w fun e w' => e = .returned (.tuple #[.int .u64 0, .int .u64 0, .int .i64 4]) ∧ w = w' :=
  (docsplit_any c m hc hc2 w).mono fun _ _ ⟨h, h'⟩ => ⟨h.trans (ret3 (by simp [spShare, hm, hz]) (by simp [spRest, hm, hz]) (by simp [spErr, hm, hz])), h'⟩
theorem docsplit_some (c m : Int) (hc : 0 ≤ c) (hc2 : c < 18446744073709551616) (hm : ¬ (m < 0 ∨ 4 < m)) (hz : ¬ c / (m + 1) = 0) (w : World) :
    Calls Try.prog 9 #[.int .u64 c, .int .i64 m] w fun e w' => e = .returned (.tuple #[.int .u64 (c / (m + 1)), .int .u64 (c - c / (m + 1) * m), .int .i64 0]) ∧ w = w' :=
  (docsplit_any c m hc hc2 w).mono fun _ _ ⟨h, h'⟩ => ⟨h.trans (ret3 (by simp [spShare, hm]) (by simp [spRest, hm, hz]) (by simp [spErr, hm, hz])), h'⟩

theorem splits_walk (c m : Int) (w0 : (Lit.int .u64 c).wf = true) (w1 : (Lit.int .i64 m).wf = true) (w : World) :
    Calls Try.prog 3 #[.int .u64 c, .int .i64 m] w fun e w' => e = .returned (.bool true) ∧ Mod (fun _ => False) w w' := by
  have hb : 0 ≤ c ∧ c < 18446744073709551616 := by simp [Lit.wf, IntKind.min, IntKind.max, IntKind.signed, IntKind.bits] at w0; omega
  obtain ⟨hc, hc2⟩ := hb
  clear w0
  by_cases hm : m < 0 ∨ 4 < m
  · go_enter Try.func3, Try.ntmps3
    go_wp2_with fail
    refine (awake_any _).mono ?_
    rintro e w2 ⟨rfl, hM⟩
    have HM := Lib.hid hM
    clear hM
    go_wp2_with fail
    refine (split_bad c m hc hc2 hm _).mono ?_
    rintro e w' ⟨rfl, rfl⟩
    go_wp2_with fail
    refine (docsplit_bad c m hc hc2 hm _).mono ?_
    rintro e w' ⟨rfl, rfl⟩
    go_wp2
    go_ret
    exact ⟨rfl, HM.out⟩
  by_cases hz : c / (m + 1) = 0
  · have HZ := Lib.hid hz
    clear hz
    go_enter Try.func3, Try.ntmps3
    go_wp2_with fail
    refine (awake_any _).mono ?_
    rintro e w2 ⟨rfl, hM⟩
    have HM := Lib.hid hM
    clear hM
    go_wp2_with fail
    refine (split_none c m hc hc2 hm HZ.out _).mono ?_
    rintro e w' ⟨rfl, rfl⟩
    go_wp2_with fail
    refine (docsplit_none c m hc hc2 hm HZ.out _).mono ?_
    rintro e w' ⟨rfl, rfl⟩
    go_wp2
    go_ret
    exact ⟨rfl, HM.out⟩
  have HZ := Lib.hid hz
  clear hz
  have HN := Lib.hid hm
  have hm' : m = 0 ∨ m = 1 ∨ m = 2 ∨ m = 3 ∨ m = 4 := by omega
  clear hm
  rcases hm' with rfl | rfl | rfl | rfl | rfl
  all_goals
    go_enter Try.func3, Try.ntmps3
    go_wp2_with fail
    refine (awake_any _).mono ?_
    rintro e w2 ⟨rfl, hM⟩
    have HM := Lib.hid hM
    clear hM
    go_wp2_with fail
    refine (split_some c _ hc hc2 HN.out HZ.out _).mono ?_
    rintro e w' ⟨rfl, rfl⟩
    go_wp2_with fail
    refine (docsplit_some c _ hc hc2 HN.out HZ.out _).mono ?_
    rintro e w' ⟨rfl, rfl⟩
    go_wp2
    go_ret
    exact ⟨by simp; try omega, HM.out⟩
end Go.Proofs.Ytabhddbfjfomeaa
