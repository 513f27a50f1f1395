/- The contracts of Split and DocSplit: what each returns for every credit and every number of shares; the world stays. -/
import Derived.Test.YtabhddbfjfomeaaRows
import Derived.WalkKit
import Derived.WalkSpells
import Derived.Lib.Hide
import Derived.Handy
namespace Go.Proofs.Ytabhddbfjfomeaa
set_option linter.unusedVariables false
open Go.RowKit

def spShare (c m : Int) : Int := if m < 0 ∨ 4 < m then 0 else c / (m + 1)
def spRest (c m : Int) : Int := if m < 0 ∨ 4 < m then 0 else if c / (m + 1) = 0 then 0 else c - c / (m + 1) * m
def spErr (c m : Int) : Int := if m < 0 ∨ 4 < m then 1 else if c / (m + 1) = 0 then 4 else 0

theorem ret3 {a b c a' b' c' : Int} (h1 : a = a') (h2 : b = b') (h3 : c = c') : Ending.returned (.tuple #[.int .u64 a, .int .u64 b, .int .i64 c]) = .returned (.tuple #[.int .u64 a', .int .u64 b', .int .i64 c']) := by rw [h1, h2, h3]

theorem split_any (c m : Int) (hc : 0 ≤ c) (hc2 : c < 18446744073709551616) (w : World) :
    Calls Try.prog 8 #[.int .u64 c, .int .i64 m] w fun e w' => e = .returned (.tuple #[.int .u64 (spShare c m), .int .u64 (spRest c m), .int .i64 (spErr c m)]) ∧ w = w' := by
  by_cases h0 : m < 0
  · go_enter Try.func8, Try.ntmps8
    go_wp2
    go_ret3
    exact ⟨ret3 (by simp [spShare, h0]) (by simp [spRest, h0]) (by simp [spErr, h0]), rfl⟩
  by_cases h4 : 4 < m
  · go_enter Try.func8, Try.ntmps8
    go_wp2
    go_ret3
    exact ⟨ret3 (by simp [spShare, h4]) (by simp [spRest, h4]) (by simp [spErr, h4]), rfl⟩
  have hn : ¬ (m < 0 ∨ 4 < m) := by omega
  have hm : m = 0 ∨ m = 1 ∨ m = 2 ∨ m = 3 ∨ m = 4 := by omega
  rcases hm with rfl | rfl | rfl | rfl | rfl
  all_goals
    go_enter Try.func8, Try.ntmps8
    go_wp2
    all_goals
      have hz := ‹(_ == (0 : Int)) = _›
      simp at hz
      go_ret3
      exact ⟨ret3 (by simp [spShare, hz]) (by simp [spRest, hz]) (by simp [spErr, hz]), rfl⟩
end Go.Proofs.Ytabhddbfjfomeaa
