/- gussetlaw23.RepairTurns, walked. -/
import Derived.Test.YtdblilhkojafgaaV25
namespace Go.Proofs.Ytdblilhkojafgaa
set_option linter.unusedVariables false
open Go.RowKit

set_option maxRecDepth 100000 in
set_option maxHeartbeats 1000000 in
theorem turns_zero (a au : Option Addr) (c cu nu : Nat) (t : Nat) (w : World) :
    Calls Try.prog 3 #[.slice a 0 c, .slice au nu cu, .int .u8 (t : Int)] w fun e w' => e = .returned (.bool true) ∧ Mod (fun _ => False) w w' := by
  go_enter Try.func3, Try.ntmps3
  go_wp2_with (go_at_call 10; refine (awake23_any _).mono ?_; rintro e w3 ⟨rfl, hm⟩; have M3 := Lib.hid hm; clear hm)
  go_ret
  exact ⟨rfl, M3.out⟩
set_option maxRecDepth 100000 in
set_option maxHeartbeats 1000000 in
theorem turns_many (a au : Option Addr) (n c cu nu : Nat) (t : Nat) (w : World) (hn : 4 < n) (h63 : n ≤ 9223372036854775807) :
    Calls Try.prog 3 #[.slice a n c, .slice au nu cu, .int .u8 (t : Int)] w fun e w' => e = .returned (.bool true) ∧ Mod (fun _ => False) w w' := by
  have t1 : (4 : Int) < (n : Int) := by omega
  have t2 : ¬ ((n : Int) = 0) := by omega
  have t3 : ¬ (n = 0) := by omega
  clear hn
  go_enter Try.func3, Try.ntmps3
  go_wp2_with (go_at_call 10; refine (awake23_any _).mono ?_; rintro e w3 ⟨rfl, hm⟩; have M3 := Lib.hid hm; clear hm)
  go_ret
  exact ⟨rfl, M3.out⟩
set_option maxRecDepth 100000 in
set_option maxHeartbeats 1000000 in
theorem turns_unlike (a au : Option Addr) (n c cu nu : Nat) (t : Nat) (w : World) (h0 : 0 < n) (hn : n ≤ 4) (hnu : nu ≠ n) (h63 : nu ≤ 9223372036854775807) :
    Calls Try.prog 3 #[.slice a n c, .slice au nu cu, .int .u8 (t : Int)] w fun e w' => e = .returned (.bool true) ∧ Mod (fun _ => False) w w' := by
  have t1 : ¬ (4 : Int) < (n : Int) := by omega
  have t2 : ¬ ((n : Int) = 0) := by omega
  have t3 : ¬ (n = 0) := by omega
  have t4 : ((nu : Int) != (n : Int)) = true := by simp; omega
  have t5 : ((n : Int) == 0) = false := by simp; omega
  have t6 : decide ((4 : Int) < (n : Int)) = false := by simp; omega
  clear hn hnu h0
  go_enter Try.func3, Try.ntmps3
  go_wp2_with (go_at_call 10; refine (awake23_any _).mono ?_; rintro e w3 ⟨rfl, hm⟩; have M3 := Lib.hid hm; clear hm)
  go_ret
  exact ⟨rfl, M3.out⟩

theorem flatV_succ {ls : List Ls} {k : Nat} {x : Ls} (h : ls[k]? = some x) : flatV (ls.take (k + 1)) = flatV (ls.take k) ++ x.l := flat_succ _ h
theorem idsV_app (l m : List Vs) : idsV (l ++ m) = idsV l ++ idsV m := by simp [idsV]
theorem idsV_len (l : List Vs) : (idsV l).length = l.length := by simp [idsV]
theorem ids_dat (ls : List Ls) : idsV (flatV ls) = (dat ls).flatten.map Vtx.id := by
  induction ls with
  | nil => rfl
  | cons s r ih =>
    simp only [flatV, List.flatMap_cons, idsV_app, dat, List.map_cons, List.flatten_cons, List.map_append] at ih ⊢
    rw [ih]
    simp [idsV]
def SmallV (ls : List Ls) : Prop := ∀ s ∈ ls, s.l.length ≤ 20 ∧ ∀ x ∈ s.l, x.x.halves.length ≤ 60
theorem SmallV.dat {ls : List Ls} (h : SmallV ls) : Small (dat ls) := fun l hl => by
  obtain ⟨s, hs, rfl⟩ := List.mem_map.1 hl
  refine ⟨by simpa using (h s hs).1, fun x hx => ?_⟩
  obtain ⟨y, hy, rfl⟩ := List.mem_map.1 hx
  exact (h s hs).2 y hy
theorem SmallV.succ {ls : List Ls} {k : Nat} {x : Ls} (h : SmallV (ls.take k)) (hx : ls[k]? = some x) (h1 : x.l.length ≤ 20) (h2 : ∀ y ∈ x.l, y.x.halves.length ≤ 60) : SmallV (ls.take (k + 1)) := by
  obtain ⟨hk, rfl⟩ := List.getElem?_eq_some_iff.1 hx
  rw [List.take_succ_eq_append_getElem hk]
  intro s hs
  rcases List.mem_append.1 hs with hs | hs
  · exact h s hs
  · rw [List.mem_singleton] at hs; subst hs; exact ⟨h1, h2⟩
theorem flatV_len {ls : List Ls} {k : Nat} (h : SmallV (ls.take k)) (hk : k ≤ 4) : (flatV (ls.take k)).length ≤ 80 := by
  have := flat_len Ls.l (ls.take k) 20 (fun s hs => (h s hs).1)
  have h2 : (ls.take k).length ≤ k := by simp; omega
  show ((ls.take k).flatMap Ls.l).length ≤ 80
  omega
theorem eq_five (a b c d e : Int) (w : World) : (Op.equalIn 10000 37 (.agg #[.int .i64 a, .int .i64 b, .int .i64 c, .int .i64 d, .int .i64 e]) (.agg #[.int .i64 a, .int .i64 b, .int .i64 c, .int .i64 d, .int .i64 e])).run Try.prog w = .ok true w := by
  have u3 := Try.underlying3
  have a3 := Try.isAgg3
  have z3 := Try.sizeOf3
  rw [show (10000 : Nat) = 9999 + 1 from rfl, Op.equalIn]
  simp only [Sem.run_bind, run_underlying Try.underlying37, Result.andThen_ok]
  simp only [Std.Legacy.Range.forIn_eq_forIn_range', Std.Legacy.Range.size, Nat.sub_zero, Nat.add_sub_cancel, Nat.div_one, List.range'_succ, List.range'_zero, List.forIn_cons, List.forIn_nil]
  go_simp
end Go.Proofs.Ytdblilhkojafgaa
