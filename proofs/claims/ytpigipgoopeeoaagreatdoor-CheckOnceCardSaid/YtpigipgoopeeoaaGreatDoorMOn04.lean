import Derived.Test.YtpigipgoopeeoaaGreatDoorMOn03
import Derived.Shelf.Strconv.Itoa0
import Derived.Sort.LotD1
import Derived.Sort.Walk7a
import Derived.Laws.Bits64
import Derived.Laws.Bits64b
set_option linter.unusedVariables false
set_option linter.unusedSimpArgs false
namespace Go.Proofs
open Go.Shelf
def YtpigipgoopeeoaaGreatDoor.len_ren : Go.Shelf.Ren := ⟨fun | 129 => 115 | n => n, fun | 53 => 209 | 3 => 3 | 4 => 4 | 46 => 178 | 5 => 5 | 9 => 9 | n => n, fun | n => n⟩
theorem YtpigipgoopeeoaaGreatDoor.len_lays : Go.Proofs.Lays.n129 Tryz.prog YtpigipgoopeeoaaGreatDoor.len_ren := {
 mixed := by kernel_rfl
 f129 := Tryz.func115.trans (congrArg some (by kernel_rfl))
 t3 := Tryz.underlying3
 a3 := Tryz.isAgg3
 z3 := Tryz.sizeOf3
 v3 := Tryz.zeroValue3
 t4 := Tryz.underlying4
 a4 := Tryz.isAgg4
 z4 := Tryz.sizeOf4
 v4 := Tryz.zeroValue4
 t5 := Tryz.underlying5
 a5 := Tryz.isAgg5
 z5 := Tryz.sizeOf5
 v5 := Tryz.zeroValue5
 t9 := Tryz.underlying9
 a9 := Tryz.isAgg9
 z9 := Tryz.sizeOf9
 v9 := Tryz.zeroValue9
 t46 := Tryz.underlying178
 a46 := Tryz.isAgg178
 z46 := Tryz.sizeOf178
 v46 := Tryz.zeroValue178
 t53 := Tryz.underlying209
 a53 := Tryz.isAgg209
 z53 := Tryz.sizeOf209
 v53 := Tryz.zeroValue209 }
end Go.Proofs
namespace Go.Proofs.YtpigipgoopeeoaaGreatDoor
open Go.RowKit
theorem len64_any (x : Int) (w : World) (h0 : 0 ≤ x) (h1 : x ≤ 18446744073709551615) :
   Calls Tryz.prog 115 #[.int .u64 x] w fun e w' => e = .returned (.int .i64 (Lib.bitLen x.toNat)) ∧ w' = w := Any.bits_Len64 YtpigipgoopeeoaaGreatDoor.len_lays x w h0 h1
theorem len_any (n : Nat) (hn : n < 999999) (w : World) :
   Calls Tryz.prog 93 #[.int .u64 n] w fun e w' => e = .returned (.int .i64 (Sort.bitsLen n : Nat)) ∧ w' = w := by
 have hL : Hid (∀ w, Calls Tryz.prog 115 #[.int .u64 (n : Int)] w fun e w' => e = .returned (.int .i64 (Sort.bitsLen n : Nat)) ∧ w' = w) := Lib.hid (fun w => by
   have h := len64_any (n : Int) w (by omega) (by omega)
   rwa [Int.toNat_natCast, bitLen_eq _ (by omega)] at h)
 go_enter Tryz.func93, Tryz.ntmps93
 go_wp2_with (go_at_call 115; refine (hL.out _).mono ?_; rintro e w' ⟨rfl, rfl⟩)
 go_ret
 exact ⟨rfl, rfl⟩
theorem bitsLen_small {n : Nat} (hn : n < 999999) : Sort.bitsLen n ≤ 20 := by
 rcases Nat.eq_zero_or_pos n with rfl | h0
 · decide
 · have h := Sort.two_pow_bitsLen_le h0
   rcases Nat.lt_or_ge 20 (Sort.bitsLen n) with h1 | h1
   · have := Nat.pow_le_pow_right (n := 2) (by decide) h1
     omega
   · exact h1
theorem wrap_pow (k : Nat) (hk : k ≤ 62) : IntKind.u64.wrap ((2 : Int) ^ k) = ((2 ^ k : Nat) : Int) := by
 have h : (2 : Nat) ^ k ≤ 2 ^ 62 := Nat.pow_le_pow_right (by decide) hk
 rw [IntKind.wrap_u64, show ((2 : Int) ^ k) = ((2 ^ k : Nat) : Int) by push_cast; rfl]
 generalize (2 : Nat) ^ k = p at h
 omega
theorem pow2_any (n : Nat) (h0 : 0 < n) (hn : n < 999999) (w : World) :
   Calls Tryz.prog 130 #[.int .i64 n] w fun e w' => ∃ M : Nat, e = .returned (.int .u64 (M : Int)) ∧ 1 ≤ M ∧ M ≤ 2 * n ∧ w' = w := by
 have hL := Lib.hid (len_any n hn)
 have hk := bitsLen_small hn
 have HM : Hid (1 ≤ 2 ^ Sort.bitsLen n ∧ 2 ^ Sort.bitsLen n ≤ 2 * n) := ⟨Nat.two_pow_pos _, Sort.two_pow_bitsLen_le h0⟩
 obtain ⟨k, hkk⟩ : ∃ k, k = Sort.bitsLen n := ⟨_, rfl⟩
 rw [← hkk] at hL hk HM
 clear hkk
 have hp := wrap_pow k (by omega)
 go_enter Tryz.func130, Tryz.ntmps130
 go_wp2_with (go_at_call 93; refine (hL.out _).mono ?_; rintro e w' ⟨rfl, rfl⟩)
 go_ret
 exact ⟨2 ^ k, rfl, HM.out.1, HM.out.2, rfl⟩
set_option maxHeartbeats 1600000 in
theorem next_any (rb X : Nat) (hX : X < 18446744073709551616) (w : World) (hc : w.cell? ⟨rb, 0, none⟩ = some (.int .u64 X)) (hf : w.frozen? ⟨rb, 0, none⟩ = false) :
   Calls Tryz.prog 131 #[.pointer (some ⟨rb, 0, none⟩)] w fun e w' => ∃ R : Nat, R < 18446744073709551616 ∧ e = .returned (.int .u64 R) ∧ w' = (w.setCell ⟨rb, 0, none⟩ (.int .u64 R)).drewN 3 := by
 obtain ⟨A, hA⟩ : ∃ A : Nat, A = X ^^^ (X * 8192 % 18446744073709551616) := ⟨_, rfl⟩
 obtain ⟨B, hB⟩ : ∃ B : Nat, B = A ^^^ (A / 128) := ⟨_, rfl⟩
 obtain ⟨C, hC⟩ : ∃ C : Nat, C = B ^^^ (B * 131072 % 18446744073709551616) := ⟨_, rfl⟩
 have lA : A < 18446744073709551616 := by rw [hA]; exact Nat.xor_lt_two_pow (n := 64) (by omega) (by omega)
 have lB : B < 18446744073709551616 := by rw [hB]; exact Nat.xor_lt_two_pow (n := 64) (by omega) (by omega)
 have lC : C < 18446744073709551616 := by rw [hC]; exact Nat.xor_lt_two_pow (n := 64) (by omega) (by omega)
 have e1 : bits .xor .u64 (X : Int) (IntKind.u64.wrap ((X : Int) * 8192)) = (A : Int) := by
   rw [IntKind.wrap_u64, show ((X : Int) * 8192 % 18446744073709551616) = ((X * 8192 % 18446744073709551616 : Nat) : Int) by omega, bits_xor_u64_nat _ _ hX (by omega), hA]
 have e2 : bits .xor .u64 (A : Int) ((A : Int) / 128) = (B : Int) := by
   rw [show ((A : Int) / 128) = ((A / 128 : Nat) : Int) by omega, bits_xor_u64_nat _ _ lA (by omega), hB]
 have e3 : bits .xor .u64 (B : Int) (IntKind.u64.wrap ((B : Int) * 131072)) = (C : Int) := by
   rw [IntKind.wrap_u64, show ((B : Int) * 131072 % 18446744073709551616) = ((B * 131072 % 18446744073709551616 : Nat) : Int) by omega, bits_xor_u64_nat _ _ lB (by omega), hC]
 have LC := Lib.hid lC
 clear hA hB hC lC
 have hss : ∀ v v', (w.setCell ⟨rb, 0, none⟩ v).setCell ⟨rb, 0, none⟩ v' = w.setCell ⟨rb, 0, none⟩ v' := setCell_setCell w rb 0
 go_enter Tryz.func131, Tryz.ntmps131
 go_wp2
 go_region
 all_goals go_wp2
 all_goals go_region
 all_goals go_wp2
 all_goals go_region
 all_goals go_wp2
 go_ret
 exact ⟨C, LC.out, rfl, rfl⟩
open Go.RowKit
structure DBx (w0 w : World) (g off n : Nat) (d : Nat → Nat) (s : Nat) (t : TypeId) (v : Value) : Prop where
 at' : DAt w0 w g off n d
 ge : w0.heap.size ≤ s
 box : w.heap[s]? = some (.cells #[v] t (0, 0))
section
variable {w0 w : World} {g off n : Nat} {d : Nat → Nat} {s : Nat} {t : TypeId} {v : Value}
theorem DBx.start (h : DAt w0 w g off n d) (t : TypeId) (v : Value) : DBx w0 (w.alloc (.cells #[v] t)) g off n d w.heap.size t v :=
 ⟨h.moved ((Mod.refl _ w).alloc _), h.mod.size, heap_alloc_new' w _⟩
theorem DBx.cell (h : DBx w0 w g off n d s t v) : w.cell? ⟨s, 0, none⟩ = some v := by rw [cell_of_row h.box]; rfl
theorem DBx.free (h : DBx w0 w g off n d s t v) : w.frozen? ⟨s, 0, none⟩ = false := free_of_row h.box 0
theorem DBx.ne (h : DBx w0 w g off n d s t v) : g ≠ s := by have := h.at'.lt; have := h.ge; omega
theorem DBx.drewN (h : DBx w0 w g off n d s t v) (q : Nat) : DBx w0 (w.drewN q) g off n d s t v := ⟨h.at'.drewN q, h.ge, h.box⟩
theorem DBx.drew (h : DBx w0 w g off n d s t v) : DBx w0 w.drew g off n d s t v := ⟨h.at'.drew, h.ge, h.box⟩
theorem DBx.set (h : DBx w0 w g off n d s t v) (v' : Value) : DBx w0 (w.setCell ⟨s, 0, none⟩ v') g off n d s t v' := by
 have hne := h.ne
 have hb : (w.setCell ⟨s, 0, none⟩ v').heap[g]? = w.heap[g]? := heap_setCell_other _ _ _ _ hne
 refine ⟨⟨h.at'.mod.setCell (fun hlt => absurd (show s < w0.heap.size from hlt) (by have := h.ge; omega)) _, h.at'.lt, fun k hk => ?_, fun k hk => ?_, fun cur e hc => ?_⟩, h.ge, ?_⟩
 · rw [World.cell?_setCell_other _ _ _ _ (by intro e; injection e with e1; exact hne e1.symm)]; exact h.at'.cell k hk
 · rw [World.frozen?_setCell]; exact h.at'.free k hk
 · rw [hb]; exact h.at'.shape cur e hc
 · have := row_setCell h.box 0 v'
   simpa using this
theorem DBx.swap (h : DBx w0 w g off n d s t v) (i j : Nat) : DBx w0 ((w.setCell ⟨g, off + i, none⟩ (.int .u32 (d j))).setCell ⟨g, off + j, none⟩ (.int .u32 (d i))) g off n (swp d i j) s t v :=
 ⟨h.at'.swap i j, h.ge, by rw [heap_setCell_other _ _ _ _ h.ne.symm, heap_setCell_other _ _ _ _ h.ne.symm]; exact h.box⟩
end
set_option maxRecDepth 100000 in
set_option maxHeartbeats 6400000 in
theorem break_any (g off cap n a b : Nat) (d : Nat → Nat) (w0 w : World) (hD : DAt w0 w g off n d) (hab : a + 8 ≤ b) (hb : b ≤ n) (hn : n < 999999) :
   Calls Tryz.prog 107 #[.slice (some ⟨g, off, none⟩) n cap, .int .i64 a, .int .i64 b] w fun e w' =>
     e = .returned (.tuple #[]) ∧ ∃ d', DAt w0 w' g off n d' ∧ Sw a b d d' := by
 obtain ⟨L, hL⟩ : ∃ L, L = b - a := ⟨_, rfl⟩
 have hL8 : 8 ≤ L := by omega
 have haL : a + L ≤ n := by omega
 have HB : Hid (a + L = b) := by show a + L = b; omega
 have EB : Hid ((b : Int) - (a : Int) = (L : Int)) := Lib.hid (by omega)
 have HD := Lib.hid (DBx.start hD 232 (.int .u64 L))
 have HS := Lib.hid hD.glt
 have HP := Lib.hid (pow2_any L (by omega) (by omega))
 clear hD hL
 go_enter Tryz.func107, Tryz.ntmps107
 go_wp2_with (first | (go_at_call 130; rw [EB.out]; refine (HP.out _).mono ?_; rintro e w' ⟨M, rfl, hM1, hM2, rfl⟩))
 have hL9 : L < 999999 := by omega
 go_loopw [9] (fun vi wr => ∃ (x X : Nat) (dk : Nat → Nat), vi = .int .i64 x ∧ a + L / 4 * 2 ≤ x + 1 ∧ x ≤ a + L / 4 * 2 + 2 ∧ X < 18446744073709551616 ∧ Hid (DBx w0 wr g off n dk w.heap.size 232 (.int .u64 X)) ∧ Hid (Sw a b d dk)) (fun vi _ => a + L / 4 * 2 + 3 - (intOf vi).toNat)
 case atStart => exact ⟨a + L / 4 * 2 - 1, L, d, by congr 1; omega, by omega, by omega, by omega, HD.out, Sw.refl⟩
 case round =>
   obtain ⟨x, X, dk, rfl, hx1, hx2, hX, HDk, HSk⟩ := hrel
   have hcw : ∀ t, t < n → wr.cell? ⟨g, off + t, none⟩ = some (.int .u32 (dk t)) := HDk.out.at'.cell
   have hfw : ∀ t, t < n → wr.frozen? ⟨g, off + t, none⟩ = false := HDk.out.at'.free
   have HN : Hid (Calls Tryz.prog 131 #[.pointer (some ⟨w.heap.size, 0, none⟩)] wr fun e w' => ∃ R : Nat, R < 18446744073709551616 ∧ e = .returned (.int .u64 R) ∧ w' = (wr.setCell ⟨w.heap.size, 0, none⟩ (.int .u64 R)).drewN 3) := Lib.hid (next_any w.heap.size X hX wr HDk.out.cell HDk.out.free)
   clear hX
   go_wp2_with (first | (go_at_call 131; refine HN.out.mono ?_; (rintro e w' ⟨R, hR, rfl, hw'⟩); (have HD1 : Hid (DBx w0 w' g off n dk w.heap.size 232 (.int .u64 R)) := by rw [hw']; exact (HDk.out.set _).drewN 3); (clear hw' hcw hfw); (have hcw : ∀ t, t < n → w'.cell? ⟨g, off + t, none⟩ = some (.int .u32 (dk t)) := HD1.out.at'.cell); (have hfw : ∀ t, t < n → w'.frozen? ⟨g, off + t, none⟩ = false := HD1.out.at'.free); (obtain ⟨O, hO⟩ : ∃ O : Nat, O = R &&& (M - 1) := ⟨_, rfl⟩); (have lO : O ≤ M - 1 := by rw [hO]; exact Nat.and_le_right); (have eAnd : bits .and .u64 (R : Int) ((M : Int) - 1) = (O : Int) := by rw [show ((M : Int) - 1) = ((M - 1 : Nat) : Int) by omega, bits_and_u64_nat _ _ hR (by omega), hO]); (have HR := Lib.hid hR); clear hO hR))
   · have hLO : L ≤ O := by omega
     by_cases hEq : x = a + (O - L)
     all_goals
       go_region
       all_goals go_wp2
       go_roundw
       case rel =>
         have hB := HB.out
         refine ⟨x + 1, R, swp dk x (a + (O - L)), by go_num, by omega, by omega, HR.out, ?_, .step HSk.out (by omega) (by omega) (by omega) (by omega)⟩
         (try rw [hEq])
         first | exact HD1.out.drew.swap _ _ | (rw [← hEq]; exact HD1.out.drew.swap _ _)
       case measure => simp [intOf]; omega
   · have hLO : ¬ L ≤ O := by omega
     by_cases hEq : x = a + O
     all_goals
       go_region
       all_goals go_wp2
       go_roundw
       case rel =>
         have hB := HB.out
         refine ⟨x + 1, R, swp dk x (a + O), by go_num, by omega, by omega, HR.out, ?_, .step HSk.out (by omega) (by omega) (by omega) (by omega)⟩
         (try rw [hEq])
         first | exact HD1.out.drew.swap _ _ | (rw [← hEq]; exact HD1.out.drew.swap _ _)
       case measure => simp [intOf]; omega
   · go_end0
     exact ⟨rfl, dk, HDk.out.at', HSk.out⟩
open Go.RowKit
set_option maxRecDepth 100000 in
set_option maxHeartbeats 3200000 in
theorem order2_any (g off cap n a b s z : Nat) (d : Nat → Nat) (w0 w : World) (hD : DBx w0 w g off n d s 3 (.int .i64 z)) (ha : a < n) (hb : b < n) (hn : n < 999999) (hz : z < 100) :
   Calls Tryz.prog 140 #[.slice (some ⟨g, off, none⟩) n cap, .int .i64 a, .int .i64 b, .pointer (some ⟨s, 0, none⟩)] w fun e w' =>
     ∃ x y z' : Nat, e = .returned (.tuple #[.int .i64 x, .int .i64 y]) ∧ ((x = a ∧ y = b) ∨ (x = b ∧ y = a)) ∧ z' ≤ z + 1 ∧ DBx w0 w' g off n d s 3 (.int .i64 z') := by
 have HD := Lib.hid hD
 have hcw : ∀ t, t < n → w.cell? ⟨g, off + t, none⟩ = some (.int .u32 (d t)) := hD.at'.cell
 have hfw : ∀ t, t < n → w.frozen? ⟨g, off + t, none⟩ = false := hD.at'.free
 have hs := hD.cell
 have hf := hD.free
 clear hD
 go_enter Tryz.func140, Tryz.ntmps140
 go_wp2_with fail
 go_big_quiet (first | (go_at_call 111; refine Calls.quiet_of_same (less_any _ _ _)))
 go_wp2_with fail
 · go_wp2
   go_ret2
   exact ⟨b, a, z + 1, rfl, .inr ⟨rfl, rfl⟩, Nat.le_refl _, (HD.out.drewN _).set _⟩
 · go_wp2
   go_ret2
   exact ⟨a, b, z, rfl, .inl ⟨rfl, rfl⟩, by omega, HD.out.drewN _⟩
set_option maxRecDepth 100000 in
set_option maxHeartbeats 3200000 in
theorem median_any (g off cap n a b c s z : Nat) (d : Nat → Nat) (w0 w : World) (hD : DBx w0 w g off n d s 3 (.int .i64 z)) (ha : a < n) (hb : b < n) (hc : c < n) (hn : n < 999999) (hz : z < 50) :
   Calls Tryz.prog 133 #[.slice (some ⟨g, off, none⟩) n cap, .int .i64 a, .int .i64 b, .int .i64 c, .pointer (some ⟨s, 0, none⟩)] w fun e w' =>
     ∃ x z' : Nat, e = .returned (.int .i64 x) ∧ (x = a ∨ x = b ∨ x = c) ∧ z' ≤ z + 3 ∧ DBx w0 w' g off n d s 3 (.int .i64 z') := by
 have HD := Lib.hid hD
 have HO := Lib.hid (fun (x y z1 : Nat) (w1 : World) (h : DBx w0 w1 g off n d s 3 (.int .i64 z1)) (hx : x < n) (hy : y < n) (h1 : z1 < 100) => order2_any g off cap n x y s z1 d w0 w1 h hx hy hn h1)
 clear hD
 go_enter Tryz.func133, Tryz.ntmps133
 go_wp2_with (first
   | (have h3 := HD3; clear h3; fail)
   | (have h2 := HD2; clear h2; go_at_call 140; refine (HO.out x1 y2 z2 _ HD2.out (by omega) (by omega) (by omega)).mono ?_; rintro e w3 ⟨x3, y3, z3, rfl, hxy3, hz3, hd3⟩; have HD3 := Lib.hid hd3; have HXY3 := Lib.hid hxy3; clear hd3)
   | (have h1 := HD1; clear h1; go_at_call 140; refine (HO.out y1 c z1 _ HD1.out (by omega) hc (by omega)).mono ?_; rintro e w2 ⟨y2, c2, z2, rfl, hxy2, hz2, hd2⟩; have HD2 := Lib.hid hd2; have HXY2 := Lib.hid hxy2; have hy2 : y2 < n := (by omega); clear hd2 hxy2)
   | (go_at_call 140; refine (HO.out a b z _ HD.out ha hb (by omega)).mono ?_; rintro e w1 ⟨x1, y1, z1, rfl, hxy1, hz1, hd1⟩; have HD1 := Lib.hid hd1; have HXY1 := Lib.hid hxy1; have hx1 : x1 < n := (by omega); have hy1 : y1 < n := (by omega); clear hd1 hxy1))
 go_ret
 have h1 := HXY1.out
 have h2 := HXY2.out
 have h3 := HXY3.out
 exact ⟨y3, z3, rfl, by omega, by omega, HD3.out⟩
set_option maxRecDepth 100000 in
set_option maxHeartbeats 3200000 in
theorem medAdj_any (g off cap n a s z : Nat) (d : Nat → Nat) (w0 w : World) (hD : DBx w0 w g off n d s 3 (.int .i64 z)) (h0 : 0 < a) (ha : a + 1 < n) (hn : n < 999999) (hz : z < 50) :
   Calls Tryz.prog 132 #[.slice (some ⟨g, off, none⟩) n cap, .int .i64 a, .pointer (some ⟨s, 0, none⟩)] w fun e w' =>
     ∃ x z' : Nat, e = .returned (.int .i64 x) ∧ (a ≤ x + 1 ∧ x ≤ a + 1) ∧ z' ≤ z + 3 ∧ DBx w0 w' g off n d s 3 (.int .i64 z') := by
 obtain ⟨p, hp⟩ : ∃ p, p = a - 1 := ⟨_, rfl⟩
 obtain ⟨q, hq⟩ : ∃ q, q = a + 1 := ⟨_, rfl⟩
 have EP : Hid ((a : Int) - 1 = (p : Int)) := Lib.hid (by omega)
 have EQ : Hid ((a : Int) + 1 = (q : Int)) := Lib.hid (by omega)
 have HPQ : Hid (p + 1 = a ∧ q = a + 1) := Lib.hid ⟨by omega, hq⟩
 have HM := Lib.hid (median_any g off cap n p a q s z d w0 w hD (by omega) (by omega) (by omega) hn hz)
 clear hD hp hq
 go_enter Tryz.func132, Tryz.ntmps132
 go_wp2_with (first | (go_at_call 133; rw [EP.out, EQ.out]; refine HM.out.mono ?_; (rintro e w1 ⟨x, z1, rfl, hx, hz1, hd1⟩); have HD1 := Lib.hid hd1; clear hd1))
 go_ret
 have h := HPQ.out
 exact ⟨x, z1, rfl, by omega, hz1, HD1.out⟩
theorem quarters {a b q l : Nat} (hl : l = b - a) (hq : q = l / 4) (h : a + 8 ≤ b) : 4 * q ≤ l ∧ 2 ≤ q ∧ (50 ≤ l → 12 ≤ q) := by omega
set_option maxRecDepth 100000 in
set_option maxHeartbeats 6400000 in
theorem pivot_any (g off cap n a b : Nat) (d : Nat → Nat) (w0 w : World) (hD : DAt w0 w g off n d) (hab : a + 8 ≤ b) (hb : b ≤ n) (hn : n < 999999) :
   Calls Tryz.prog 108 #[.slice (some ⟨g, off, none⟩) n cap, .int .i64 a, .int .i64 b] w fun e w' =>
     ∃ (p : Nat) (h : Int), e = .returned (.tuple #[.int .i64 p, .int .i64 h]) ∧ a ≤ p ∧ p < b ∧ DAt w0 w' g off n d := by
 obtain ⟨l, hl⟩ : ∃ l, l = b - a := ⟨_, rfl⟩
 obtain ⟨q, hq⟩ : ∃ q, q = l / 4 := ⟨_, rfl⟩
 have hqs := quarters hl hq hab
 have EL : Hid ((b : Int) - (a : Int) = (l : Int)) := Lib.hid (by omega)
 have EQ : Hid ((l : Int) / 4 = (q : Int)) := Lib.hid (by omega)
 have hal : a + l ≤ n := by omega
 have HB : Hid (a + l = b) := Lib.hid (by omega)
 have hl8 : 8 ≤ l := by omega
 obtain ⟨i, hi⟩ : ∃ i, i = a + q := ⟨_, rfl⟩
 obtain ⟨j, hj⟩ : ∃ j, j = a + q * 2 := ⟨_, rfl⟩
 obtain ⟨k, hk⟩ : ∃ k, k = a + q * 3 := ⟨_, rfl⟩
 have EI : Hid ((a : Int) + (q : Int) = (i : Int)) := Lib.hid (by omega)
 have EJ : Hid ((a : Int) + (q : Int) * 2 = (j : Int)) := Lib.hid (by omega)
 have EK : Hid ((a : Int) + (q : Int) * 3 = (k : Int)) := Lib.hid (by omega)
 have hi1 : a + 2 ≤ i ∧ i + 2 ≤ a + l := by omega
 have hj1 : a + 2 ≤ j ∧ j + 2 ≤ a + l := by omega
 have hk1 : a + 2 ≤ k ∧ k + 2 ≤ a + l := by omega
 have HD := Lib.hid (DBx.start hD 3 (.int .i64 ((0 : Nat) : Int)))
 clear hl hq hi hj hk hqs hD
 by_cases h50 : a + 50 ≤ b
 · go_enter Tryz.func108, Tryz.ntmps108
   go_wp2_with fail
   rw [EL.out, EQ.out, EI.out, EJ.out, EK.out]
   go_wp2_with (first
     | (have h := HD4; clear h; fail)
     | (have h := HD3; clear h; go_at_call 133; refine (median_any g off cap n x1 x2 x3 w.heap.size z3 d w0 _ HD3.out (by omega) (by omega) (by omega) hn (by omega)).mono ?_; (rintro e w4 ⟨x4, z4, rfl, hx4, hz4, hd4⟩); have HD4 := Lib.hid hd4; have HX4 := Lib.hid hx4; have hs4 := hd4.cell; have hf4 := hd4.free; clear hd4 hx4)
     | (have h := HD2; clear h; go_at_call 132; refine (medAdj_any g off cap n k w.heap.size z2 d w0 _ HD2.out (by omega) (by omega) hn (by omega)).mono ?_; (rintro e w3 ⟨x3, z3, rfl, hx3, hz3, hd3⟩); have HD3 := Lib.hid hd3; clear hd3)
     | (have h := HD1; clear h; go_at_call 132; refine (medAdj_any g off cap n j w.heap.size z1 d w0 _ HD1.out (by omega) (by omega) hn (by omega)).mono ?_; (rintro e w2 ⟨x2, z2, rfl, hx2, hz2, hd2⟩); have HD2 := Lib.hid hd2; clear hd2)
     | (go_at_call 132; refine (medAdj_any g off cap n i w.heap.size 0 d w0 _ HD.out (by omega) (by omega) hn (by omega)).mono ?_; (rintro e w1 ⟨x1, z1, rfl, hx1, hz1, hd1⟩); have HD1 := Lib.hid hd1; clear hd1))
   all_goals go_wp2
   all_goals go_ret2
   all_goals
     have hb := HB.out
     have hx := HX4.out
     exact ⟨x4, _, rfl, by omega, by omega, HD4.out.at'⟩
 · go_enter Tryz.func108, Tryz.ntmps108
   go_wp2_with fail
   rw [EL.out, EQ.out, EI.out, EJ.out, EK.out]
   go_wp2_with (first
     | (go_at_call 133; refine (median_any g off cap n i j k w.heap.size 0 d w0 _ HD.out (by omega) (by omega) (by omega) hn (by omega)).mono ?_; (rintro e w4 ⟨x4, z4, rfl, hx4, hz4, hd4⟩); have HD4 := Lib.hid hd4; have HX4 := Lib.hid hx4; have hs4 := hd4.cell; have hf4 := hd4.free; clear hd4 hx4))
   all_goals go_wp2
   all_goals go_ret2
   all_goals
     have hb := HB.out
     have hx := HX4.out
     exact ⟨x4, _, rfl, by omega, by omega, HD4.out.at'⟩
end Go.Proofs.YtpigipgoopeeoaaGreatDoor
