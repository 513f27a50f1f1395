/- The walk of RankTexts. -/
import Derived.Test.YtggbohdgcalblaaDoorR9
namespace Go.Proofs.YtggbohdgcalblaaDoor
set_option linter.unusedVariables false
open Go.RowKit

/-- What a row of bytes that came in gives. -/
theorem IsRow.arg {w : World} {a : Option Addr} {len cap : Nat} {zs : List Int} (h : IsRow .u8 w a len cap zs) : ∃ xs : List Nat, xs.length = len ∧ Arg w (.slice a len cap) xs ∧ len ≤ cap ∧ (a = none → cap = 0) := by
  rcases h with ⟨rfl, rfl, rfl, rfl⟩ | ⟨x, rfl, hl, hm, hz, hc, hw⟩
  · exact ⟨[], rfl, .inl ⟨rfl, rfl⟩, Nat.le_refl _, fun _ => rfl⟩
  · refine ⟨(zs.take len).map Int.toNat, by simp; omega, ?_, hl, fun h => by cases h⟩
    have hcm : cap ≤ 9223372036854775807 := by unfold maxLen at hm; omega
    rcases Nat.eq_zero_or_pos len with rfl | hpos
    · exact .inr (.inl ⟨x, cap, rfl, hcm, by simp⟩)
    · obtain ⟨b, off, sp⟩ := x
      have h0 := hc 0 (by omega)
      have hs : sp = none := by simpa [Addr.add] using World.cell?_spot h0
      subst hs
      refine .inr (.inr ⟨b, off, len, cap, rfl, hcm, by simp; omega, hl, ?_, fun i hi => ?_, fun n hn => ?_⟩)
      · rcases Nat.lt_or_ge b w.heap.size with hb | hb
        · exact hb
        · simp [World.cell?, Addr.add, Array.getElem?_eq_none hb] at h0
      · have h1 := hc i (by omega)
        rw [addr_add] at h1
        rw [h1]
        have hzi : zs.getD i 0 ∈ zs := by simp [List.getD, List.getElem?_eq_getElem (by omega : i < zs.length)]
        have hb := bounds_u8 (hw _ hzi)
        have e : (((zs.take len).map Int.toNat).getD i 0 : Nat) = (zs.getD i 0).toNat := by
          simp [List.getD_eq_getElem?_getD, hi, List.getElem?_eq_getElem (by omega : i < zs.length)]
        rw [e, Int.toNat_of_nonneg hb.1]
      · simp only [List.mem_map] at hn
        obtain ⟨z, hz1, rfl⟩ := hn
        have hb := bounds_u8 (hw _ (List.mem_of_mem_take hz1))
        omega
theorem Arg.to {w : World} {a : Option Addr} {len cap : Nat} {xs : List Nat} (h : Arg w (.slice a len cap) xs) {k : Nat} (hk : k ≤ len) : Arg w (.slice a k cap) (xs.take k) := by
  rcases h with ⟨e, rfl⟩ | ⟨x, c, e, hc, rfl⟩ | ⟨b, off, n, c, e, hc, hr⟩
  · injection e with e1 e2 e3
    subst e1 e2 e3
    obtain rfl : k = 0 := by omega
    exact .inl ⟨rfl, by simp⟩
  · injection e with e1 e2 e3
    subst e1 e2 e3
    obtain rfl : k = 0 := by omega
    exact .inr (.inl ⟨x, _, rfl, hc, by simp⟩)
  · injection e with e1 e2 e3
    subst e1 e2 e3
    refine .inr (.inr ⟨b, off, k, _, rfl, hc, by simp [hr.len]; omega, by have := hr.cap; omega, hr.lt, fun i hi => ?_, fun x hx => hr.byte x (List.mem_of_mem_take hx)⟩)
    rw [hr.cell i (by omega)]
    simp [List.getD_eq_getElem?_getD, hi]

set_option maxRecDepth 100000 in
set_option maxHeartbeats 4000000 in
theorem texts_core (a1 a2 : Option Addr) (l1 c1 l2 c2 : Nat) (xs ys : List Nat) (w : World) (hx : Arg w (.slice a1 l1 c1) xs) (hy : Arg w (.slice a2 l2 c2) ys) (m1 : l1 ≤ c1) (m2 : l2 ≤ c2) (z1 : a1 = none → c1 = 0) (z2 : a2 = none → c2 = 0) :
    Calls Tryd.prog 4 #[.slice a1 l1 c1, .slice a2 l2 c2] w fun e w' => e = .returned (.bool true) ∧ Mod (fun _ => False) w w' := by
  obtain ⟨k1, hk1⟩ : ∃ k : Nat, k = min l1 2000 := ⟨_, rfl⟩
  obtain ⟨k2, hk2⟩ : ∃ k : Nat, k = min l2 2000 := ⟨_, rfl⟩
  have B1 := Lib.hid (hx.to (k := k1) (by omega))
  have B2 := Lib.hid (hy.to (k := k2) (by omega))
  have n1 : k1 ≤ c1 := by omega
  have n2 : k2 ≤ c2 := by omega
  have i1 : min (l1 : Int) 2000 = (k1 : Int) := by omega
  have i2 : min (l2 : Int) 2000 = (k2 : Int) := by omega
  have G1 : Hid (k1 ≤ 2000) := Lib.hid (by omega)
  have G2 : Hid (k2 ≤ 2000) := Lib.hid (by omega)
  clear hx hy
  generalize hu : xs.take k1 = us at B1
  generalize hv : ys.take k2 = vs at B2
  have D1 : Hid (us.length ≤ 2000) := Lib.hid (by rw [← hu]; simp; have := G1.out; omega)
  have D2 : Hid (vs.length ≤ 2000) := Lib.hid (by rw [← hv]; simp; have := G2.out; omega)
  clear hu hv
  have T1 : Hid (∀ w' : World, Mod (fun _ => False) w w' → Calls Tryd.prog 14 #[.slice a1 k1 c1] w' (GivesBytes w' (codeT us))) := fun w' m => text_any _ _ _ (B1.out.mod m (fun _ _ f => f)) (by have := D1.out; omega)
  have T2 : Hid (∀ w' : World, Mod (fun _ => False) w w' → Calls Tryd.prog 14 #[.slice a2 k2 c2] w' (GivesBytes w' (codeT vs))) := fun w' m => text_any _ _ _ (B2.out.mod m (fun _ _ f => f)) (by have := D2.out; omega)
  have Q1 := Lib.hid B1.out.rd
  have Q2 := Lib.hid B2.out.rd
  have L1 := Lib.hid (ltB_codeT us vs)
  have L2 := Lib.hid (sameB_codeT us vs)
  clear B1 B2 D1 D2 G1 G2 
  cases a1 <;> cases a2
  case' none.none =>
    obtain rfl := z1 rfl
    obtain rfl := z2 rfl
    obtain rfl : l1 = 0 := by omega
    obtain rfl : l2 = 0 := by omega
    obtain rfl : k1 = 0 := by omega
    obtain rfl : k2 = 0 := by omega
    clear i1 i2
  case' none.some =>
    obtain rfl := z1 rfl
    obtain rfl : l1 = 0 := by omega
    obtain rfl : k1 = 0 := by omega
    clear i1
  case' some.none =>
    obtain rfl := z2 rfl
    obtain rfl : l2 = 0 := by omega
    obtain rfl : k2 = 0 := by omega
    clear i2
  all_goals
    clear z1 z2 hk1 hk2 m1 m2
    go_enter Tryd.func4, Tryd.ntmps4
    go_wp2
    go_region
    go_wp2_with fail
    refine (T1.out _ (Mod.refl _ _).drew).mono ?_
    rintro e w1 ⟨v1, rfl, hB⟩
    have B1 := Lib.hid hB
    clear hB
    go_wp2_with fail
    refine (T2.out _ ((Mod.refl _ w).drew.trans B1.out.mod)).mono ?_
    rintro e w2 ⟨v2, rfl, hB⟩
    have B2 := Lib.hid hB
    clear hB
    go_wp2_with fail
    refine (awake_any _).mono ?_
    rintro e w3 ⟨rfl, hm⟩
    have M3 := Lib.hid hm
    clear hm
    have R1 := Lib.hid ((B1.out.rd.keep B2.out.mod).keep M3.out)
    have R2 := Lib.hid (B2.out.rd.keep M3.out)
    have M := Lib.hid ((((Mod.refl (fun _ => False) w).drew.trans B1.out.mod).trans B2.out.mod).trans M3.out)
    clear B1 B2 M3
    go_wp2_with fail
    refine (less_any _ _ _ _ _ R1.out R2.out).mono ?_
    rintro e w4 ⟨rfl, hm⟩
    rw [L1.out]
    have M4 := Lib.hid hm
    clear hm
    go_wp2_with fail
    refine (less_any _ _ _ _ _ (Q1.out.keep (M.out.trans M4.out)) (Q2.out.keep (M.out.trans M4.out))).mono ?_
    rintro e w5 ⟨rfl, hm⟩
    have M5 := Lib.hid (M4.out.trans hm)
    clear hm M4
    go_wp2_with fail
    refine (same_any _ _ _ _ _ (R1.out.keep M5.out) (R2.out.keep M5.out)).mono ?_
    rintro e w6 ⟨rfl, hm⟩
    rw [L2.out]
    have M6 := Lib.hid (M5.out.trans hm)
    clear hm M5
    go_wp2_with fail
    refine (same_any _ _ _ _ _ (Q1.out.keep (M.out.trans M6.out)) (Q2.out.keep (M.out.trans M6.out))).mono ?_
    rintro e w7 ⟨rfl, hm⟩
    have M7 := Lib.hid ((M.out.trans M6.out).trans hm)
    clear hm M6
    go_wp2
    go_ret
    exact ⟨rfl, M7.out⟩
theorem texts_all (a0 : Option Addr) (len0 cap0 : Nat) (z0 : List Int) (a1 : Option Addr) (len1 cap1 : Nat) (z1 : List Int) (w : World) (w0 : IsRow .u8 w a0 len0 cap0 z0) (w1 : IsRow .u8 w a1 len1 cap1 z1) :
    Calls Tryd.prog 4 #[.slice a0 len0 cap0, .slice a1 len1 cap1] w fun e w' => e = .returned (.bool true) ∧ Below w.heap.size w w' := by
  obtain ⟨xs, _, hx, m1, n1⟩ := w0.arg
  obtain ⟨ys, _, hy, m2, n2⟩ := w1.arg
  exact (texts_core a0 a1 len0 cap0 len1 cap1 xs ys w hx hy m1 m2 n1 n2).mono fun _ _ ⟨h, m⟩ => ⟨h, m.toBelow (Nat.le_refl _) (fun _ _ f => f)⟩
end Go.Proofs.YtggbohdgcalblaaDoor
