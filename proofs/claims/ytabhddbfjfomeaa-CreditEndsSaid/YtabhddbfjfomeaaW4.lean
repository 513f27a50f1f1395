/- The walk of CreditDeep. -/
import Derived.Test.YtabhddbfjfomeaaW3
import Derived.Test.YtabhddbfjfomeaaP4
import Derived.Deep.DeepFit
import Derived.OpenShut
namespace Go.Proofs.Ytabhddbfjfomeaa
set_option linter.unusedVariables false
open Go.RowKit Go.Maps

theorem ret_bool {a b : Bool} (h : a = b) : Ending.returned (.bool a) = .returned (.bool b) := by rw [h]
/-- The state at the head of level k. -/
structure DeepAt (w0 w : World) (pb mb : Nat) (len k : Nat) (C N : Int) (cnt : Nat) (D : DataW Unit) : Prop where
  pool : PoolAt w pb mb (N * C) cnt D
  mod : Mod (fun _ => False) w0 w
  hp : w0.heap.size ≤ pb
  hm : w0.heap.size ≤ mb
  hk : k ≤ len
  hk12 : k ≤ 12
  lo : low k ≤ C
  hi : C ≤ 1152921504606846976
  n1 : 1 ≤ N
  out : N * C ≤ 1152921504606846976
  hcnt : cnt ≤ 4000 * k
  keys : ∀ a b : Int, (k : Int) ≤ a → a ≤ 255 → 0 ≤ b → b < 18446744073709551616 → Maps.has D (noteKey a b) = false

/-- .. and in the midst of one. -/
structure MidAt (w0 w : World) (pb mb : Nat) (k : Nat) (N C R : Int) (q cnt : Nat) (D : DataW Unit) : Prop where
  pool : PoolAt w pb mb (N * C - q * R) (cnt + q) D
  mod : Mod (fun _ => False) w0 w
  hq : (q : Int) ≤ N
  keys : ∀ a b : Int, ((k : Int) < a ∨ (k : Int) = a ∧ (q : Int) ≤ b) → a ≤ 255 → 0 ≤ b → b < 18446744073709551616 → Maps.has D (noteKey a b) = false

theorem MidAt.next {w0 w w' : World} {pb mb : Nat} {k : Nat} {N C R : Int} {q cnt : Nat} {D : DataW Unit} (h : MidAt w0 w pb mb k N C R q cnt D) (hp : w0.heap.size ≤ pb) (hm : w0.heap.size ≤ mb) (hq : (q : Int) < N) (hN : N ≤ 4000) (hk : k ≤ 255)
    (hP : PoolAt w' pb mb (N * C - q * R - R) (cnt + q + 1) (D.put (noteKey k q) (.agg []))) (hM : Mod (fun b => b = pb ∨ b = mb) w w') : MidAt w0 w' pb mb k N C R (q + 1) cnt (D.put (noteKey k q) (.agg [])) := by
  refine ⟨?_, h.mod.trans' hM (fun i hi hh => ?_), by omega, ?_⟩
  · have e : N * C - ((q + 1 : Nat) : Int) * R = N * C - q * R - R := by rw [Int.natCast_add, Int.add_mul]; simp; omega
    rw [e]; exact hP
  · rcases hh with rfl | rfl <;> omega
  · intro a b h1 h2 h3 h4
    have wa : (Lit.int .u8 a).wf = true := by simp [Lit.wf, IntKind.min, IntKind.max, IntKind.signed, IntKind.bits]; omega
    have wb : (Lit.int .u64 b).wf = true := by simp [Lit.wf, IntKind.min, IntKind.max, IntKind.signed, IntKind.bits]; omega
    have wk : (Lit.int .u8 k).wf = true := by simp [Lit.wf, IntKind.min, IntKind.max, IntKind.signed, IntKind.bits]; omega
    have wq : (Lit.int .u64 q).wf = true := by simp [Lit.wf, IntKind.min, IntKind.max, IntKind.signed, IntKind.bits]; omega
    rw [has_put_other (fun e => ?_)]
    · exact h.keys a b (by omega) h2 h3 h4
    · obtain ⟨rfl, rfl⟩ := noteKey_inj wa wb wk wq e
      omega

set_option maxRecDepth 100000 in
theorem deep_walk (a : Option Addr) (len cap : Nat) (f : Nat → Int) (w : World) (hr : RowAt .u8 w a len f) :
    Calls Try.prog 6 #[.slice a len cap] w fun e w' => e = .returned (.bool true) ∧ Mod (fun _ => False) w w' := by
  have hlen := hr.len_le
  have HR := Lib.hid hr
  clear hr
  go_enter Try.func6, Try.ntmps6
  go_wp2_with fail
  refine (awake_any _).mono ?_
  rintro e w1 ⟨rfl, hM1⟩
  have HM1 := Lib.hid hM1
  clear hM1
  go_wp2_with fail
  refine (new_any _).mono ?_
  rintro e w' ⟨rfl, rfl⟩
  have hP := new_pool w1
  have hM : Mod (fun _ => False) w ((w1.alloc (.map #[] 0)).alloc (.cells #[.int .u64 1152921504606846976, .map (some w1.heap.size)] 45)) := ((HM1.out.alloc _).alloc _)
  have hsz := HM1.out.size
  generalize (w1.alloc (.map #[] 0)).alloc (.cells #[.int .u64 1152921504606846976, .map (some w1.heap.size)] 45) = w2 at hP hM ⊢
  have hD : DeepAt w w2 (w1.heap.size + 1) w1.heap.size len 0 1152921504606846976 1 0 (.map []) :=
    ⟨by simpa using hP, hM, by omega, hsz, Nat.zero_le _, by omega, by decide, by decide, by decide, by decide, by omega, fun _ _ _ _ _ _ => rfl⟩
  have HD := Lib.hid hD
  generalize w1.heap.size + 1 = pb at *
  generalize w1.heap.size = mb at *
  clear hP hM hD hsz
  go_wp2_with fail
  go_loopw [4, 5, 20] (fun c n i wr => ∃ (k : Nat) (C N : Int) (cnt : Nat) (D : DataW Unit), c = .int .u64 C ∧ n = .int .u64 N ∧ i = .int .i64 k ∧ DeepAt w wr pb mb len k C N cnt D) (fun _ _ i _ => len - (intOf i).toNat)
  case atStart => exact ⟨0, _, _, _, _, rfl, rfl, rfl, HD.out⟩
  case round =>
    obtain ⟨k, C, N, cnt, D, rfl, rfl, rfl, hA⟩ := hrel
    have hk := hA.hk
    have hk12 := hA.hk12
    have hN1 := hA.n1
    have hlo : 4722366482 ≤ C := Int.le_trans (low_pos hk12) hA.lo
    have hhi := hA.hi
    have hout := hA.out
    have hNC : 0 < N * C := Int.mul_pos (by omega) (by omega)
    have HNC := Lib.hid hNC
    have hfin : (!(N * C == 0)) = true := by simp; omega
    have HFIN := Lib.hid hfin
    have HA := Lib.hid hA
    clear hA HD hNC hfin hout
    by_cases hlt : k < len
    · obtain ⟨b, off, rfl, hb, hc⟩ := HR.out.cell k hlt
      have hcell : wr.cell? ⟨b, off + k, none⟩ = some (.int .u8 (f k)) := (World.cell?_of_block (w := w) (HA.out.mod.block b hb (fun h => h))).trans hc
      have hx := bounds_u8 (HR.out.wf k hlt)
      clear hc
      by_cases h12 : 12 ≤ k
      · go_wp2_with fail
        refine (done_any _ _ _ _ _ _ HA.out.pool).mono ?_
        rintro e w' ⟨rfl, rfl⟩
        go_wp2
        go_ret
        exact ⟨ret_bool (by first | rfl | exact HFIN.out), HA.out.mod⟩
      by_cases hN : 4000 < N
      · go_wp2_with fail
        refine (done_any _ _ _ _ _ _ HA.out.pool).mono ?_
        rintro e w' ⟨rfl, rfl⟩
        go_wp2
        go_ret
        exact ⟨ret_bool (by first | rfl | exact HFIN.out), HA.out.mod⟩
      have hm0 : 0 ≤ f k % 5 := by omega
      have hm4 : f k % 5 ≤ 4 := by omega
      go_wp2_with fail
      generalize f k % 5 = m at hm0 hm4 ⊢
      have hdiv : low (k + 1) ≤ C / (m + 1) := low_div HA.out.lo hm0 hm4 (by omega)
      have hS1 := Int.le_trans (low_pos (by omega : k + 1 ≤ 12)) hdiv
      refine (split_some C m (by omega) (by omega) (by omega) (by omega) _).mono ?_
      rintro e w' ⟨rfl, rfl⟩
      have hSC : C / (m + 1) * (m + 1) ≤ C := Int.ediv_mul_le C (by omega)
      have hSC1 : C / (m + 1) ≤ C := Int.ediv_le_self _ (by omega)
      generalize C / (m + 1) = S at hdiv hS1 hSC hSC1 ⊢
      have hR : 0 ≤ C - S * m := by rw [Int.mul_add] at hSC; omega
      have hRC : C - S * m ≤ C := by have := Int.mul_nonneg (by omega : 0 ≤ S) hm0; omega
      have hRI : MidAt w wr pb mb k N C (C - S * m) 0 cnt D := ⟨by simpa using HA.out.pool, HA.out.mod, by omega, fun a b h1 h2 h3 h4 => HA.out.keys a b (by omega) h2 h3 h4⟩
      have HLV := Lib.hid (level_out (N := N) (C := C) (S := S) (m := m))
      have HRdef : Hid (C - S * m = C - S * m) := rfl
      generalize hRg : C - S * m = R at hR hRC hRI HLV ⊢
      have HRG := Lib.hid hRg
      have HMID := Lib.hid hRI
      have HDIV := Lib.hid hdiv
      clear hRg hRI hSC hdiv HRdef
      have hNm0 : 0 ≤ N * m := Int.mul_nonneg (by omega) hm0
      have hNm4 : N * m ≤ 4000 * 4 := Int.mul_le_mul (by omega) hm4 hm0 (by omega)
      have hT0 : 0 ≤ N * m * S := Int.mul_nonneg hNm0 (by omega)
      have hT1 : N * m * S ≤ 1152921504606846976 := by
        have h1 := HA.out.out
        have h2 := HLV.out
        have h3 : 0 ≤ N * R := Int.mul_nonneg (by omega) hR
        omega
      go_wp2_with fail
      go_loopw [53] (fun j wq => ∃ (q : Nat) (D' : DataW Unit), j = .int .u64 q ∧ MidAt w wq pb mb k N C R q cnt D') (fun j _ => N.toNat - (intOf j).toNat)
      case atStart => exact ⟨0, D, rfl, HMID.out⟩
      case round =>
        obtain ⟨q, D', rfl, hQ⟩ := hrel
        have hqN := hQ.hq
        have HQ := Lib.hid hQ
        clear hQ HMID
        by_cases hq : (q : Int) < N
        · have hso := still_out (Int.natCast_nonneg q) hq hR hRC
          have hup : N * C - q * R < 18446744073709551616 := by
            have h1 := HA.out.out
            have h3 : 0 ≤ (q : Int) * R := Int.mul_nonneg (by omega) hR
            omega
          have hcn := HA.out.hcnt
          go_wp2_with fail
          refine (back_new _ pb mb _ k q R _ _ HQ.out.pool ?_ ?_ (HQ.out.keys _ _ (Or.inr ⟨rfl, Int.le_refl _⟩) (by omega) (by omega) (by omega)) hso hR hup (by unfold maxLen; omega)).mono ?_
          · simp [Lit.wf, IntKind.min, IntKind.max, IntKind.signed, IntKind.bits]; omega
          · simp [Lit.wf, IntKind.min, IntKind.max, IntKind.signed, IntKind.bits]; omega
          rintro e w3 ⟨rfl, hP3, hM3⟩
          have hmid : MidAt w w3 pb mb k N C R (q + 1) cnt (D'.put (noteKey k q) (.agg [])) :=
            MidAt.next HQ.out HA.out.hp HA.out.hm (by omega) (by omega) (by omega) hP3 hM3
          have HMI := Lib.hid hmid
          clear hmid hP3 hM3
          go_wp2
          go_roundw
          case rel => exact ⟨q + 1, _, by go_num, HMI.out⟩
          case measure => simp [intOf]; omega
        · obtain rfl : N = q := by omega
          have hlv := HLV.out
          have HP : PoolAt wr pb mb (q * m * S) (cnt + q) D' := by have := HQ.out.pool; rwa [hlv] at this
          have HPP := Lib.hid HP
          clear hlv HP
          by_cases hm1 : m = 0
          · subst hm1
            go_wp2_with fail
            refine (out_any _ _ _ _ _ _ HPP.out).mono ?_
            rintro e w' ⟨rfl, rfl⟩
            go_wp2_with fail
            refine (done_any _ _ _ _ _ _ HPP.out).mono ?_
            rintro e w' ⟨rfl, rfl⟩
            go_wp2
            go_ret
            exact ⟨ret_bool rfl, HQ.out.mod⟩
          · have hNm1 : 1 ≤ (q : Int) * m := Int.mul_pos (by omega) (by omega)
            have hT2 : 1 ≤ (q : Int) * m * S := Int.mul_pos hNm1 (by omega)
            have hb1 : ((q : Int) * m == 0) = false := by simp; omega
            have hb2 : ((q : Int) * m * S == 0) = false := by simp; omega
            have hnext : DeepAt w wr pb mb len (k + 1) S (q * m) (cnt + q) D' :=
              ⟨HPP.out, HQ.out.mod, HA.out.hp, HA.out.hm, by omega, by omega, HDIV.out, by omega, hNm1, by omega, by have := HA.out.hcnt; omega, fun a b h1 h2 h3 h4 => HQ.out.keys a b (by omega) h2 h3 h4⟩
            have HNEXT := Lib.hid hnext
            clear hnext
            go_wp2_with fail
            refine (out_any _ _ _ _ _ _ HPP.out).mono ?_
            rintro e w' ⟨rfl, rfl⟩
            go_wp2_with fail
            refine (done_any _ _ _ _ _ _ HPP.out).mono ?_
            rintro e w' ⟨rfl, rfl⟩
            go_wp2
            go_roundw
            case rel => exact ⟨k + 1, S, _, _, _, rfl, rfl, by go_num, HNEXT.out⟩
            case measure => simp [intOf]; omega
    · go_wp2_with fail
      refine (done_any _ _ _ _ _ _ HA.out.pool).mono ?_
      rintro e w' ⟨rfl, rfl⟩
      go_wp2
      go_ret
      exact ⟨ret_bool (by first | rfl | exact HFIN.out), HA.out.mod⟩
end Go.Proofs.Ytabhddbfjfomeaa
