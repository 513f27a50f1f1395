/- The contracts of the reference's readers. -/
import Derived.Test.YtggbohdgcalblaaDoorP8
import Derived.Test.YtggbohdgcalblaaDoorR18
namespace Go.Proofs.YtggbohdgcalblaaDoor
set_option linter.unusedVariables false
open Go.RowKit

set_option maxHeartbeats 1000000 in
theorem front_any (u v : Value) (xs ys : List Nat) (w : World) (hu : Rd w u xs) (hv : Rd w v ys) (hne : ys ≠ []) : Calls Tryd.prog 31 #[u, v] w fun e w' => e = .returned (.bool (frontB xs ys)) ∧ Mod (fun _ => False) w w' := by
  obtain ⟨a1, c1, rfl, hc1, hc2, -⟩ := hu.shape
  obtain ⟨a2, c2, rfl, -⟩ := hv.shape
  by_cases hl : ys.length ≤ xs.length
  · have hpos : 0 < ys.length := List.length_pos_iff.2 hne
    obtain ⟨b, off, rfl, -⟩ := hu.cell _ _ rfl 0 (by omega)
    have HT := Lib.hid (hu.take_lit hl)
    have HV := Lib.hid hv
    have hle : ys.length ≤ c1 := by omega
    have HF : Hid (sameB (xs.take ys.length) ys = frontB xs ys) := Lib.hid (by
      unfold sameB frontB
      congr 1
      simp [hl])
    have hl2 : (ys.length : Int) ≤ (xs.length : Int) := by omega
    clear hu hv hne hpos hl
    go_enter Tryd.func31, Tryd.ntmps31
    go_wp2_with fail
    refine (same_any _ _ _ _ _ HT.out HV.out).mono ?_
    rintro e w3 ⟨rfl, hm⟩
    rw [HF.out]
    have M := Lib.hid hm
    clear hm
    go_wp2
    go_ret
    exact ⟨rfl, M.out⟩
  · have HF : Hid (frontB xs ys = false) := Lib.hid (by unfold frontB; simp [hl])
    have hl2 : ¬ (ys.length : Int) ≤ (xs.length : Int) := by omega
    clear hu hv hne hl
    go_enter Tryd.func31, Tryd.ntmps31
    go_wp2
    go_ret
    exact ⟨ret_bool HF.out.symm, Mod.refl _ _⟩

/-- 's[lo:hi]' of a slice that is only read. -/
theorem Rd.mid {w : World} {v : Value} {xs : List Nat} {P : Program} {e : TypeId} (h : Rd w v xs) {lo hi : Nat} (hlo : lo ≤ hi) (hhi : hi ≤ xs.length) {t : TypeId} (ht : P.underlying t = some (.slice e)) (hsz : (P.info? e).map (·.size) = some 1) (kk kk' : IntKind) :
    ∃ v', (Instr.slice t v (some (.int kk lo)) (some (.int kk' hi)) none).run P w = .ok v' w ∧ Rd w v' ((xs.take hi).drop lo) ∧ v'.ownBlock = v.ownBlock := by
  obtain ⟨i, hi', hsi⟩ : ∃ i, P.info? e = some i ∧ i.size = 1 := by
    cases hp : P.info? e with
    | none => simp [hp] at hsz
    | some i => exact ⟨i, rfl, by simpa [hp] using hsz⟩
  obtain ⟨a, c, rfl, h1, h2, h3⟩ := h.shape
  have hlen : ((xs.take hi).drop lo).length = hi - lo := by simp; omega
  have hcell := h.cell a c rfl
  cases a with
  | none =>
    obtain rfl := h3 rfl
    obtain rfl : hi = 0 := by omega
    obtain rfl : lo = 0 := by omega
    have hx : xs.length = 0 := by omega
    refine ⟨.slice none 0 0, ?_, ⟨⟨none, 0, by simp, by simp, by decide, fun _ => rfl⟩, by simp, fun a' c' e' j hj => by simp at hj⟩, by rw [hx]⟩
    simp [Instr.slice, run_underlying ht, Instr.sliceBounds, Instr.sliceBound, asIntOf, sizeOf, typeInfo, hi', hx]
  | some ad =>
    refine ⟨.slice (some (if c = lo then ad else ad.add lo)) (hi - lo) (c - lo), ?_, ⟨⟨_, _, by rw [hlen], by omega, by omega, fun h => by cases h⟩, by omega, fun a' c' e' j hj => ?_⟩, ?_⟩
    · have hhc : hi ≤ c := by omega
      by_cases hc : c = lo
      · subst hc
        simp [Instr.slice, run_underlying ht, Instr.sliceBounds, Instr.sliceBound, asIntOf, sizeOf, typeInfo, hi', hhc, hlo]
      · simp [Instr.slice, run_underlying ht, Instr.sliceBounds, Instr.sliceBound, asIntOf, sizeOf, typeInfo, hi', hsi, hc, hhc, hlo]
    · injection e' with e1 e2 e3
      obtain ⟨b, off, ea, hb, hcl⟩ := hcell (lo + j) (by omega)
      injection ea with ea
      subst ea
      refine ⟨b, off + lo, by rw [← e1, if_neg (by omega), addr_add], hb, ?_⟩
      rw [Nat.add_assoc, hcl]
      simp [List.getD_eq_getElem?_getD, List.getElem?_drop, show lo + j < hi by omega]
    · by_cases hc : c = lo
      · simp [hc]; rfl
      · simp only [if_neg hc]; unfold Addr.add; split <;> rfl
theorem wpList_mid_rd {P : Program} {w : World} {v : Value} {xs : List Nat} {e : TypeId} {ops : Array Oper} {rest : List Oper} {o : Oper} {a : Act} {Q : Exit → Act → World → Prop} (hgd : o.guard = none) (x lo hi : Operand) (t : TypeId) (ho : o.op = .slice t x (some lo) (some hi) none)
    (h : Rd w v xs) (k k2 : Nat) (kk kk' : IntKind) (hx : a.eval x = v) (hlo : a.eval lo = .int kk k) (hhi : a.eval hi = .int kk' k2) (hk : k ≤ k2) (hk2 : k2 ≤ xs.length) (ht : P.underlying t = some (.slice e)) (hsz : (P.info? e).map (·.size) = some 1)
    (hK : ∀ v', Rd w v' ((xs.take k2).drop k) → v'.ownBlock = v.ownBlock → wpList P ops Q rest (a.put o.dst v') w) : wpList P ops Q (o :: rest) a w :=
  wpList_plain hgd fun _ hK' => by
    obtain ⟨v', hr, h2, h3⟩ := h.mid (P := P) hk hk2 ht hsz kk kk'
    unfold Oper.wp execOp
    have ht' : P.underlying t = some (.slice (P.elem t)) := by simp [Program.elem, ht]
    simp only [ho, Option.map_some, Option.map_none, hlo, hhi, hx, Sem.run_bind, run_sliceAt_slice _ t _ _ _ _ ht', hr, Result.andThen_ok, Sem.run_pure]
    exact hK' _ _ (hK v' h2 h3)
/-- p[1:1+k] -/
theorem digs_rd {w : World} {v : Value} {b k : Nat} {r : List Nat} (h : Rd w v (((b :: r).take (1 + k)).drop 1)) : ∃ x n d, v = .slice x n d ∧ (r.take k).length = n ∧ Hid (Rd w (.slice x n d) (r.take k)) := by
  obtain ⟨x, d, rfl, -⟩ := h.shape
  have e : ((b :: r).take (1 + k)).drop 1 = r.take k := by rw [Nat.add_comm, List.take_succ_cons]; rfl
  rw [e] at h ⊢
  exact ⟨_, _, _, rfl, rfl, h⟩

theorem Hid.mk' {p : Prop} (h : p) : Hid p := h

set_option maxRecDepth 100000 in
set_option maxHeartbeats 2000000 in
theorem docU_any (v : Value) (xs : List Nat) (w : World) (hv : Rd w v xs) (hx : ∀ b ∈ xs, b < 256) :
    Calls Tryd.prog 25 #[v] w fun e w' => e = resU (readU xs) ∧ Mod (fun _ => False) w w' := by
  obtain ⟨a, c, hva, -⟩ := hv.shape
  have HV := Lib.hid hv
  cases xs with
  | nil =>
    subst hva
    simp only [List.length_nil]
    clear hv
    go_enter Tryd.func25, Tryd.ntmps25
    go_wp2
    go_ret3
    exact ⟨rfl, Mod.refl _ _⟩
  | cons k r =>
    obtain ⟨b, off, rfl, hb, q0⟩ := hv.cell a c hva 0 (by simp)
    simp only [Nat.add_zero, List.getD_cons_zero] at q0
    have hbig := hv.big
    simp only [List.length_cons] at hbig
    have hl0 : ((r.length + 1 : Nat) : Int) ≠ 0 := by omega
    have HXR : Hid (∀ b ∈ r, b < 256) := fun b hb => hx b (List.mem_cons_of_mem _ hb)
    have hk256 : k < 256 := hx k (List.mem_cons_self ..)
    simp only [List.length_cons] at hva
    subst hva
    clear hv hx
    have hk0 : (0 : Int) ≤ (k : Int) := by omega
    have hk1 : (k : Int) < 256 := by omega
    have hz : ((r.length : Int) + 1 == 0) = false := by simp; omega
    by_cases hk8 : k ≤ 8
    · have h8 : ¬ (8 : Int) < (k : Int) := by omega
      by_cases hkl : k ≤ r.length
      · have h9 : ¬ ((r.length + 1 : Nat) : Int) < 1 + (k : Int) := by omega
        have h10 : 1 + k ≤ (k :: r).length := by simp; omega
        have H10 := Lib.hid h10
        have HTL : Hid ((r.take k).length = k) := Lib.hid (by simp; omega)
        clear h10
        go_enter Tryd.func25, Tryd.ntmps25
        go_wp2_with (first | (refine wpList_mid_rd rfl (.tmp 27) (.const (.int .i64 1)) (.tmp 32) 23 rfl HV.out 1 (1 + k) .i64 .i64 rfl rfl rfl (by omega) H10.out Tryd.underlying23 sizeU8 ?_; intro v1 hv1 ho1; (obtain ⟨a1, n1, d1, rfl, hn1, HV1⟩ := digs_rd hv1); clear hv1 ho1; rw [HTL.out] at hn1; subst hn1))
        have HC := Lib.hid (HV1.out.cell _ _ (by rw [HTL.out]))
        rw [HTL.out] at HC
        go_loopw [5, 35] (fun n i wr => ∃ j : Nat, n = .int .u64 (digN false r j : Nat) ∧ i = .int .i64 j ∧ j ≤ k ∧ Mod (fun _ => False) w wr) (fun _ i _ => k - (intOf i).toNat)
        case atStart => exact ⟨0, rfl, rfl, Nat.zero_le _, Mod.refl _ _⟩
        case round =>
          obtain ⟨j, rfl, rfl, hj, hmo⟩ := hrel
          have HMO := Lib.hid hmo
          clear hmo
          by_cases hjk : j < k
          · obtain ⟨p1, o1, rfl, hp1, q1⟩ := HC.out j hjk
            have e1 : (r.take k).getD j 0 = r.getD j 0 := by simp [List.getD_eq_getElem?_getD, hjk]
            rw [e1] at q1
            have d1 : wr.cell? ⟨p1, o1 + j, none⟩ = some (.int .u8 ((r.getD j 0 : Nat) : Int)) := (World.cell?_of_block (w := w) (HMO.out.block p1 hp1 (fun f => f))).trans q1
            have hs := digN_succ (t := false) (show j < r.length by omega)
            have hb1 := getD_lt HXR.out j
            have hlt := digN_lt7 (t := false) HXR.out (show j ≤ 7 by omega)
            have hs2 : 256 * ((digN false r j : Nat) : Int) + ((r.getD j 0 : Nat) : Int) = ((digN false r (j + 1) : Nat) : Int) := by
              rw [hs]; simp [turn1]; omega
            have HS2 := Lib.hid hs2
            clear hs hs2 q1 e1
            obtain ⟨N, hN⟩ : ∃ N, N = digN false r j := ⟨_, rfl⟩
            obtain ⟨B, hB⟩ : ∃ B, B = r.getD j 0 := ⟨_, rfl⟩
            rw [← hN] at hlt HS2 ⊢
            rw [← hB] at hb1 d1 HS2
            have hlt2 : (N : Int) < 72057594037927936 := by omega
            clear hN hB hlt
            go_wp2
            go_roundw
            case rel => exact ⟨j + 1, by rw [← HS2.out], by go_num, by omega, HMO.out.trans (by repeat (first | exact Mod.refl _ _ | apply Mod.drewN | apply Mod.drew))⟩
            case measure => simp [intOf]; omega
          · obtain rfl : j = k := by omega
            have hN64 := digN_lt (t := false) HXR.out hk8
            have HU := Lib.hid (fun w' => refUint_any (digN false r j) hN64 w')
            have HFR := Lib.hid (frontU HXR.out hkl)
            have HRU : Hid (readU (j :: r) = if decide (sizeN (digN false r j) = j) = true then some (digN false r j, 1 + j) else none) := Lib.hid (by
              simp only [readU, decide_eq_true_eq]
              by_cases h : sizeN (digN false r j) = j
              · rw [if_pos ⟨hk8, hkl, h⟩, if_pos h]
              · rw [if_neg (fun h2 => h h2.2.2), if_neg h])
            have HLN : Hid (sizeN (digN false r j) = j → (codeU (digN false r j)).length = 1 + j) := Lib.hid (fun h => by rw [codeU_length, h])
            obtain ⟨N, hN⟩ : ∃ N, N = digN false r j := ⟨_, rfl⟩
            rw [← hN] at HU HFR HRU HLN ⊢
            clear hN hN64
            go_wp2_with fail
            refine (HU.out _).mono ?_
            rintro e w4 ⟨v4, rfl, hB⟩
            have R4 := Lib.hid hB.rd
            have M4 := Lib.hid (HMO.out.trans hB.mod)
            clear hB HMO
            go_wp2_with fail
            refine (front_any _ _ _ _ _ (HV.out.keep M4.out) R4.out (by simp [codeU])).mono ?_
            rintro e w5 ⟨rfl, hm⟩
            rw [HFR.out]
            have M5 := Lib.hid (M4.out.trans hm)
            clear hm M4 R4
            by_cases hsz : sizeN N = j
            · have hd : decide (sizeN N = j) = true := by simp [hsz]
              rw [hd] at HRU ⊢
              have HL := Lib.hid (HLN.out hsz)
              clear hsz hd HLN
              go_wp2_with fail
              refine (HU.out _).mono ?_
              rintro e w6 ⟨v6, rfl, hB⟩
              have M6 := Lib.hid (M5.out.trans hB.mod)
              obtain ⟨a6, c6, rfl, -⟩ := hB.seg.shape
              clear hB M5
              rw [HL.out]
              go_wp2
              go_ret3
              exact ⟨by rw [HRU.out]; simp [resU], M6.out⟩
            · have hd : decide (sizeN N = j) = false := by simp [hsz]
              rw [hd] at HRU ⊢
              clear hsz hd HLN
              go_wp2
              go_ret3
              exact ⟨by rw [HRU.out]; rfl, M5.out⟩
      · have h9 : ((r.length + 1 : Nat) : Int) < 1 + (k : Int) := by omega
        have HF : Hid (readU (k :: r) = none) := Lib.hid (by simp only [readU]; rw [if_neg (fun h => hkl h.2.1)])
        clear hkl
        go_enter Tryd.func25, Tryd.ntmps25
        go_wp2
        go_ret3
        exact ⟨by rw [HF.out]; rfl, Mod.refl _ _⟩
    · have h8 : (8 : Int) < (k : Int) := by omega
      have HF : Hid (readU (k :: r) = none) := Lib.hid (by simp only [readU]; rw [if_neg (fun h => hk8 h.1)])
      clear hk8
      go_enter Tryd.func25, Tryd.ntmps25
      go_wp2
      go_ret3
      exact ⟨by rw [HF.out]; rfl, Mod.refl _ _⟩
end Go.Proofs.YtggbohdgcalblaaDoor
