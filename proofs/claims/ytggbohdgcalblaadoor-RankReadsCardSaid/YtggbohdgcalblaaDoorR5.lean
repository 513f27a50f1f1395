/- The contracts of SameBytes and Less. -/
import Derived.Test.YtggbohdgcalblaaDoorR4
import Derived.Deep.QuietTactic
import Derived.BigQuiet
namespace Go.Proofs.YtggbohdgcalblaaDoor
set_option linter.unusedVariables false
open Go.RowKit

/-- A slice of bytes that is only read. -/
structure Rd (w : World) (v : Value) (xs : List Nat) : Prop where
  shape : ∃ a c, v = .slice a xs.length c ∧ xs.length ≤ c ∧ c ≤ 9223372036854775807 ∧ (a = none → c = 0)
  big : xs.length ≤ 9223372036854775807
  cell : ∀ a c, v = .slice a xs.length c → ∀ i, i < xs.length → ∃ b off, a = some ⟨b, off, none⟩ ∧ b < w.heap.size ∧ w.cell? ⟨b, off + i, none⟩ = some (.int .u8 ((xs.getD i 0 : Nat) : Int))
theorem Rd.mod {S : Nat → Prop} {w w' : World} {v : Value} {xs : List Nat} (h : Rd w v xs) (m : Mod S w w') (hs : ∀ b, v.ownBlock = some b → ¬ S b) : Rd w' v xs := by
  refine ⟨h.shape, h.big, fun a c e i hi => ?_⟩
  obtain ⟨b, off, ea, hb, hc⟩ := h.cell a c e i hi
  exact ⟨b, off, ea, Nat.lt_of_lt_of_le hb m.size, (World.cell?_of_block (w := w) (m.block b hb (hs b (by rw [e, ea]; rfl)))).trans hc⟩
theorem Rd.keep {w w' : World} {v : Value} {xs : List Nat} (h : Rd w v xs) (m : Mod (fun _ => False) w w') : Rd w' v xs := h.mod m (fun _ _ f => f)
theorem Bytes.rd {w w' : World} {v : Value} {l : List Nat} (h : Bytes w w' v l) : Rd w' v l := by
  obtain ⟨a, c, e, h1, h2⟩ := h.seg.shape
  refine ⟨⟨a, c, e, h1, by unfold maxLen at h2; omega, fun ha => ?_⟩, by unfold maxLen at h2; omega, fun a' c' e' i hi => ?_⟩
  · rcases h.seg.2.2 with ⟨e1, _⟩ | ⟨_, _, _, _, e1, _⟩
    · rw [e] at e1; injection e1
    · rw [e, ha] at e1; injection e1 with e2; cases e2
  obtain ⟨g, off, cap, e2, _, hg, _, hc⟩ := h.opened (by intro e0; subst e0; simp at hi)
  rw [e2] at e'
  injection e' with e3 e4 e5
  exact ⟨g, off, e3.symm, hg, (hc i hi).1⟩
theorem Arg.rd {w : World} {v : Value} {zs : List Nat} (h : Arg w v zs) : Rd w v zs := by
  rcases h with ⟨rfl, rfl⟩ | ⟨a, c, rfl, hc, rfl⟩ | ⟨b, off, n, c, rfl, hc, hr⟩
  · exact ⟨⟨_, _, rfl, Nat.le_refl _, by decide, fun _ => rfl⟩, by simp, fun a c e i hi => by simp at hi⟩
  · exact ⟨⟨_, _, rfl, Nat.zero_le _, hc, fun h => by cases h⟩, by simp, fun a c e i hi => by simp at hi⟩
  · have hl := hr.len
    have hcp := hr.cap
    subst hl
    refine ⟨⟨_, _, rfl, hcp, hc, fun h => by cases h⟩, by omega, fun a' c' e i hi => ?_⟩
    injection e with e1 e2 e3
    exact ⟨b, off, e1.symm, hr.lt, hr.cell i hi⟩

theorem addr_zero (ad : Addr) : ad.add 0 = ad := by
  obtain ⟨b, off, sp⟩ := ad
  cases sp <;> simp [Addr.add]
/-- 's[:k]' and 's[k:]' of a slice that is only read. -/
theorem Rd.to {w : World} {v : Value} {xs : List Nat} {P : Program} {e : TypeId} (h : Rd w v xs) {k : Nat} (hk : k ≤ xs.length) {t : TypeId} (ht : P.underlying t = some (.slice e)) (hsz : (P.info? e).map (·.size) = some 1) (kk : IntKind) :
    ∃ v', (Instr.slice t v none (some (.int kk k)) none).run P w = .ok v' w ∧ Rd w v' (xs.take k) ∧ v'.ownBlock = v.ownBlock := by
  obtain ⟨i, hi, hsi⟩ : ∃ i, P.info? e = some i ∧ i.size = 1 := by
    cases hp : P.info? e with
    | none => simp [hp] at hsz
    | some i => exact ⟨i, rfl, by simpa [hp] using hsz⟩
  obtain ⟨a, c, rfl, h1, h2, h3⟩ := h.shape
  have hlen : (xs.take k).length = k := by simp; omega
  have hcell := h.cell a c rfl
  refine ⟨.slice a k c, ?_, ⟨⟨a, c, by rw [hlen], by omega, h2, h3⟩, by omega, fun a' c' e' j hj => ?_⟩, by cases a <;> rfl⟩
  · cases a with
    | none =>
      obtain rfl := h3 rfl
      obtain rfl : k = 0 := by omega
      have hx : xs.length = 0 := by omega
      simp [Instr.slice, run_underlying ht, Instr.sliceBounds, Instr.sliceBound, asIntOf, sizeOf, typeInfo, hi, hx]
    | some ad => by_cases hc : c = 0 <;> simp [Instr.slice, run_underlying ht, Instr.sliceBounds, Instr.sliceBound, asIntOf, sizeOf, typeInfo, hi, addr_zero, hc] <;> (intro; omega)
  · injection e' with e1 e2 e3
    obtain ⟨b, off, ea, hb, hcl⟩ := hcell j (by omega)
    refine ⟨b, off, by rw [← e1, ea], hb, ?_⟩
    rw [hcl]
    simp [List.getD_eq_getElem?_getD, show j < k by omega]
theorem Rd.from {w : World} {v : Value} {xs : List Nat} {P : Program} {e : TypeId} (h : Rd w v xs) {k : Nat} (hk : k ≤ xs.length) {t : TypeId} (ht : P.underlying t = some (.slice e)) (hsz : (P.info? e).map (·.size) = some 1) (kk : IntKind) :
    ∃ v', (Instr.slice t v (some (.int kk k)) none none).run P w = .ok v' w ∧ Rd w v' (xs.drop k) ∧ v'.ownBlock = v.ownBlock := by
  obtain ⟨i, hi, hsi⟩ : ∃ i, P.info? e = some i ∧ i.size = 1 := by
    cases hp : P.info? e with
    | none => simp [hp] at hsz
    | some i => exact ⟨i, rfl, by simpa [hp] using hsz⟩
  obtain ⟨a, c, rfl, h1, h2, h3⟩ := h.shape
  have hlen : (xs.drop k).length = xs.length - k := by simp
  have hcell := h.cell a c rfl
  cases a with
  | none =>
    obtain rfl := h3 rfl
    obtain rfl : k = 0 := by omega
    have hx : xs.length = 0 := by omega
    refine ⟨.slice none 0 0, ?_, ⟨⟨none, 0, by simp [hx], by simp [hx], by decide, fun _ => rfl⟩, by simp [hx], fun a' c' e' j hj => by simp [hx] at hj⟩, by rw [hx]⟩
    simp [Instr.slice, run_underlying ht, Instr.sliceBounds, Instr.sliceBound, asIntOf, sizeOf, typeInfo, hi, hx]
  | some ad =>
    refine ⟨.slice (some (if c = k then ad else ad.add k)) (xs.length - k) (c - k), ?_, ⟨⟨_, _, by rw [hlen], by omega, by omega, fun h => by cases h⟩, by omega, fun a' c' e' j hj => ?_⟩, ?_⟩
    · by_cases hc : c = k <;> simp [Instr.slice, run_underlying ht, Instr.sliceBounds, Instr.sliceBound, asIntOf, sizeOf, typeInfo, hi, hsi, hc] <;> (intro; omega)
    · injection e' with e1 e2 e3
      obtain ⟨b, off, ea, hb, hcl⟩ := hcell (k + j) (by omega)
      injection ea with ea
      subst ea
      refine ⟨b, off + k, by rw [← e1, if_neg (by omega), addr_add], hb, ?_⟩
      rw [Nat.add_assoc, hcl]
      simp [List.getD_eq_getElem?_getD, List.getElem?_drop]
    · by_cases hc : c = k
      · simp [hc]; rfl
      · simp only [if_neg hc]; unfold Addr.add; split <;> rfl
theorem wpList_to_rd {P : Program} {w : World} {v : Value} {xs : List Nat} {e : TypeId} {ops : Array Oper} {rest : List Oper} {o : Oper} {a : Act} {Q : Exit → Act → World → Prop} (hgd : o.guard = none) (x hi : Operand) (t : TypeId) (ho : o.op = .slice t x none (some hi) none)
    (h : Rd w v xs) (k : Nat) (kk : IntKind) (hx : a.eval x = v) (hhi : a.eval hi = .int kk k) (hk : k ≤ xs.length) (ht : P.underlying t = some (.slice e)) (hsz : (P.info? e).map (·.size) = some 1)
    (hK : ∀ v', Rd w v' (xs.take k) → v'.ownBlock = v.ownBlock → wpList P ops Q rest (a.put o.dst v') w) : wpList P ops Q (o :: rest) a w :=
  wpList_plain hgd fun _ hK' => by
    obtain ⟨v', hr, h2, h3⟩ := h.to (P := P) hk ht hsz kk
    unfold Oper.wp execOp
    have ht' : P.underlying t = some (.slice (P.elem t)) := by simp [Program.elem, ht]
    simp only [ho, Option.map_some, Option.map_none, hhi, hx, Sem.run_bind, run_sliceAt_slice _ t _ _ _ _ ht', hr, Result.andThen_ok, Sem.run_pure]
    exact hK' _ _ (hK v' h2 h3)
theorem wpList_from_rd {P : Program} {w : World} {v : Value} {xs : List Nat} {e : TypeId} {ops : Array Oper} {rest : List Oper} {o : Oper} {a : Act} {Q : Exit → Act → World → Prop} (hgd : o.guard = none) (x lo : Operand) (t : TypeId) (ho : o.op = .slice t x (some lo) none none)
    (h : Rd w v xs) (k : Nat) (kk : IntKind) (hx : a.eval x = v) (hlo : a.eval lo = .int kk k) (hk : k ≤ xs.length) (ht : P.underlying t = some (.slice e)) (hsz : (P.info? e).map (·.size) = some 1)
    (hK : ∀ v', Rd w v' (xs.drop k) → v'.ownBlock = v.ownBlock → wpList P ops Q rest (a.put o.dst v') w) : wpList P ops Q (o :: rest) a w :=
  wpList_plain hgd fun _ hK' => by
    obtain ⟨v', hr, h2, h3⟩ := h.from (P := P) hk ht hsz kk
    unfold Oper.wp execOp
    have ht' : P.underlying t = some (.slice (P.elem t)) := by simp [Program.elem, ht]
    simp only [ho, Option.map_some, Option.map_none, hlo, hx, Sem.run_bind, run_sliceAt_slice _ t _ _ _ _ ht', hr, Result.andThen_ok, Sem.run_pure]
    exact hK' _ _ (hK v' h2 h3)

theorem Mod.drewN {S : Nat → Prop} {a w : World} (h : Mod S a w) (n : Nat) : Mod S a (w.drewN n) := ⟨h.os, h.tape, h.output, h.size, h.block⟩
theorem ret_bool {a b : Bool} (h : a = b) : Ending.returned (.bool a) = .returned (.bool b) := by rw [h]
theorem take_succ_eq {xs ys : List Nat} {k : Nat} (h : xs.take k = ys.take k) (hx : k < xs.length) (hy : k < ys.length) (e : xs.getD k 0 = ys.getD k 0) : xs.take (k + 1) = ys.take (k + 1) := by
  rw [List.take_succ_eq_append_getElem hx, List.take_succ_eq_append_getElem hy, h]
  simp [List.getD_eq_getElem?_getD, hx, hy] at e
  rw [e]

def sameB (xs ys : List Nat) : Bool := decide (xs = ys)
theorem same_any (u v : Value) (xs ys : List Nat) (w : World) (hu : Rd w u xs) (hv : Rd w v ys) : Calls Tryd.prog 13 #[u, v] w fun e w' => e = .returned (.bool (sameB xs ys)) ∧ Mod (fun _ => False) w w' := by
  obtain ⟨a1, c1, rfl, -⟩ := hu.shape
  obtain ⟨a2, c2, rfl, -⟩ := hv.shape
  have hb1 := hu.big
  have hb2 := hv.big
  have HU := Lib.hid (hu.cell a1 c1 rfl)
  have HV := Lib.hid (hv.cell a2 c2 rfl)
  clear hu hv
  by_cases hl : xs.length = ys.length
  · have HL := Lib.hid hl
    have hl1 : ((xs.length : Int) == (ys.length : Int)) = true := by simp; omega
    have hl2 : (!((xs.length : Int) == (ys.length : Int))) = false := by rw [hl1]; rfl
    have hl3 : (ys.length : Int) = xs.length := by omega
    clear hl hl1 hl2
    have hle1 : ys.length ≤ xs.length := by omega
    have hle2 : xs.length ≤ ys.length := by omega
    clear hl3
    have hne : ((xs.length : Int) != (ys.length : Int)) = false := by simp; omega
    go_enter Tryd.func13, Tryd.ntmps13
    go_wp2
    go_loopw [13] (fun i wr => ∃ k : Nat, i = .int .i64 k ∧ k ≤ xs.length ∧ xs.take k = ys.take k ∧ Mod (fun _ => False) w wr) (fun i _ => xs.length - (intOf i).toNat)
    case atStart => exact ⟨0, rfl, Nat.zero_le _, by simp, Mod.refl _ _⟩
    case round =>
      obtain ⟨k, rfl, hk, ht, hm⟩ := hrel
      have HT := Lib.hid ht
      have HM := Lib.hid hm
      clear ht hm
      by_cases hkl : k < xs.length
      · obtain ⟨p1, o1, rfl, hp1, q1⟩ := HU.out k hkl
        obtain ⟨p2, o2, rfl, hp2, q2⟩ := HV.out k (by omega)
        have d1 : wr.cell? ⟨p1, o1 + k, none⟩ = some (.int .u8 ((xs.getD k 0 : Nat) : Int)) := (World.cell?_of_block (w := w) (HM.out.block p1 hp1 (fun f => f))).trans q1
        have d2 : wr.cell? ⟨p2, o2 + k, none⟩ = some (.int .u8 ((ys.getD k 0 : Nat) : Int)) := (World.cell?_of_block (w := w) (HM.out.block p2 hp2 (fun f => f))).trans q2
        have k1 : (k : Int) < (xs.length : Int) := by omega
        have k2 : (k : Int) < (ys.length : Int) := by omega
        clear q1 q2
        have HX : Hid (∀ x y : Nat, x = xs.getD k 0 → y = ys.getD k 0 → x = y → xs.take (k + 1) = ys.take (k + 1)) := fun x y h1 h2 h3 => take_succ_eq HT.out hkl (by omega) (by rw [← h1, ← h2]; exact h3)
        have HY : Hid (∀ x y : Nat, x = xs.getD k 0 → y = ys.getD k 0 → x ≠ y → sameB xs ys = false) := fun x y h1 h2 h3 => by
          unfold sameB
          rw [decide_eq_false_iff_not]
          intro e; subst e; exact h3 (h1.trans h2.symm)
        obtain ⟨x, hx⟩ : ∃ x, x = xs.getD k 0 := ⟨_, rfl⟩
        obtain ⟨y, hy⟩ : ∃ y, y = ys.getD k 0 := ⟨_, rfl⟩
        have HX1 := Lib.hid hx
        have HY1 := Lib.hid hy
        rw [← hx] at d1
        rw [← hy] at d2
        clear hx hy
        by_cases hxy : x = y
        · have HN := Lib.hid (HX.out x y HX1.out HY1.out hxy)
          have hb : ((x : Int) != (y : Int)) = false := by simp; omega
          have hb' : ((x : Int) == (y : Int)) = true := by simp; omega
          clear hxy
          go_wp2_with fail
          go_quiet (fail)
          go_wp2
          go_roundw
          case rel => exact ⟨k + 1, by go_num, by omega, HN.out, HM.out.trans (by repeat (first | exact Mod.refl _ _ | apply Mod.drewN | apply Mod.drew))⟩
          case measure => simp [intOf]; omega
        · have HF := Lib.hid (HY.out x y HX1.out HY1.out hxy)
          have hb : ((x : Int) != (y : Int)) = true := by simp; omega
          have hb' : ((x : Int) == (y : Int)) = false := by simp; omega
          clear hxy
          go_wp2_with fail
          go_quiet (fail)
          go_wp2
          go_ret
          exact ⟨ret_bool HF.out.symm, HM.out.trans (by repeat (first | exact Mod.refl _ _ | apply Mod.drewN | apply Mod.drew))⟩
      · have HF : Hid (sameB xs ys = true) := by
          show _ = _
          have h1 := HT.out
          rw [List.take_of_length_le (by omega), List.take_of_length_le (by omega)] at h1
          simp [sameB, h1]
        go_wp2
        go_ret
        exact ⟨ret_bool HF.out.symm, HM.out⟩
  · have hne : ((xs.length : Int) != (ys.length : Int)) = true := by simp; omega
    have hne' : ((xs.length : Int) == (ys.length : Int)) = false := by simp; omega
    have HF : Hid (sameB xs ys = false) := by
      show _ = _
      unfold sameB
      rw [decide_eq_false_iff_not]
      intro e; subst e; exact hl rfl
    clear hl
    go_enter Tryd.func13, Tryd.ntmps13
    go_wp2
    go_ret
    exact ⟨ret_bool HF.out.symm, Mod.refl _ _⟩

def ltB : List Nat → List Nat → Bool
  | _, [] => false
  | [], _ :: _ => true
  | x :: xs, y :: ys => if x = y then ltB xs ys else decide (x < y)
theorem ltB_common (k : Nat) : ∀ (xs ys : List Nat), xs.take k = ys.take k → k ≤ xs.length → k ≤ ys.length → ltB xs ys = ltB (xs.drop k) (ys.drop k) := by
  induction k with
  | zero => intro xs ys _ _ _; rfl
  | succ k ih =>
    intro xs ys h h1 h2
    match xs, ys, h, h1, h2 with
    | x :: xs, y :: ys, h, h1, h2 =>
      simp only [List.take_succ_cons, List.cons.injEq] at h
      obtain ⟨rfl, h⟩ := h
      simp only [List.drop_succ_cons, ltB, if_true]
      exact ih xs ys h (by simpa using h1) (by simpa using h2)
theorem ltB_short {xs ys : List Nat} {k : Nat} (h : xs.take k = ys.take k) (h1 : k < xs.length) (h2 : ys.length ≤ k) : ltB xs ys = false := by
  have hl := congrArg List.length h
  simp at hl
  have e : ys.length = k := by omega
  rw [ltB_common k xs ys h (by omega) (by omega), List.drop_of_length_le (by omega : ys.length ≤ k)]
  cases xs.drop k <;> rfl
theorem ltB_here {xs ys : List Nat} {k : Nat} (h : xs.take k = ys.take k) (h1 : k < xs.length) (h2 : k < ys.length) (hne : xs.getD k 0 ≠ ys.getD k 0) : ltB xs ys = decide (xs.getD k 0 < ys.getD k 0) := by
  rw [ltB_common k xs ys h (by omega) (by omega), List.drop_eq_getElem_cons h1, List.drop_eq_getElem_cons h2]
  simp only [List.getD_eq_getElem?_getD, List.getElem?_eq_getElem h1, List.getElem?_eq_getElem h2, Option.getD_some] at hne ⊢
  simp only [ltB, if_neg hne]
theorem ltB_end {xs ys : List Nat} (h : xs.take xs.length = ys.take xs.length) : ltB xs ys = decide (xs.length < ys.length) := by
  have hl := congrArg List.length h
  simp at hl
  rw [ltB_common xs.length xs ys h (Nat.le_refl _) (by omega), List.drop_of_length_le (Nat.le_refl xs.length)]
  by_cases h2 : xs.length < ys.length
  · rw [List.drop_eq_getElem_cons h2]; simp [ltB, h2]
  · rw [List.drop_of_length_le (by omega)]; simp [ltB]; omega

theorem less_any (u v : Value) (xs ys : List Nat) (w : World) (hu : Rd w u xs) (hv : Rd w v ys) : Calls Tryd.prog 12 #[u, v] w fun e w' => e = .returned (.bool (ltB xs ys)) ∧ Mod (fun _ => False) w w' := by
  obtain ⟨a1, c1, rfl, -⟩ := hu.shape
  obtain ⟨a2, c2, rfl, -⟩ := hv.shape
  have hb1 := hu.big
  have hb2 := hv.big
  have HU := Lib.hid (hu.cell a1 c1 rfl)
  have HV := Lib.hid (hv.cell a2 c2 rfl)
  clear hu hv
  go_enter Tryd.func12, Tryd.ntmps12
  go_wp2
  go_loopw [8] (fun i wr => ∃ k : Nat, i = .int .i64 k ∧ k ≤ xs.length ∧ xs.take k = ys.take k ∧ Mod (fun _ => False) w wr) (fun i _ => xs.length - (intOf i).toNat)
  case atStart => exact ⟨0, rfl, Nat.zero_le _, by simp, Mod.refl _ _⟩
  case round =>
    obtain ⟨k, rfl, hk, ht, hm⟩ := hrel
    have HT := Lib.hid ht
    have HM := Lib.hid hm
    clear ht hm
    by_cases hkl : k < xs.length
    · by_cases hky : k < ys.length
      · obtain ⟨p1, o1, rfl, hp1, q1⟩ := HU.out k hkl
        obtain ⟨p2, o2, rfl, hp2, q2⟩ := HV.out k hky
        have d1 : wr.cell? ⟨p1, o1 + k, none⟩ = some (.int .u8 ((xs.getD k 0 : Nat) : Int)) := (World.cell?_of_block (w := w) (HM.out.block p1 hp1 (fun f => f))).trans q1
        have d2 : wr.cell? ⟨p2, o2 + k, none⟩ = some (.int .u8 ((ys.getD k 0 : Nat) : Int)) := (World.cell?_of_block (w := w) (HM.out.block p2 hp2 (fun f => f))).trans q2
        have k1 : (k : Int) < (xs.length : Int) := by omega
        have k2 : (k : Int) < (ys.length : Int) := by omega
        clear q1 q2
        have HX : Hid (∀ x y : Nat, x = xs.getD k 0 → y = ys.getD k 0 → x = y → xs.take (k + 1) = ys.take (k + 1)) := fun x y h1 h2 h3 => take_succ_eq HT.out hkl hky (by rw [← h1, ← h2]; exact h3)
        have HY : Hid (∀ x y : Nat, x = xs.getD k 0 → y = ys.getD k 0 → x ≠ y → ltB xs ys = decide (x < y)) := fun x y h1 h2 h3 => by
          rw [ltB_here HT.out hkl hky (by rw [← h1, ← h2]; exact h3), ← h1, ← h2]
        obtain ⟨x, hx⟩ : ∃ x, x = xs.getD k 0 := ⟨_, rfl⟩
        obtain ⟨y, hy⟩ : ∃ y, y = ys.getD k 0 := ⟨_, rfl⟩
        have HX1 := Lib.hid hx
        have HY1 := Lib.hid hy
        rw [← hx] at d1
        rw [← hy] at d2
        clear hx hy
        by_cases hxy : x = y
        · have HN := Lib.hid (HX.out x y HX1.out HY1.out hxy)
          have hb : ((x : Int) != (y : Int)) = false := by simp; omega
          have hb' : ((x : Int) == (y : Int)) = true := by simp; omega
          clear hxy
          go_wp2_with fail
          go_quiet (fail)
          go_wp2
          go_roundw
          case rel => exact ⟨k + 1, by go_num, by omega, HN.out, HM.out.trans (by repeat (first | exact Mod.refl _ _ | apply Mod.drewN | apply Mod.drew))⟩
          case measure => simp [intOf]; omega
        · have HF := Lib.hid (HY.out x y HX1.out HY1.out hxy)
          have hb : ((x : Int) != (y : Int)) = true := by simp; omega
          have hb' : ((x : Int) == (y : Int)) = false := by simp; omega
          clear hxy
          go_wp2_with fail
          go_quiet (fail)
          go_wp2_with fail
          go_quiet (fail)
          go_wp2
          go_ret
          exact ⟨ret_bool HF.out.symm, HM.out.trans (by repeat (first | exact Mod.refl _ _ | apply Mod.drewN | apply Mod.drew))⟩
      · have HF := Lib.hid (ltB_short HT.out hkl (by omega))
        go_wp2
        go_ret
        exact ⟨ret_bool HF.out.symm, HM.out⟩
    · obtain rfl : k = xs.length := by omega
      have HF : Hid (ltB xs ys = decide (xs.length < ys.length)) := Lib.hid (ltB_end HT.out)
      go_wp2
      go_ret
      exact ⟨ret_bool HF.out.symm, HM.out⟩
end Go.Proofs.YtggbohdgcalblaaDoor
