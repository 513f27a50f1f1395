/- Lemmas for the claim, in one text: G7, TC. -/
import Derived.Test.YtbgjbikpenefoaaGreatDoorM07
import Derived.Test.YtbgjbikpenefoaaGreatDoorM02
import Derived.Test.YtbgjbikpenefoaaGreatDoorA

/- G7: what is needed of it (by shake.py). -/

/- G7, as far as the seat goes. -/
/- s[lo:hi] of slices of structs that are only read. -/
namespace Go.Proofs.YtbgjbikpenefoaaGreatDoor
set_option linter.unusedVariables false
open Go.RowKit
theorem RdS.cut {w : World} {size n : Nat} {v : Value} {xs : List Value} {P : Program} {e : TypeId} (h : RdS w size v n xs) (h0 : 0 < size) {lo hi : Nat} (hlo : lo ≤ hi) (hhi : hi ≤ n) {t : TypeId} (ht : P.underlying t = some (.slice e)) (hsz : (P.info? e).map (·.size) = some size) (kk kk' : IntKind)
    (L H : Option Value) (hL : L = some (.int kk lo) ∨ (L = none ∧ lo = 0)) (hH : H = some (.int kk' hi) ∨ (H = none ∧ hi = n)) :
    ∃ v', (∀ wx, (Instr.slice t v L H none).run P wx = .ok v' wx) ∧ RdS w size v' (hi - lo) ((xs.take (hi * size)).drop (lo * size)) ∧ v'.ownBlock = v.ownBlock := by
  obtain ⟨i, hi', hsi⟩ : ∃ i, P.info? e = some i ∧ i.size = size := by
    cases hp : P.info? e with
    | none => simp [hp] at hsz
    | some i => exact ⟨i, rfl, by simpa [hp] using hsz⟩
  obtain ⟨a, c, rfl, h1, h2, h3⟩ := h.shape
  have hx := h.len
  have hm : hi * size ≤ n * size := Nat.mul_le_mul_right _ hhi
  have hlen : ((xs.take (hi * size)).drop (lo * size)).length = (hi - lo) * size := by
    rw [List.length_drop, List.length_take, hx, Nat.sub_mul]; omega
  have hcell := h.cell a c rfl
  cases a with
  | none =>
    obtain rfl := h3 rfl
    obtain rfl : hi = 0 := by omega
    obtain rfl : lo = 0 := by omega
    obtain rfl : n = 0 := by omega
    refine ⟨.slice none 0 0, ?_, ⟨by rw [hlen], ⟨none, 0, rfl, by simp, by omega, fun _ => rfl⟩, fun a' c' e' j u hu => ?_⟩, rfl⟩
    · intro wx; rcases hL with rfl | ⟨rfl, _⟩ <;> rcases hH with rfl | ⟨rfl, _⟩ <;> simp [Instr.slice, run_underlying ht, Instr.sliceBounds, Instr.sliceBound, asIntOf, sizeOf, typeInfo, hi']
    · simp at hu
  | some ad =>
    have hhc : hi ≤ c := by omega
    have hlc : lo ≤ c := by omega
    refine ⟨.slice (some (if c = lo then ad else ad.add (lo * size))) (hi - lo) (c - lo), ?_, ⟨hlen, ⟨_, _, rfl, by omega, by omega, fun h => by cases h⟩, fun a' c' e' j u hu => ?_⟩, ?_⟩
    · intro wx
      by_cases hc : c = lo
      · subst hc
        obtain rfl : hi = c := by omega
        rcases hL with rfl | ⟨rfl, hl0⟩ <;> rcases hH with rfl | ⟨rfl, hhn⟩ <;> simp_all [Instr.slice, run_underlying ht, Instr.sliceBounds, Instr.sliceBound, asIntOf, sizeOf, typeInfo]
      · rcases hL with rfl | ⟨rfl, hl0⟩ <;> rcases hH with rfl | ⟨rfl, hhn⟩ <;> simp_all [Instr.slice, run_underlying ht, Instr.sliceBounds, Instr.sliceBound, asIntOf, sizeOf, typeInfo]
    · injection e' with e1 e2 e3
      have hj : j < (hi - lo) * size := by rw [← hlen]; exact (List.getElem?_eq_some_iff.1 hu).1
      have hc : c ≠ lo := fun e => by
        have : hi - lo = 0 := by omega
        rw [this] at hj; omega
      rw [List.getElem?_drop, List.getElem?_take] at hu
      split at hu
      · obtain ⟨b, off, ea, hb, hcl⟩ := hcell (lo * size + j) u hu
        injection ea with ea
        subst ea
        refine ⟨b, off + lo * size, by rw [← e1, if_neg hc, addr_add], hb, ?_⟩
        rw [Nat.add_assoc, hcl]
      · simp at hu
    · by_cases hc : c = lo
      · simp [hc, Value.ownBlock]
      · obtain ⟨b, off, spot⟩ := ad
        cases spot <;> simp only [hc, if_false, Value.ownBlock, Addr.add] <;> (try split) <;> rfl
theorem vcells_drop (l : List Vs) (k : Nat) : (vcells l).drop (k * 4) = vcells (l.drop k) := by
  induction l generalizing k with
  | nil => simp [vcells]
  | cons s r ih =>
    cases k with
    | zero => simp
    | succ k =>
      have : vcells (s :: r) = s.cells ++ vcells r := by simp [vcells]
      rw [this, show (k + 1) * 4 = 4 + k * 4 by omega, ← List.drop_drop, List.drop_left' (by rfl), List.drop_succ_cons, ih]
theorem vcells_take (l : List Vs) (k : Nat) : (vcells l).take (k * 4) = vcells (l.take k) := by
  induction l generalizing k with
  | nil => simp [vcells]
  | cons s r ih =>
    cases k with
    | zero => simp [vcells]
    | succ k =>
      have : vcells (s :: r) = s.cells ++ vcells r := by simp [vcells]
      have h2 : vcells (s :: r.take k) = s.cells ++ vcells (r.take k) := by simp [vcells]
      rw [this, show (k + 1) * 4 = s.cells.length + k * 4 by rw [show s.cells.length = 4 from rfl]; omega, List.take_length_add_append, List.take_succ_cons, h2, ih]
theorem LRd.from {w : World} {v : Value} {l : List Vs} (h : LRd w v l) {k : Nat} (hk : k ≤ l.length) (kk : IntKind) :
    ∃ v', (Instr.slice 49 v (some (.int kk k)) none none).run Tryz.prog w = .ok v' w ∧ LRd w v' (l.drop k) := by
  obtain ⟨v', h1, h2, _⟩ := h.row.cut (by omega) (lo := k) (hi := l.length) hk (Nat.le_refl _) Tryz.underlying49 (e := 40) (by kernel_rfl) kk kk (some (.int kk k)) none (.inl rfl) (.inr ⟨rfl, rfl⟩)
  refine ⟨v', h1 _, ?_, fun s hs => h.each s (List.mem_of_mem_drop hs)⟩
  rw [List.take_of_length_le (by rw [h.row.len]; omega), vcells_drop] at h2
  simpa using h2
theorem LRd.to {w : World} {v : Value} {l : List Vs} (h : LRd w v l) {k : Nat} (hk : k ≤ l.length) (kk : IntKind) :
    ∃ v', (Instr.slice 49 v none (some (.int kk k)) none).run Tryz.prog w = .ok v' w ∧ LRd w v' (l.take k) := by
  obtain ⟨v', h1, h2, _⟩ := h.row.cut (by omega) (lo := 0) (hi := k) (Nat.zero_le _) hk Tryz.underlying49 (e := 40) (by kernel_rfl) kk kk none (some (.int kk k)) (.inr ⟨rfl, rfl⟩) (.inl rfl)
  refine ⟨v', h1 _, ?_, fun s hs => h.each s (List.mem_of_mem_take hs)⟩
  rw [vcells_take] at h2
  simpa [List.length_take, Nat.min_eq_left hk] using h2
theorem cellsOf_take (q : IntKind) (l : List Ent) (k : Nat) : (cellsOf q l).take (k * 4) = cellsOf q (l.take k) := by
  induction l generalizing k with
  | nil => simp [cellsOf]
  | cons s r ih =>
    cases k with
    | zero => simp [cellsOf]
    | succ k =>
      have : cellsOf q (s :: r) = s.cells q ++ cellsOf q r := by simp [cellsOf]
      have h2 : cellsOf q (s :: r.take k) = s.cells q ++ cellsOf q (r.take k) := by simp [cellsOf]
      rw [this, show (k + 1) * 4 = (s.cells q).length + k * 4 by rw [show (s.cells q).length = 4 from rfl]; omega, List.take_length_add_append, List.take_succ_cons, h2, ih]
/-- A vertex with fewer halves. -/
theorem VRd.cut {w : World} {vp vh : Value} {x : Vtx} (h : VRd w vp vh x) {k : Nat} (hk : k ≤ x.halves.length) (kk : IntKind) :
    ∃ v', (∀ wx, (Instr.slice 38 vh none (some (.int kk k)) none).run Tryz.prog wx = .ok v' wx) ∧ VRd w vp v' ⟨x.id, x.there, x.props, x.halves.take k⟩ := by
  obtain ⟨v', h1, h2, _⟩ := h.halves.cut (by omega) (lo := 0) (hi := k) (Nat.zero_le _) hk Tryz.underlying38 (e := 46) (by kernel_rfl) kk kk none (some (.int kk k)) (.inr ⟨rfl, rfl⟩) (.inl rfl)
  refine ⟨v', h1, ⟨h.fits.id, h.fits.props, fun p hp => h.fits.halves p (List.mem_of_mem_take hp)⟩, h.props, ?_⟩
  rw [cellsOf_take] at h2
  simpa [List.length_take, Nat.min_eq_left hk] using h2
end Go.Proofs.YtbgjbikpenefoaaGreatDoor

/- TC: what is needed of it (by shake.py). -/

/- TC, as far as the seat goes. -/
/- T8, T9, T10, T11, T12 in one. -/
/- ghost.Count: the ghosts of a list, said without a map. -/
namespace Go.Proofs.YtbgjbikpenefoaaGreatDoor
set_option linter.unusedVariables false
open Go.RowKit Go.Maps
end Go.Proofs.YtbgjbikpenefoaaGreatDoor
/- gussetlaw12.ghosts, gussetref12.Same. -/
namespace Go.Proofs.YtbgjbikpenefoaaGreatDoor
set_option linter.unusedVariables false
open Go.RowKit
end Go.Proofs.YtbgjbikpenefoaaGreatDoor
/- gussetlaw12.vertex; gussetref12.Same; gussetlaw12.awake. -/
namespace Go.Proofs.YtbgjbikpenefoaaGreatDoor
set_option linter.unusedVariables false
open Go.RowKit
end Go.Proofs.YtbgjbikpenefoaaGreatDoor
/- gussetref02.Form; gussetref03.Number, Right, DocPut of nothing. -/
namespace Go.Proofs.YtbgjbikpenefoaaGreatDoor
set_option linter.unusedVariables false
open Go.RowKit
theorem num_any (v : Nat) (w : World) : Calls Tryz.prog 47 #[.int .u32 (v : Int)] w fun e w' => e = .returned (.bool (numB v)) ∧ w = w' := by
  by_cases h1 : 0 < v
  · have t1 : (0 : Int) < (v : Int) := by omega
    by_cases h2 : v ≤ 40
    · have t2 : (v : Int) ≤ 40 := by omega
      have HF : Hid (numB v = true) := Lib.hid (by simp [numB]; omega)
      clear h1 h2
      go_enter Tryz.func47, Tryz.ntmps47
      go_wp2
      go_ret
      exact ⟨ret_bool HF.out.symm, rfl⟩
    · have t2 : ¬ (v : Int) ≤ 40 := by omega
      have HF : Hid (numB v = false) := Lib.hid (by simp [numB]; omega)
      clear h1 h2
      go_enter Tryz.func47, Tryz.ntmps47
      go_wp2
      go_ret
      exact ⟨ret_bool HF.out.symm, rfl⟩
  · have t1 : ¬ (0 : Int) < (v : Int) := by omega
    have HF : Hid (numB v = false) := Lib.hid (by simp [numB]; omega)
    clear h1
    go_enter Tryz.func47, Tryz.ntmps47
    go_wp2
    go_ret
    exact ⟨ret_bool HF.out.symm, rfl⟩
set_option maxRecDepth 100000 in
set_option maxHeartbeats 2000000 in
theorem form_text (s : ByteArray) (hs : s.size ≤ 8) (w : World) : Calls Tryz.prog 67 #[.agg #[.int .u8 2, .int .i64 0, .string s]] w fun e w' => e = .returned (.bool (textB s)) ∧ Mod (fun _ => False) w w' := by
  go_enter Tryz.func67, Tryz.ntmps67
  go_wp2
  go_loopw [3] (fun i wr => ∃ k : Nat, i = .int .i64 k ∧ k ≤ s.size ∧ (s.data.toList.take k).all (fun c => letterB c.toNat) = true ∧ Mod (fun _ => False) w wr ∧ wr.heap[w.heap.size]? = some (.cells #[.int .u8 2, .int .i64 0, .string s] 44 (0, 0))) (fun i _ => s.size - (intOf i).toNat)
  case atStart => exact ⟨0, rfl, Nat.zero_le _, rfl, (Mod.refl _ _).alloc _, heap_alloc_new' w _⟩
  case round =>
    obtain ⟨k, rfl, hk, hall, hm, hbx⟩ := hrel
    have HA := Lib.hid hall
    have HM := Lib.hid hm
    have HBX := Lib.hid hbx
    have b2 := cell_of_row hbx 2
    simp at b2
    clear hall hm hbx
    by_cases hlt : k < s.size
    · have hts : s.data.toList.take (k + 1) = s.data.toList.take k ++ [s[k]] := by
        rw [List.take_succ_eq_append_getElem (by simpa using hlt)]; rfl
      have HS : Hid (∀ b, letterB s[k].toNat = b → (s.data.toList.take (k + 1)).all (fun c => letterB c.toNat) = b) := Lib.hid (by
        intro b hb
        rw [hts, List.all_append, HA.out]
        simp [hb])
      have hb256 := UInt8.toNat_lt s[k]
      have HBAD : Hid (letterB s[k].toNat = false → textB s = false) := Lib.hid (fun hb => by
        unfold textB
        have h1 := HS.out false hb
        have h2 : s.data.toList.all (fun c => letterB c.toNat) = false := by
          rw [List.all_eq_false] at h1 ⊢
          obtain ⟨c, hc, hn⟩ := h1
          exact ⟨c, List.mem_of_mem_take hc, hn⟩
        rw [h2]; rfl)
      clear hts
      have HGO : Hid (letterB s[k].toNat = true → (s.data.toList.take (k + 1)).all (fun c => letterB c.toNat) = true) := Lib.hid (fun hb => HS.out true hb)
      clear HS
      have hcs : (97 ≤ s[k].toNat ∧ s[k].toNat ≤ 122) ∨ (122 < s[k].toNat) ∨ (48 ≤ s[k].toNat ∧ s[k].toNat ≤ 57) ∨ (57 < s[k].toNat ∧ s[k].toNat < 97) ∨ (s[k].toNat = 46) ∨ (s[k].toNat = 45) ∨ (s[k].toNat < 48 ∧ s[k].toNat ≠ 46 ∧ s[k].toNat ≠ 45) := by omega
      rcases hcs with hcs | hcs | hcs | hcs | hcs | hcs | hcs
      · have t1 : (97 : Int) ≤ (s[k].toNat : Int) := by omega
        have t2 : (s[k].toNat : Int) ≤ 122 := by omega
        have t3 : (48 : Int) ≤ (s[k].toNat : Int) := by omega
        have t4 : ¬ (s[k].toNat : Int) ≤ 57 := by omega
        have HL : Hid (letterB s[k].toNat = true) := Lib.hid (by simp [letterB]; omega)
        clear hcs
        go_wp2
        go_roundw
        case rel => exact ⟨k + 1, by go_num, by omega, HGO.out HL.out, HM.out, HBX.out⟩
        case measure => simp [intOf]; omega
      · have t1 : (97 : Int) ≤ (s[k].toNat : Int) := by omega
        have t2 : ¬ (s[k].toNat : Int) ≤ 122 := by omega
        have t3 : (48 : Int) ≤ (s[k].toNat : Int) := by omega
        have t4 : ¬ (s[k].toNat : Int) ≤ 57 := by omega
        have t5 : ((s[k].toNat : Int) != 46) = true := by simp; omega
        have t6 : ((s[k].toNat : Int) != 45) = true := by simp; omega
        have HL : Hid (letterB s[k].toNat = false) := Lib.hid (by simp [letterB]; omega)
        clear hcs
        go_wp2
        go_ret
        exact ⟨ret_bool (HBAD.out HL.out).symm, HM.out⟩
      · have t1 : ¬ (97 : Int) ≤ (s[k].toNat : Int) := by omega
        have t3 : (48 : Int) ≤ (s[k].toNat : Int) := by omega
        have t4 : (s[k].toNat : Int) ≤ 57 := by omega
        have HL : Hid (letterB s[k].toNat = true) := Lib.hid (by simp [letterB]; omega)
        clear hcs
        go_wp2
        go_roundw
        case rel => exact ⟨k + 1, by go_num, by omega, HGO.out HL.out, HM.out, HBX.out⟩
        case measure => simp [intOf]; omega
      · have t1 : ¬ (97 : Int) ≤ (s[k].toNat : Int) := by omega
        have t3 : (48 : Int) ≤ (s[k].toNat : Int) := by omega
        have t4 : ¬ (s[k].toNat : Int) ≤ 57 := by omega
        have t5 : ((s[k].toNat : Int) != 46) = true := by simp; omega
        have t6 : ((s[k].toNat : Int) != 45) = true := by simp; omega
        have HL : Hid (letterB s[k].toNat = false) := Lib.hid (by simp [letterB]; omega)
        clear hcs
        go_wp2
        go_ret
        exact ⟨ret_bool (HBAD.out HL.out).symm, HM.out⟩
      · have t1 : ¬ (97 : Int) ≤ (s[k].toNat : Int) := by omega
        have t3 : ¬ (48 : Int) ≤ (s[k].toNat : Int) := by omega
        have t5 : ((s[k].toNat : Int) != 46) = false := by simp; omega
        have HL : Hid (letterB s[k].toNat = true) := Lib.hid (by simp [letterB]; omega)
        clear hcs
        go_wp2
        go_roundw
        case rel => exact ⟨k + 1, by go_num, by omega, HGO.out HL.out, HM.out, HBX.out⟩
        case measure => simp [intOf]; omega
      · have t1 : ¬ (97 : Int) ≤ (s[k].toNat : Int) := by omega
        have t3 : ¬ (48 : Int) ≤ (s[k].toNat : Int) := by omega
        have t5 : ((s[k].toNat : Int) != 46) = true := by simp; omega
        have t6 : ((s[k].toNat : Int) != 45) = false := by simp; omega
        have HL : Hid (letterB s[k].toNat = true) := Lib.hid (by simp [letterB]; omega)
        clear hcs
        go_wp2
        go_roundw
        case rel => exact ⟨k + 1, by go_num, by omega, HGO.out HL.out, HM.out, HBX.out⟩
        case measure => simp [intOf]; omega
      · have t1 : ¬ (97 : Int) ≤ (s[k].toNat : Int) := by omega
        have t3 : ¬ (48 : Int) ≤ (s[k].toNat : Int) := by omega
        have t5 : ((s[k].toNat : Int) != 46) = true := by simp; omega
        have t6 : ((s[k].toNat : Int) != 45) = true := by simp; omega
        have HL : Hid (letterB s[k].toNat = false) := Lib.hid (by simp [letterB]; omega)
        clear hcs
        go_wp2
        go_ret
        exact ⟨ret_bool (HBAD.out HL.out).symm, HM.out⟩
    · have HF : Hid (textB s = true) := Lib.hid (by
        unfold textB
        have h1 := HA.out
        rw [List.take_of_length_le (by simp; omega)] at h1
        rw [h1]
        simp
        omega)
      go_wp2
      go_ret
      exact ⟨ret_bool HF.out.symm, HM.out⟩
end Go.Proofs.YtbgjbikpenefoaaGreatDoor
/- gussetref02.Form. -/
namespace Go.Proofs.YtbgjbikpenefoaaGreatDoor
set_option linter.unusedVariables false
open Go.RowKit
theorem empty_size (s : ByteArray) : s.toList.isEmpty = decide (s.size = 0) := by
  rw [ByteArray.toList_eq]
  obtain ⟨⟨l⟩⟩ := s
  cases l <;> simp [ByteArray.size]
set_option maxRecDepth 100000 in
set_option maxHeartbeats 2000000 in
theorem form_any (v : Val) (hv : v.Fits) (w : World) : Calls Tryz.prog 67 #[v.v] w fun e w' => e = .returned (.bool v.ok) ∧ Mod (fun _ => False) w w' := by
  obtain ⟨k, n, s⟩ := v
  have hk := hv.k
  simp only at hk
  have hk0 : (0 : Int) ≤ (k : Int) := by omega
  have hk1 : (k : Int) < 256 := by omega
  show Calls _ _ #[.agg #[.int .u8 (k : Int), .int .i64 n, .string s]] w _
  by_cases h2 : k = 2
  · subst h2
    by_cases hn : n = 0
    · subst hn
      by_cases h8 : s.size ≤ 8
      · refine (form_text s h8 w).mono ?_
        rintro e w' ⟨rfl, hm⟩
        exact ⟨ret_bool (by simp [Val.ok]), hm⟩
      · have t8 : (8 : Int) < (s.size : Int) := by omega
        have HF : Hid (Val.ok ⟨2, 0, s⟩ = false) := Lib.hid (by simp [Val.ok, textB, h8])
        clear h8 hv
        go_enter Tryz.func67, Tryz.ntmps67
        go_wp2
        go_ret
        exact ⟨ret_bool HF.out.symm, (Mod.refl _ _).alloc _⟩
    · have n2 : (n != 0) = true := by simp [hn]
      have HF : Hid (Val.ok ⟨2, n, s⟩ = false) := Lib.hid (by simp [Val.ok, hn])
      clear hn hv
      go_enter Tryz.func67, Tryz.ntmps67
      go_wp2
      go_ret
      exact ⟨ret_bool HF.out.symm, (Mod.refl _ _).alloc _⟩
  · have k2 : ((k : Int) != 2) = true := by simp; omega
    by_cases h0 : k = 0
    · subst h0
      obtain ⟨eb, heb⟩ : ∃ eb, eb = s.toList.isEmpty := ⟨_, rfl⟩
      by_cases hn : n = 0
      · subst hn
        have HF : Hid (Val.ok ⟨0, 0, s⟩ = eb) := Lib.hid (by simp [Val.ok, heb])
        cases eb
        all_goals
          have es := heb.symm
          clear heb h2 hv
          go_enter Tryz.func67, Tryz.ntmps67
          go_wp2
          go_ret
          exact ⟨ret_bool (by rw [HF.out]), (Mod.refl _ _).alloc _⟩
      · have n1 : (n == 0) = false := by simp [hn]
        have HF : Hid (Val.ok ⟨0, n, s⟩ = false) := Lib.hid (by simp [Val.ok, hn])
        clear heb h2 hv
        go_enter Tryz.func67, Tryz.ntmps67
        go_wp2
        go_ret
        exact ⟨ret_bool HF.out.symm, (Mod.refl _ _).alloc _⟩
    · have k0 : ((k : Int) == 0) = false := by simp; omega
      by_cases h1 : k = 1
      · subst h1
        clear h2 h0 hv
        have HE : Hid (Val.ok ⟨1, n, s⟩ = decide (s.size = 0)) := Lib.hid (by simp [Val.ok, empty_size])
        by_cases hs0 : s.size = 0
        · have HF : Hid (Val.ok ⟨1, n, s⟩ = true) := Lib.hid (by rw [HE.out]; simp [hs0])
          have t0 : ((s.size : Int) == 0) = true := by simp [hs0]
          go_enter Tryz.func67, Tryz.ntmps67
          go_wp2
          go_ret
          exact ⟨ret_bool (by rw [HF.out]), (Mod.refl _ _).alloc _⟩
        · have HF : Hid (Val.ok ⟨1, n, s⟩ = false) := Lib.hid (by rw [HE.out]; simp [hs0])
          have t0 : ((s.size : Int) == 0) = false := by simp [hs0]
          go_enter Tryz.func67, Tryz.ntmps67
          go_wp2
          go_ret
          exact ⟨ret_bool (by rw [HF.out]), (Mod.refl _ _).alloc _⟩
      · have k1 : ((k : Int) == 1) = false := by simp; omega
        have HF : Hid (Val.ok ⟨k, n, s⟩ = false) := Lib.hid (by simp [Val.ok, h0, h1, h2])
        clear hv h0 h1 h2
        go_enter Tryz.func67, Tryz.ntmps67
        go_wp2
        go_ret
        exact ⟨ret_bool HF.out.symm, (Mod.refl _ _).alloc _⟩
end Go.Proofs.YtbgjbikpenefoaaGreatDoor
