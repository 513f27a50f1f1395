import Derived.Test.YtlpdifinkcjckaaGreatDoorRows
import Derived.Test.YtlpdifinkcjckaaGreatDoorMEn00
import Derived.WalkSpells
import Derived.OpenShut
import Derived.LoopTactic
import Derived.Deep.DeepCutAuto
import Derived.Deep.RegionHeld3
set_option linter.unusedVariables false
set_option linter.unusedSimpArgs false
namespace Go.Proofs.YtlpdifinkcjckaaGreatDoor
open Go.RowKit
theorem ret_bool {a b : Bool} (h : a = b) : Ending.returned (.bool a) = .returned (.bool b) := by rw [h]
theorem ret_int {k : IntKind} {a b : Int} (h : a = b) : Ending.returned (.int k a) = .returned (.int k b) := by rw [h]
def letterB (b : Nat) : Bool := decide ((97 ≤ b ∧ b ≤ 122) ∨ (48 ≤ b ∧ b ≤ 57) ∨ b = 46 ∨ b = 45)
theorem letter_any (b : Nat) (hb : b < 256) (w : World) : Calls Tryz.prog 142 #[.int .u8 (b : Int)] w fun e w' => e = .returned (.bool (letterB b)) ∧ w = w' := by
 have hb0 : (0 : Int) ≤ (b : Int) := by omega
 have hb1 : (b : Int) < 256 := by omega
 by_cases h1 : 97 ≤ b
 · have t1 : (97 : Int) ≤ (b : Int) := by omega
   by_cases h2 : b ≤ 122
   · have t2 : (b : Int) ≤ 122 := by omega
     have HF : Hid (letterB b = true) := Lib.hid (by simp [letterB]; omega)
     clear h1 h2
     go_enter Tryz.func142, Tryz.ntmps142
     go_wp2
     go_ret
     exact ⟨ret_bool HF.out.symm, rfl⟩
   · have t2 : ¬ (b : Int) ≤ 122 := by omega
     have t3 : (48 : Int) ≤ (b : Int) := by omega
     have t4 : ¬ (b : Int) ≤ 57 := by omega
     have t5 : ((b : Int) == 46) = false := by simp; omega
     have t6 : ((b : Int) == 45) = false := by simp; omega
     have HF : Hid (letterB b = false) := Lib.hid (by simp [letterB]; omega)
     clear h1 h2
     go_enter Tryz.func142, Tryz.ntmps142
     go_wp2
     go_ret
     exact ⟨ret_bool HF.out.symm, rfl⟩
 · have t1 : ¬ (97 : Int) ≤ (b : Int) := by omega
   by_cases h3 : 48 ≤ b
   · have t3 : (48 : Int) ≤ (b : Int) := by omega
     by_cases h4 : b ≤ 57
     · have t4 : (b : Int) ≤ 57 := by omega
       have HF : Hid (letterB b = true) := Lib.hid (by simp [letterB]; omega)
       clear h1 h3 h4
       go_enter Tryz.func142, Tryz.ntmps142
       go_wp2
       go_ret
       exact ⟨ret_bool HF.out.symm, rfl⟩
     · have t4 : ¬ (b : Int) ≤ 57 := by omega
       have t5 : ((b : Int) == 46) = false := by simp; omega
       have t6 : ((b : Int) == 45) = false := by simp; omega
       have HF : Hid (letterB b = false) := Lib.hid (by simp [letterB]; omega)
       clear h1 h3 h4
       go_enter Tryz.func142, Tryz.ntmps142
       go_wp2
       go_ret
       exact ⟨ret_bool HF.out.symm, rfl⟩
   · have t3 : ¬ (48 : Int) ≤ (b : Int) := by omega
     by_cases h5 : b = 46
     · have t5 : ((b : Int) == 46) = true := by simp; omega
       have HF : Hid (letterB b = true) := Lib.hid (by simp [letterB]; omega)
       clear h1 h3 h5
       go_enter Tryz.func142, Tryz.ntmps142
       go_wp2
       go_ret
       exact ⟨ret_bool HF.out.symm, rfl⟩
     · have t5 : ((b : Int) == 46) = false := by simp; omega
       by_cases h6 : b = 45
       · have t6 : ((b : Int) == 45) = true := by simp; omega
         have HF : Hid (letterB b = true) := Lib.hid (by simp [letterB]; omega)
         clear h1 h3 h5 h6
         go_enter Tryz.func142, Tryz.ntmps142
         go_wp2
         go_ret
         exact ⟨ret_bool HF.out.symm, rfl⟩
       · have t6 : ((b : Int) == 45) = false := by simp; omega
         have HF : Hid (letterB b = false) := Lib.hid (by simp [letterB]; omega)
         clear h1 h3 h5 h6
         go_enter Tryz.func142, Tryz.ntmps142
         go_wp2
         go_ret
         exact ⟨ret_bool HF.out.symm, rfl⟩
def textB (s : ByteArray) : Bool := s.data.toList.all (fun c => letterB c.toNat) && decide (s.size ≤ 8)
theorem text_any (s : ByteArray) (hs : s.size ≤ maxLen) (w : World) : Calls Tryz.prog 128 #[.string s] w fun e w' => e = .returned (.bool (textB s)) ∧ w = w' := by
 unfold maxLen at hs
 go_enter Tryz.func128, Tryz.ntmps128
 go_wp2
 go_loop [6] (fun i => ∃ k : Nat, k ≤ s.size ∧ i = .int .i64 k ∧ (s.data.toList.take k).all (fun c => letterB c.toNat) = true) (fun i => s.size - (intOf i).toNat)
 case atStart => exact ⟨0, Nat.zero_le _, rfl, rfl⟩
 case round =>
   obtain ⟨k, hk, rfl, hall⟩ := hrel
   have HA := Lib.hid hall
   clear hall
   by_cases hlt : k < s.size
   · have hts : s.data.toList.take (k + 1) = s.data.toList.take k ++ [s[k]] := by
       rw [List.take_succ_eq_append_getElem (by simpa using hlt)]; rfl
     have HC := Lib.hid (letter_any s[k].toNat (UInt8.toNat_lt _) w)
     have HS : Hid (∀ b, letterB s[k].toNat = b → (s.data.toList.take (k + 1)).all (fun c => letterB c.toNat) = b) := Lib.hid (by
       intro b hb
       rw [hts, List.all_append, HA.out]
       simp [hb])
     clear hts
     obtain ⟨b, hb⟩ : ∃ b, b = letterB s[k].toNat := ⟨_, rfl⟩
     have HB := Lib.hid hb
     rw [← hb] at HC
     clear hb
     cases b with
     | true =>
       go_wp2_with (go_at_call 142; refine HC.out.mono ?_; rintro e w' ⟨rfl, rfl⟩)
       go_round
       case rel => exact ⟨k + 1, by omega, by go_num, HS.out true HB.out.symm⟩
       case measure => simp [intOf]; omega
     | false =>
       have HF : Hid (textB s = false) := Lib.hid (by
         unfold textB
         have h1 := HS.out false HB.out.symm
         have h2 : s.data.toList.all (fun c => letterB c.toNat) = false := by
           rw [List.all_eq_false] at h1 ⊢
           obtain ⟨c, hc, hn⟩ := h1
           exact ⟨c, List.mem_of_mem_take hc, hn⟩
         rw [h2]; rfl)
       go_wp2_with (go_at_call 142; refine HC.out.mono ?_; rintro e w' ⟨rfl, rfl⟩)
       go_ret
       exact ⟨ret_bool HF.out.symm, rfl⟩
   · have HF : Hid (textB s = decide ((s.size : Int) ≤ 8)) := Lib.hid (by
       unfold textB
       have h1 := HA.out
       rw [List.take_of_length_le (by simp; omega)] at h1
       rw [h1]
       simp
       omega)
     go_wp2
     go_ret
     exact ⟨ret_bool HF.out.symm, rfl⟩
structure Val where
 k : Nat
 n : Int
 s : ByteArray
def Val.ok (v : Val) : Bool :=
 if v.k = 2 then decide (v.n = 0) && textB v.s else if v.k = 0 then decide (v.n = 0) && v.s.toList.isEmpty else if v.k = 1 then v.s.toList.isEmpty else false
def Val.v (v : Val) : Value := .agg #[.int .u8 (v.k : Int), .int .i64 v.n, .string v.s]
structure Val.Fits (v : Val) : Prop where
 k : v.k < 256
 n : -9223372036854775808 ≤ v.n ∧ v.n < 9223372036854775808
 s : v.s.size ≤ maxLen
def codeB (b : Bool) : Int := if b then 0 else 3
theorem check_any (v : Val) (hv : v.Fits) (w : World) : Calls Tryz.prog 98 #[v.v] w fun e w' => e = .returned (.int .i64 (codeB v.ok)) ∧ Mod (fun _ => False) w w' := by
 obtain ⟨k, n, s⟩ := v
 have hk := hv.k
 have hs := hv.s
 simp only at hk hs
 have hk0 : (0 : Int) ≤ (k : Int) := by omega
 have hk1 : (k : Int) < 256 := by omega
 have HT := Lib.hid (text_any s hs)
 obtain ⟨tb, htb⟩ : ∃ tb, tb = textB s := ⟨_, rfl⟩
 have HTB := Lib.hid htb
 rw [← htb] at HT
 clear htb hs hv
 show Calls _ _ #[.agg #[.int .u8 (k : Int), .int .i64 n, .string s]] w _
 by_cases h2 : k = 2
 · subst h2
   by_cases hn : n = 0
   · subst hn
     have HF : Hid (codeB (Val.ok ⟨2, 0, s⟩) = codeB tb) := Lib.hid (by simp [Val.ok, HTB.out])
     cases tb
     all_goals
       go_enter Tryz.func98, Tryz.ntmps98
       go_wp2_with (go_at_call 128; refine (HT.out _).mono ?_; rintro e w' ⟨rfl, rfl⟩)
       go_ret
       exact ⟨ret_int (by rw [HF.out]; rfl), (Mod.refl _ _).alloc _⟩
   · have n1 : (n == 0) = false := by simp [hn]
     have HF : Hid (codeB (Val.ok ⟨2, n, s⟩) = 3) := Lib.hid (by simp [Val.ok, hn, codeB])
     clear hn
     go_enter Tryz.func98, Tryz.ntmps98
     go_wp2
     go_ret
     exact ⟨ret_int HF.out.symm, (Mod.refl _ _).alloc _⟩
 · have k2 : ((k : Int) == 2) = false := by simp; omega
   obtain ⟨eb, heb⟩ : ∃ eb, eb = s.toList.isEmpty := ⟨_, rfl⟩
   by_cases h0 : k = 0
   · subst h0
     by_cases hn : n = 0
     · subst hn
       have HF : Hid (codeB (Val.ok ⟨0, 0, s⟩) = codeB eb) := Lib.hid (by simp [Val.ok, heb])
       cases eb
       all_goals
         have es := heb.symm
         clear heb h2
         go_enter Tryz.func98, Tryz.ntmps98
         go_wp2
         go_ret
         exact ⟨ret_int (by rw [HF.out]; rfl), (Mod.refl _ _).alloc _⟩
     · have n1 : (n == 0) = false := by simp [hn]
       have n2 : (n != 0) = true := by simp [hn]
       have HF : Hid (codeB (Val.ok ⟨0, n, s⟩) = 3) := Lib.hid (by simp [Val.ok, hn, codeB])
       clear hn heb h2
       go_enter Tryz.func98, Tryz.ntmps98
       go_wp2
       go_ret
       exact ⟨ret_int HF.out.symm, (Mod.refl _ _).alloc _⟩
   · have k0 : ((k : Int) == 0) = false := by simp; omega
     by_cases h1 : k = 1
     · subst h1
       have HF : Hid (codeB (Val.ok ⟨1, n, s⟩) = codeB eb) := Lib.hid (by simp [Val.ok, heb])
       cases eb
       all_goals
         have es := heb.symm
         clear heb h2 h0
         go_enter Tryz.func98, Tryz.ntmps98
         go_wp2
         go_ret
         exact ⟨ret_int (by rw [HF.out]; rfl), (Mod.refl _ _).alloc _⟩
     · have k3 : ((k : Int) == 1) = false := by simp; omega
       have HF : Hid (codeB (Val.ok ⟨k, n, s⟩) = 3) := Lib.hid (by simp [Val.ok, h2, h0, h1, codeB])
       clear heb h2 h0 h1
       go_enter Tryz.func98, Tryz.ntmps98
       go_wp2
       go_ret
       exact ⟨ret_int HF.out.symm, (Mod.refl _ _).alloc _⟩
open Go.RowKit
theorem Mod.drewN {S : Nat → Prop} {a w : World} (h : Mod S a w) (n : Nat) : Mod S a (w.drewN n) := ⟨h.os, h.tape, h.output, h.size, h.block⟩
def numB (v : Nat) : Bool := decide (1 ≤ v ∧ v ≤ 40)
theorem number_any (v : Nat) (w : World) : Calls Tryz.prog 54 #[.int .u32 (v : Int)] w fun e w' => e = .returned (.bool (numB v)) ∧ w = w' := by
 by_cases h1 : 1 ≤ v
 · have t1 : (1 : Int) ≤ (v : Int) := by omega
   by_cases h2 : v ≤ 40
   · have t2 : (v : Int) ≤ 40 := by omega
     have HF : Hid (numB v = true) := Lib.hid (by simp [numB]; omega)
     clear h1 h2
     go_enter Tryz.func54, Tryz.ntmps54
     go_wp2
     go_ret
     exact ⟨ret_bool HF.out.symm, rfl⟩
   · have t2 : ¬ (v : Int) ≤ 40 := by omega
     have HF : Hid (numB v = false) := Lib.hid (by simp [numB]; omega)
     clear h1 h2
     go_enter Tryz.func54, Tryz.ntmps54
     go_wp2
     go_ret
     exact ⟨ret_bool HF.out.symm, rfl⟩
 · have t1 : ¬ (1 : Int) ≤ (v : Int) := by omega
   have HF : Hid (numB v = false) := Lib.hid (by simp [numB]; omega)
   clear h1
   go_enter Tryz.func54, Tryz.ntmps54
   go_wp2
   go_ret
   exact ⟨ret_bool HF.out.symm, rfl⟩
def cmpN (a b : Nat) : Int := if a < b then -1 else if b < a then 1 else 0
theorem nan8_any (v : Int) (w : World) : Calls Tryz.prog 141 #[.int .u8 v] w fun e w' => e = .returned (.bool false) ∧ w = w' := by
 have h : (v != v) = false := by simp
 go_enter Tryz.func141, Tryz.ntmps141
 go_wp2
 go_ret
 exact ⟨rfl, rfl⟩
theorem nan32_any (v : Int) (w : World) : Calls Tryz.prog 137 #[.int .u32 v] w fun e w' => e = .returned (.bool false) ∧ w = w' := by
 have h : (v != v) = false := by simp
 go_enter Tryz.func137, Tryz.ntmps137
 go_wp2
 go_ret
 exact ⟨rfl, rfl⟩
theorem cmp8_any (a b : Nat) (w : World) : Calls Tryz.prog 126 #[.int .u8 (a : Int), .int .u8 (b : Int)] w fun e w' => e = .returned (.int .i64 (cmpN a b)) ∧ w = w' := by
 rcases Nat.lt_trichotomy a b with h | h | h
 · have t1 : (a : Int) < (b : Int) := by omega
   have HF : Hid (cmpN a b = -1) := Lib.hid (by simp [cmpN, h])
   clear h
   go_enter Tryz.func126, Tryz.ntmps126
   go_wp2_with (go_at_call 141; refine (nan8_any _ _).mono ?_; rintro e w' ⟨rfl, rfl⟩)
   go_ret
   exact ⟨ret_int HF.out.symm, rfl⟩
 · subst h
   have t1 : ¬ (a : Int) < (a : Int) := by omega
   have HF : Hid (cmpN a a = 0) := Lib.hid (by simp [cmpN])
   go_enter Tryz.func126, Tryz.ntmps126
   go_wp2_with (go_at_call 141; refine (nan8_any _ _).mono ?_; rintro e w' ⟨rfl, rfl⟩)
   go_ret
   exact ⟨ret_int HF.out.symm, rfl⟩
 · have t1 : ¬ (a : Int) < (b : Int) := by omega
   have t2 : (b : Int) < (a : Int) := by omega
   have HF : Hid (cmpN a b = 1) := Lib.hid (by unfold cmpN; rw [if_neg (by omega), if_pos h])
   clear h
   go_enter Tryz.func126, Tryz.ntmps126
   go_wp2_with (go_at_call 141; refine (nan8_any _ _).mono ?_; rintro e w' ⟨rfl, rfl⟩)
   go_ret
   exact ⟨ret_int HF.out.symm, rfl⟩
theorem cmp32_any (a b : Nat) (w : World) : Calls Tryz.prog 127 #[.int .u32 (a : Int), .int .u32 (b : Int)] w fun e w' => e = .returned (.int .i64 (cmpN a b)) ∧ w = w' := by
 rcases Nat.lt_trichotomy a b with h | h | h
 · have t1 : (a : Int) < (b : Int) := by omega
   have HF : Hid (cmpN a b = -1) := Lib.hid (by simp [cmpN, h])
   clear h
   go_enter Tryz.func127, Tryz.ntmps127
   go_wp2_with (go_at_call 137; refine (nan32_any _ _).mono ?_; rintro e w' ⟨rfl, rfl⟩)
   go_ret
   exact ⟨ret_int HF.out.symm, rfl⟩
 · subst h
   have t1 : ¬ (a : Int) < (a : Int) := by omega
   have HF : Hid (cmpN a a = 0) := Lib.hid (by simp [cmpN])
   go_enter Tryz.func127, Tryz.ntmps127
   go_wp2_with (go_at_call 137; refine (nan32_any _ _).mono ?_; rintro e w' ⟨rfl, rfl⟩)
   go_ret
   exact ⟨ret_int HF.out.symm, rfl⟩
 · have t1 : ¬ (a : Int) < (b : Int) := by omega
   have t2 : (b : Int) < (a : Int) := by omega
   have HF : Hid (cmpN a b = 1) := Lib.hid (by unfold cmpN; rw [if_neg (by omega), if_pos h])
   clear h
   go_enter Tryz.func127, Tryz.ntmps127
   go_wp2_with (go_at_call 137; refine (nan32_any _ _).mono ?_; rintro e w' ⟨rfl, rfl⟩)
   go_ret
   exact ⟨ret_int HF.out.symm, rfl⟩
structure RdS (w : World) (size : Nat) (v : Value) (n : Nat) (xs : List Value) : Prop where
 len : xs.length = n * size
 shape : ∃ a c, v = .slice a n c ∧ n ≤ c ∧ c ≤ 9223372036854775807 ∧ (a = none → c = 0)
 cell : ∀ a c, v = .slice a n c → ∀ j u, xs[j]? = some u → ∃ b off, a = some ⟨b, off, none⟩ ∧ b < w.heap.size ∧ w.cell? ⟨b, off + j, none⟩ = some u
theorem RdS.mod {S : Nat → Prop} {w w' : World} {size n : Nat} {v : Value} {xs : List Value} (h : RdS w size v n xs) (m : Mod S w w') (hs : ∀ b, v.ownBlock = some b → ¬ S b) : RdS w' size v n xs := by
 refine ⟨h.len, h.shape, fun a c e j u hu => ?_⟩
 obtain ⟨b, off, ea, hb, hc⟩ := h.cell a c e j u hu
 exact ⟨b, off, ea, Nat.lt_of_lt_of_le hb m.size, (World.cell?_of_block (w := w) (m.block b hb (hs b (by rw [e, ea]; rfl)))).trans hc⟩
theorem RdS.keep {w w' : World} {size n : Nat} {v : Value} {xs : List Value} (h : RdS w size v n xs) (m : Mod (fun _ => False) w w') : RdS w' size v n xs := h.mod m (fun _ _ f => f)
theorem RdS.src {w : World} {size n : Nat} {v : Value} {xs : List Value} (h : RdS w size v n xs) (h1 : ∀ u ∈ xs, u.oneCell' = true) : Src w size v n xs := by
 refine ⟨h.len, h1, ?_⟩
 obtain ⟨a, c, e, hc1, hc2, hc3⟩ := h.shape
 cases a with
 | none =>
   obtain rfl := hc3 rfl
   have : n = 0 := by omega
   exact .inl ⟨by rw [e, this], this⟩
 | some ad =>
   refine .inr ⟨ad, c, e, fun j u hu => ?_⟩
   obtain ⟨b, off, ea, _, hc⟩ := h.cell _ _ e j u hu
   injection ea with ea
   subst ea
   rw [addr_add, hc]
theorem Seg.rdS {w : World} {e : TypeId} {size n : Nat} {v : Value} {xs : List Value} (h : Seg w e size v n xs) : RdS w size v n xs := by
 have h0 := h
 obtain ⟨hl, h1, h2⟩ := h
 refine ⟨hl, ?_, fun a c e j u hu => ?_⟩
 · rcases h2 with ⟨rfl, rfl⟩ | ⟨g, off, cap, cur, rfl, hg, hc, hm, _⟩
   · exact ⟨none, 0, rfl, Nat.le_refl _, by decide, fun _ => rfl⟩
   · exact ⟨_, _, rfl, hc, by unfold maxLen at hm; omega, fun h => by cases h⟩
 · have hj : j < n * size := by rw [← hl]; exact (List.getElem?_eq_some_iff.1 hu).1
   have hn : 0 < n := by
     rcases Nat.eq_zero_or_pos n with rfl | hn
     · omega
     · exact hn
   obtain ⟨g, off, cap, e2, _, _, hg, hc⟩ := h0.open hn
   rw [e2] at e
   injection e with e3 e4 e5
   exact ⟨g, off, e3.symm, hg, by rw [(hc j hj).1]; exact hu⟩
structure Ent where
 key : Nat
 val : Val
def Ent.cells (kk : IntKind) (x : Ent) : List Value := [.int kk (x.key : Int), .int .u8 (x.val.k : Int), .int .i64 x.val.n, .string x.val.s]
def Ent.v (kk : IntKind) (x : Ent) : Value := .agg (x.cells kk).toArray
def cellsOf (kk : IntKind) (l : List Ent) : List Value := l.flatMap (Ent.cells kk)
theorem cellsOf_get (kk : IntKind) : ∀ (l : List Ent) (i j : Nat) (x : Ent), l[i]? = some x → j < 4 → (cellsOf kk l)[i * 4 + j]? = (x.cells kk)[j]?
 | [], i, j, x, h, _ => by simp at h
 | y :: r, 0, j, x, h, hj => by
   simp at h
   subst h
   show ((y.cells kk) ++ cellsOf kk r)[0 * 4 + j]? = _
   rw [Nat.zero_mul, Nat.zero_add, List.getElem?_append_left (by simpa [Ent.cells] using hj)]
 | y :: r, i + 1, j, x, h, hj => by
   simp at h
   show ((y.cells kk) ++ cellsOf kk r)[(i + 1) * 4 + j]? = _
   rw [List.getElem?_append_right (by simp [Ent.cells]; omega)]
   have e : (i + 1) * 4 + j - (y.cells kk).length = i * 4 + j := by simp [Ent.cells]; omega
   rw [e]
   exact cellsOf_get kk r i j x h hj
theorem RdS.ent {w : World} {kk : IntKind} {v : Value} {n : Nat} {l : List Ent} (h : RdS w 4 v n (cellsOf kk l)) {i : Nat} {x : Ent} (hi : l[i]? = some x) {a : Option Addr} {c : Nat} (e : v = .slice a n c) :
   ∃ b off, a = some ⟨b, off, none⟩ ∧ b < w.heap.size ∧ w.cell? ⟨b, off + i * 4, none⟩ = some (.int kk (x.key : Int)) ∧ w.cell? ⟨b, off + i * 4 + 1, none⟩ = some (.int .u8 (x.val.k : Int)) ∧ w.cell? ⟨b, off + i * 4 + 2, none⟩ = some (.int .i64 x.val.n) ∧ w.cell? ⟨b, off + i * 4 + 3, none⟩ = some (.string x.val.s) := by
 have g := fun j hj => cellsOf_get kk l i j x hi hj
 obtain ⟨b, off, ea, hb, h0⟩ := h.cell a c e (i * 4 + 0) (.int kk (x.key : Int)) (by rw [g 0 (by omega)]; rfl)
 obtain ⟨b1, off1, ea1, _, h1⟩ := h.cell a c e (i * 4 + 1) (.int .u8 (x.val.k : Int)) (by rw [g 1 (by omega)]; rfl)
 obtain ⟨b2, off2, ea2, _, h2⟩ := h.cell a c e (i * 4 + 2) (.int .i64 x.val.n) (by rw [g 2 (by omega)]; rfl)
 obtain ⟨b3, off3, ea3, _, h3⟩ := h.cell a c e (i * 4 + 3) (.string x.val.s) (by rw [g 3 (by omega)]; rfl)
 rw [ea] at ea1 ea2 ea3
 injection ea1 with e1; injection e1 with e1 e1'
 injection ea2 with e2; injection e2 with e2 e2'
 injection ea3 with e3; injection e3 with e3 e3'
 subst e1 e1' e2 e2' e3 e3'
 exact ⟨b, off, ea, hb, h0, by rw [Nat.add_assoc]; exact h1, by rw [Nat.add_assoc]; exact h2, by rw [Nat.add_assoc]; exact h3⟩
structure Vtx where
 id : Nat
 there : Bool
 props : List Ent
 halves : List Ent
structure Vtx.Fits (x : Vtx) : Prop where
 id : x.id < 4294967296
 props : ∀ p ∈ x.props, p.key < 256 ∧ p.val.Fits
 halves : ∀ p ∈ x.halves, p.key < 4294967296 ∧ p.val.Fits
structure VRd (w : World) (vp vh : Value) (x : Vtx) : Prop where
 fits : x.Fits
 props : RdS w 4 vp x.props.length (cellsOf .u8 x.props)
 halves : RdS w 4 vh x.halves.length (cellsOf .u32 x.halves)
theorem VRd.keep {w w' : World} {vp vh : Value} {x : Vtx} (h : VRd w vp vh x) (m : Mod (fun _ => False) w w') : VRd w' vp vh x := ⟨h.fits, h.props.keep m, h.halves.keep m⟩
def vtxV (x : Vtx) (vp vh : Value) : Value := .agg #[.int .u32 (x.id : Int), .bool x.there, vp, vh]
open Go.RowKit
def propOK (p : Ent) : Bool := decide (p.key ≤ 3) && decide (p.val.k ≠ 0) && p.val.ok
def halfOK (id : Nat) (h : Ent) : Bool := numB h.key && decide (h.key ≠ id) && h.val.ok
def above (p : Option Nat) (k : Nat) : Bool := match p with | none => true | some q => decide (q < k)
def chain (ok : Ent → Bool) : Option Nat → List Ent → Bool
 | _, [] => true
 | p, x :: r => (ok x && above p x.key) && chain ok (some x.key) r
def prevK (l : List Ent) (i : Nat) : Option Nat := match i with | 0 => none | i + 1 => (l[i]?).map Ent.key
theorem chain_step (ok : Ent → Bool) {l : List Ent} {i : Nat} {x : Ent} (h : l[i]? = some x) : chain ok (prevK l i) (l.drop i) = ((ok x && above (prevK l i) x.key) && chain ok (prevK l (i + 1)) (l.drop (i + 1))) := by
 obtain ⟨hi, hx⟩ := List.getElem?_eq_some_iff.1 h
 rw [List.drop_eq_getElem_cons hi, hx, chain]
 congr 2
 simp [prevK, h]
theorem prevK_zero {l : List Ent} {k : Nat} (h : k = 0) : prevK l k = none := by subst h; rfl
theorem prevK_pos {l : List Ent} {k : Nat} (h : 0 < k) {y : Ent} (hy : l[k - 1]? = some y) : prevK l k = some y.key := by
 obtain ⟨m, rfl⟩ : ∃ m, k = m + 1 := ⟨k - 1, by omega⟩
 simp only [Nat.add_sub_cancel] at hy
 simp [prevK, hy]
def Vtx.right (x : Vtx) : Bool :=
 (numB x.id && (x.there || (x.props.isEmpty && x.halves.isEmpty)) && decide (x.halves.length ≤ 16)) && (chain propOK none x.props && chain (halfOK x.id) none x.halves)
theorem Mod.cell {w w' : World} (m : Mod (fun _ => False) w w') {a : Addr} {v : Value} (h : w.cell? a = some v) : w'.cell? a = some v :=
 (World.cell?_of_block (w := w) (m.block a.block (World.block_lt_of_cell? _ _ h) (fun f => f))).trans h
theorem check_bad (k : Nat) (n : Int) (s : ByteArray) (hv : Val.Fits ⟨k, n, s⟩) (hb : Val.ok ⟨k, n, s⟩ = false) (w : World) : Calls Tryz.prog 98 #[.agg #[.int .u8 (k : Int), .int .i64 n, .string s]] w fun e w' => e = .returned (.int .i64 3) ∧ Mod (fun _ => False) w w' := by
 have := check_any ⟨k, n, s⟩ hv w
 rw [hb] at this
 exact this
theorem check_good (k : Nat) (n : Int) (s : ByteArray) (hv : Val.Fits ⟨k, n, s⟩) (hb : Val.ok ⟨k, n, s⟩ = true) (w : World) : Calls Tryz.prog 98 #[.agg #[.int .u8 (k : Int), .int .i64 n, .string s]] w fun e w' => e = .returned (.int .i64 0) ∧ Mod (fun _ => False) w w' := by
 have := check_any ⟨k, n, s⟩ hv w
 rw [hb] at this
 exact this
structure RightAt (w : World) (o : Array Value) (wr : World) : Prop where
 mod : Mod (fun _ => False) w wr
 box : wr.heap[w.heap.size]? = some (.cells o 47 (0, 0))
theorem RightAt.more {w wx wy : World} {o : Array Value} (h : RightAt w o wx) (m : Mod (fun _ => False) wx wy) : RightAt w o wy := ⟨h.mod.trans m, m.heap h.box (fun f => f)⟩
set_option maxRecDepth 100000 in
set_option maxHeartbeats 4000000 in
theorem right_any (x : Vtx) (vp vh : Value) (w : World) (hx : VRd w vp vh x) : Calls Tryz.prog 92 #[vtxV x vp vh] w fun e w' => e = .returned (.bool x.right) ∧ Mod (fun _ => False) w w' := by
 obtain ⟨id, there, ps, hs⟩ := x
 have HP := Lib.hid hx.props
 have HH := Lib.hid hx.halves
 have HF := Lib.hid hx.fits
 obtain ⟨ap, cp, rfl, hcp, hcp2, hap⟩ := hx.props.shape
 obtain ⟨ah, ch, rfl, hch, hch2, hah⟩ := hx.halves.shape
 simp only at hcp hch HP HH
 show Calls _ _ #[.agg #[.int .u32 (id : Int), .bool there, .slice ap ps.length cp, .slice ah hs.length ch]] w _
 clear hx hap hah
 obtain ⟨np, hnp⟩ : ∃ np, np = ps.length := ⟨_, rfl⟩
 obtain ⟨nh, hnh⟩ : ∃ nh, nh = hs.length := ⟨_, rfl⟩
 have HNP := Lib.hid hnp
 have HNH := Lib.hid hnh
 rw [← hnp] at hcp HP ⊢
 rw [← hnh] at hch HH ⊢
 clear hnp hnh
 obtain ⟨nb, hnb⟩ : ∃ nb, nb = numB id := ⟨_, rfl⟩
 have HNB := Lib.hid hnb
 have HN := Lib.hid (number_any id)
 rw [← hnb] at HN
 clear hnb
 cases nb with
 | false =>
   have HR : Hid (Vtx.right ⟨id, there, ps, hs⟩ = false) := Lib.hid (by simp [Vtx.right, HNB.out.symm])
   go_enter Tryz.func92, Tryz.ntmps92
   go_wp2_with (go_at_call 54; refine (HN.out _).mono ?_; rintro e w' ⟨rfl, rfl⟩)
   go_ret
   exact ⟨ret_bool HR.out.symm, (Mod.refl _ _).alloc _⟩
 | true =>
   by_cases h16 : nh ≤ 16
   · have t16 : ¬ (16 : Int) < (nh : Int) := by omega
     by_cases hth : there = true ∨ (np = 0 ∧ nh = 0)
     · have HTH := Lib.hid hth
       have H16 := Lib.hid h16
       clear hth h16
       go_enter Tryz.func92, Tryz.ntmps92
       go_upto_region 1 with fail
       go_cut [33] (fun b wx => b = .bool false ∧ RightAt w #[.int .u32 (id : Int), .bool there, .slice ap np cp, .slice ah nh ch] wx)
       case first =>
         cases there
         case' true => have hdum : True := trivial
         case' false =>
           obtain ⟨rfl, rfl⟩ : np = 0 ∧ nh = 0 := HTH.out.resolve_left (by simp)
         all_goals
           go_wp2_with (go_at_call 54; refine (HN.out _).mono ?_; rintro e w' ⟨rfl, rfl⟩)
           go_meet
           exact ⟨by first | rfl | simp [t16], (Mod.refl _ _).alloc _, heap_alloc_new' w _⟩
       case rest =>
         obtain ⟨rfl, hr⟩ := hcut
         have HR0 := Lib.hid hr
         have e0 := cell_of_row hr.box 0
         have e1 := cell_of_row hr.box 1
         have e2 := cell_of_row hr.box 2
         have e3 := cell_of_row hr.box 3
         simp at e0 e1 e2 e3
         clear hr t16
         go_wp2_with fail
         clear e0 e1 e2 e3
         go_loopw [37] (fun i wr => ∃ k : Nat, i = .int .i64 k ∧ k ≤ np ∧ chain propOK none ps = chain propOK (prevK ps k) (ps.drop k) ∧ RightAt w #[.int .u32 (id : Int), .bool there, .slice ap np cp, .slice ah nh ch] wr) (fun i _ => np - (intOf i).toNat)
         case atStart => exact ⟨0, rfl, Nat.zero_le _, rfl, HR0.out⟩
         case round =>
           obtain ⟨k, rfl, hk, hch, hra⟩ := hrel
           have HCH := Lib.hid hch
           have HRA := Lib.hid hra
           have e0 := cell_of_row hra.box 0
           have e1 := cell_of_row hra.box 1
           have e2 := cell_of_row hra.box 2
           have e3 := cell_of_row hra.box 3
           simp at e0 e1 e2 e3
           clear hch hra
           by_cases hkn : k < np
           · obtain ⟨x, hx⟩ : ∃ x, ps[k]? = some x := ⟨_, List.getElem?_eq_getElem (by rw [← HNP.out]; exact hkn)⟩
             have HX := Lib.hid hx
             have hfx := HF.out.props x (List.mem_of_getElem? hx)
             have hstep := chain_step propOK hx
             obtain ⟨key, vk, vn, vs⟩ := x
             obtain ⟨b, off, rfl, hb, p0, p1, p2, p3⟩ := HP.out.ent hx rfl
             have p0 := HRA.out.mod.cell p0
             have p1 := HRA.out.mod.cell p1
             have p2 := HRA.out.mod.cell p2
             have p3 := HRA.out.mod.cell p3
             simp only at p0 p1 p2 p3 hfx
             have zb : w.heap.size < wr.heap.size := lt_of_block HRA.out.box
             have zc : b < wr.heap.size := Nat.lt_of_lt_of_le hb HRA.out.mod.size
             have HST := Lib.hid hstep
             have HFX := Lib.hid hfx
             have tk0 : (0 : Int) ≤ (key : Int) := by omega
             clear hx hstep hfx HX
             have HBAD : Hid (((propOK ⟨key, ⟨vk, vn, vs⟩⟩ && above (prevK ps k) key) = false) → Vtx.right ⟨id, there, ps, hs⟩ = false) := Lib.hid (fun h => by
               have := HST.out
               rw [h] at this
               simp [Vtx.right, HCH.out, this])
             by_cases hA : 3 < key
             · have tA : (3 : Int) < (key : Int) := by omega
               have HR := Lib.hid (HBAD.out (by simp [propOK]; omega))
               clear hA
               go_wp2_with fail
               go_quiet (fail)
               go_wp2
               go_ret
               exact ⟨ret_bool HR.out.symm, by repeat (first | exact HRA.out.mod.alloc _ | apply Mod.drewN | apply Mod.drew)⟩
             · have tA : ¬ (3 : Int) < (key : Int) := by omega
               have tA2 : decide ((3 : Int) < (key : Int)) = false := by simpa using tA
               by_cases hB : vk = 0
               · have tB : ((vk : Int) == 0) = true := by simp [hB]
                 have HR := Lib.hid (HBAD.out (by simp [propOK, hB]))
                 clear hA hB
                 go_wp2_with fail
                 go_quiet (fail)
                 go_wp2
                 go_ret
                 exact ⟨ret_bool HR.out.symm, by repeat (first | exact HRA.out.mod.alloc _ | apply Mod.drewN | apply Mod.drew)⟩
               · have tB : ((vk : Int) == 0) = false := by simp [hB]
                 obtain ⟨ob, hob⟩ : ∃ ob, Val.ok ⟨vk, vn, vs⟩ = ob := ⟨_, rfl⟩
                 have HOB := Lib.hid hob
                 cases ob with
                 | false =>
                   have HR := Lib.hid (HBAD.out (by simp [propOK, hob]))
                   have HCK := Lib.hid (check_bad vk vn vs HFX.out.2 hob)
                   clear hA hB hob
                   go_wp2_with fail
                   have c0 : ∀ x : MW (wr.alloc (.cells #[.int .u8 (key : Int), .int .u8 (vk : Int), .int .i64 vn, .string vs] 106)), x.w.cell? ⟨wr.heap.size, 0, none⟩ = some (.int .u8 (key : Int)) := fun x => x.cell (by simp)
                   have c1 : ∀ x : MW (wr.alloc (.cells #[.int .u8 (key : Int), .int .u8 (vk : Int), .int .i64 vn, .string vs] 106)), x.w.cell? ⟨wr.heap.size, 1, none⟩ = some (.int .u8 (vk : Int)) := fun x => x.cell (by simp)
                   have c2 : ∀ x : MW (wr.alloc (.cells #[.int .u8 (key : Int), .int .u8 (vk : Int), .int .i64 vn, .string vs] 106)), x.w.cell? ⟨wr.heap.size, 2, none⟩ = some (.int .i64 vn) := fun x => x.cell (by simp)
                   have c3 : ∀ x : MW (wr.alloc (.cells #[.int .u8 (key : Int), .int .u8 (vk : Int), .int .i64 vn, .string vs] 106)), x.w.cell? ⟨wr.heap.size, 3, none⟩ = some (.string vs) := fun x => x.cell (by simp)
                   refine wp_region_quietM (by kernel_rfl) (by kernel_rfl) ?_
                   repeat (go_big_quiet_step ((go_at_call 98; exact Calls.quietM (HCK.out _))))
                   refine wpQuiet_nil ?_
                   intro w3 hm3
                   have M3 : Hid (Mod (fun _ => False) w w3) := (HRA.out.mod.alloc _).trans (MW.mod_of hm3)
                   clear hm3 c0 c1 c2 c3
                   go_wp2
                   go_ret
                   exact ⟨ret_bool HR.out.symm, M3.out⟩
                 | true =>
                   have HCK := Lib.hid (check_good vk vn vs HFX.out.2 hob)
                   have hpo : propOK ⟨key, ⟨vk, vn, vs⟩⟩ = true := by simp [propOK, hob]; omega
                   have HPO := Lib.hid hpo
                   clear hpo hA hB hob
                   by_cases hkp : ¬ 0 < k
                   · have tK : decide ((0 : Int) < (k : Int)) = false := by simp; omega
                     have tKn : decide (0 < k) = false := by simp; omega
                     have HG : Hid (chain propOK none ps = chain propOK (prevK ps (k + 1)) (ps.drop (k + 1))) := Lib.hid (by rw [HCH.out, HST.out, HPO.out, prevK_zero (by omega)]; rfl)
                     clear hkp
                     have c0 : ∀ x : MW (wr.alloc (.cells #[.int .u8 (key : Int), .int .u8 (vk : Int), .int .i64 vn, .string vs] 106)), x.w.cell? ⟨wr.heap.size, 0, none⟩ = some (.int .u8 (key : Int)) := fun x => x.cell (by simp)
                     have c1 : ∀ x : MW (wr.alloc (.cells #[.int .u8 (key : Int), .int .u8 (vk : Int), .int .i64 vn, .string vs] 106)), x.w.cell? ⟨wr.heap.size, 1, none⟩ = some (.int .u8 (vk : Int)) := fun x => x.cell (by simp)
                     have c2 : ∀ x : MW (wr.alloc (.cells #[.int .u8 (key : Int), .int .u8 (vk : Int), .int .i64 vn, .string vs] 106)), x.w.cell? ⟨wr.heap.size, 2, none⟩ = some (.int .i64 vn) := fun x => x.cell (by simp)
                     have c3 : ∀ x : MW (wr.alloc (.cells #[.int .u8 (key : Int), .int .u8 (vk : Int), .int .i64 vn, .string vs] 106)), x.w.cell? ⟨wr.heap.size, 3, none⟩ = some (.string vs) := fun x => x.cell (by simp)
                     go_wp2_with fail
                     refine wp_region_quietM (by kernel_rfl) (by kernel_rfl) ?_
                     repeat (go_big_quiet_step ((go_at_call 98; exact Calls.quietM (HCK.out _))))
                     refine wpQuiet_nil ?_
                     intro w3 hm3
                     have M3 : Hid (Mod (fun _ => False) wr w3) := ((Mod.refl _ wr).alloc _).trans (MW.mod_of hm3)
                     clear hm3 c0 c1 c2 c3
                     go_wp2
                     go_roundw
                     case rel => exact ⟨k + 1, by go_num, by omega, HG.out, HRA.out.more M3.out⟩
                     case measure => simp [intOf]; omega
                   · have tK0 : (0 : Int) < (k : Int) := by omega
                     have hkp : 0 < k := by omega
                     have tK : decide ((0 : Int) < (k : Int)) = true := by simpa using hkp
                     have tKn : decide (0 < k) = true := by simpa using hkp
                     obtain ⟨y, hy⟩ : ∃ y, ps[k - 1]? = some y := ⟨_, List.getElem?_eq_getElem (by rw [← HNP.out]; omega)⟩
                     obtain ⟨b', off', eb, hb', y0, -⟩ := HP.out.ent hy rfl
                     simp only [Option.some.injEq, Addr.mk.injEq, and_true] at eb
                     obtain ⟨rfl, rfl⟩ := eb
                     have y0 := HRA.out.mod.cell y0
                     have HPK := Lib.hid (prevK_pos hkp hy)
                     have HCMP := Lib.hid (cmp8_any y.key key)
                     generalize y.key = ykey at y0 HPK HCMP
                     clear hy hb'
                     by_cases hlt : ykey < key
                     · have HG : Hid (chain propOK none ps = chain propOK (prevK ps (k + 1)) (ps.drop (k + 1))) := Lib.hid (by rw [HCH.out, HST.out, HPO.out, HPK.out]; simp [above, hlt])
                       rw [show cmpN ykey key = -1 by simp [cmpN, hlt]] at HCMP
                       clear hlt
                       have c0 : ∀ x : MW (wr.alloc (.cells #[.int .u8 (key : Int), .int .u8 (vk : Int), .int .i64 vn, .string vs] 106)), x.w.cell? ⟨wr.heap.size, 0, none⟩ = some (.int .u8 (key : Int)) := fun x => x.cell (by simp)
                       have c1 : ∀ x : MW (wr.alloc (.cells #[.int .u8 (key : Int), .int .u8 (vk : Int), .int .i64 vn, .string vs] 106)), x.w.cell? ⟨wr.heap.size, 1, none⟩ = some (.int .u8 (vk : Int)) := fun x => x.cell (by simp)
                       have c2 : ∀ x : MW (wr.alloc (.cells #[.int .u8 (key : Int), .int .u8 (vk : Int), .int .i64 vn, .string vs] 106)), x.w.cell? ⟨wr.heap.size, 2, none⟩ = some (.int .i64 vn) := fun x => x.cell (by simp)
                       have c3 : ∀ x : MW (wr.alloc (.cells #[.int .u8 (key : Int), .int .u8 (vk : Int), .int .i64 vn, .string vs] 106)), x.w.cell? ⟨wr.heap.size, 3, none⟩ = some (.string vs) := fun x => x.cell (by simp)
                       have c4 : ∀ x : MW (wr.alloc (.cells #[.int .u8 (key : Int), .int .u8 (vk : Int), .int .i64 vn, .string vs] 106)), x.w.cell? ⟨w.heap.size, 2, none⟩ = some (.slice (some ⟨b, off, none⟩) np cp) := fun x => x.cell (((Mod.refl _ wr).alloc _).cell e2)
                       have c5 : ∀ x : MW (wr.alloc (.cells #[.int .u8 (key : Int), .int .u8 (vk : Int), .int .i64 vn, .string vs] 106)), x.w.cell? ⟨b, off + (k - 1) * 4, none⟩ = some (.int .u8 (ykey : Int)) := fun x => x.cell (((Mod.refl _ wr).alloc _).cell y0)
                       go_wp2_with fail
                       refine wp_region_quietM (by kernel_rfl) (by kernel_rfl) ?_
                       repeat (go_big_quiet_step (first | (go_at_call 98; exact Calls.quietM (HCK.out _)) | (go_at_call 126; exact Calls.quietS (HCMP.out _))))
                       refine wpQuiet_nil ?_
                       intro w3 hm3
                       have M3 : Hid (Mod (fun _ => False) wr w3) := ((Mod.refl _ wr).alloc _).trans (MW.mod_of hm3)
                       clear hm3 c0 c1 c2 c3 c4 c5
                       go_wp2
                       go_roundw
                       case rel => exact ⟨k + 1, by go_num, by omega, HG.out, HRA.out.more M3.out⟩
                       case measure => simp [intOf]; omega
                     · have HR := Lib.hid (HBAD.out (by rw [HPK.out]; simp [above]; omega))
                       obtain ⟨c, hc, hc0⟩ : ∃ c, cmpN ykey key = c ∧ (0 : Int) ≤ c := ⟨_, rfl, by unfold cmpN; rw [if_neg hlt]; split <;> omega⟩
                       rw [hc] at HCMP
                       have tC : decide ((0 : Int) ≤ c) = true := by simpa using hc0
                       clear hc hlt
                       have c0 : ∀ x : MW (wr.alloc (.cells #[.int .u8 (key : Int), .int .u8 (vk : Int), .int .i64 vn, .string vs] 106)), x.w.cell? ⟨wr.heap.size, 0, none⟩ = some (.int .u8 (key : Int)) := fun x => x.cell (by simp)
                       have c1 : ∀ x : MW (wr.alloc (.cells #[.int .u8 (key : Int), .int .u8 (vk : Int), .int .i64 vn, .string vs] 106)), x.w.cell? ⟨wr.heap.size, 1, none⟩ = some (.int .u8 (vk : Int)) := fun x => x.cell (by simp)
                       have c2 : ∀ x : MW (wr.alloc (.cells #[.int .u8 (key : Int), .int .u8 (vk : Int), .int .i64 vn, .string vs] 106)), x.w.cell? ⟨wr.heap.size, 2, none⟩ = some (.int .i64 vn) := fun x => x.cell (by simp)
                       have c3 : ∀ x : MW (wr.alloc (.cells #[.int .u8 (key : Int), .int .u8 (vk : Int), .int .i64 vn, .string vs] 106)), x.w.cell? ⟨wr.heap.size, 3, none⟩ = some (.string vs) := fun x => x.cell (by simp)
                       have c4 : ∀ x : MW (wr.alloc (.cells #[.int .u8 (key : Int), .int .u8 (vk : Int), .int .i64 vn, .string vs] 106)), x.w.cell? ⟨w.heap.size, 2, none⟩ = some (.slice (some ⟨b, off, none⟩) np cp) := fun x => x.cell (((Mod.refl _ wr).alloc _).cell e2)
                       have c5 : ∀ x : MW (wr.alloc (.cells #[.int .u8 (key : Int), .int .u8 (vk : Int), .int .i64 vn, .string vs] 106)), x.w.cell? ⟨b, off + (k - 1) * 4, none⟩ = some (.int .u8 (ykey : Int)) := fun x => x.cell (((Mod.refl _ wr).alloc _).cell y0)
                       go_wp2_with fail
                       refine wp_region_quietM (by kernel_rfl) (by kernel_rfl) ?_
                       repeat (go_big_quiet_step (first | (go_at_call 98; exact Calls.quietM (HCK.out _)) | (go_at_call 126; exact Calls.quietS (HCMP.out _))))
                       refine wpQuiet_nil ?_
                       intro w3 hm3
                       have M3 : Hid (Mod (fun _ => False) wr w3) := ((Mod.refl _ wr).alloc _).trans (MW.mod_of hm3)
                       clear hm3 c0 c1 c2 c3 c4 c5
                       go_wp2
                       go_ret
                       exact ⟨ret_bool HR.out.symm, HRA.out.mod.trans M3.out⟩
           · have hC1 : chain propOK none ps = true := by
               rw [HCH.out, List.drop_of_length_le (by have := HNP.out; omega)]; rfl
             have HC1 := Lib.hid hC1
             clear hC1 HCH
             obtain ⟨wo, rfl⟩ : ∃ wo : World, wo = wr := ⟨_, rfl⟩
             have HRW := HRA
             clear HRA
             go_wp2_with fail
             clear e0 e1 e2 e3
             go_loopw [78] (fun i wr => ∃ k : Nat, i = .int .i64 k ∧ k ≤ nh ∧ chain (halfOK id) none hs = chain (halfOK id) (prevK hs k) (hs.drop k) ∧ RightAt w #[.int .u32 (id : Int), .bool there, .slice ap np cp, .slice ah nh ch] wr) (fun i _ => nh - (intOf i).toNat)
             case atStart => exact ⟨0, rfl, Nat.zero_le _, rfl, HRW.out⟩
             case round =>
               obtain ⟨k, rfl, hk, hch, hra⟩ := hrel
               have HCH := Lib.hid hch
               have HRA := Lib.hid hra
               have e0 := cell_of_row hra.box 0
               have e3 := cell_of_row hra.box 3
               simp at e0 e3
               clear hch hra
               by_cases hkn2 : k < nh
               · obtain ⟨x, hx⟩ : ∃ x, hs[k]? = some x := ⟨_, List.getElem?_eq_getElem (by rw [← HNH.out]; exact hkn2)⟩
                 have hfx := HF.out.halves x (List.mem_of_getElem? hx)
                 have hstep := chain_step (halfOK id) hx
                 obtain ⟨key, vk, vn, vs⟩ := x
                 obtain ⟨b, off, rfl, hb, p0, p1, p2, p3⟩ := HH.out.ent hx rfl
                 have p0 := HRA.out.mod.cell p0
                 have p1 := HRA.out.mod.cell p1
                 have p2 := HRA.out.mod.cell p2
                 have p3 := HRA.out.mod.cell p3
                 simp only at p0 p1 p2 p3 hfx
                 have zb : w.heap.size < wr.heap.size := lt_of_block HRA.out.box
                 have zc : b < wr.heap.size := Nat.lt_of_lt_of_le hb HRA.out.mod.size
                 have HST := Lib.hid hstep
                 have HFX := Lib.hid hfx
                 have tk0 : (0 : Int) ≤ (key : Int) := by omega
                 clear hx hstep hfx
                 have HBAD : Hid (((halfOK id ⟨key, ⟨vk, vn, vs⟩⟩ && above (prevK hs k) key) = false) → Vtx.right ⟨id, there, ps, hs⟩ = false) := Lib.hid (fun h => by
                   have := HST.out
                   rw [h] at this
                   simp [Vtx.right, HCH.out, this])
                 have HNK := Lib.hid (number_any key)
                 obtain ⟨nb, hnb⟩ : ∃ nb, numB key = nb := ⟨_, rfl⟩
                 have HNB2 := Lib.hid hnb
                 rw [hnb] at HNK
                 clear hnb
                 cases nb with
                 | false =>
                   have HR := Lib.hid (HBAD.out (by simp [halfOK, HNB2.out]))
                   have c0 : ∀ x : MW (wr.alloc (.cells #[.int .u32 (key : Int), .int .u8 (vk : Int), .int .i64 vn, .string vs] 109)), x.w.cell? ⟨wr.heap.size, 0, none⟩ = some (.int .u32 (key : Int)) := fun x => x.cell (by simp)
                   have c1 : ∀ x : MW (wr.alloc (.cells #[.int .u32 (key : Int), .int .u8 (vk : Int), .int .i64 vn, .string vs] 109)), x.w.cell? ⟨wr.heap.size, 1, none⟩ = some (.int .u8 (vk : Int)) := fun x => x.cell (by simp)
                   have c2 : ∀ x : MW (wr.alloc (.cells #[.int .u32 (key : Int), .int .u8 (vk : Int), .int .i64 vn, .string vs] 109)), x.w.cell? ⟨wr.heap.size, 2, none⟩ = some (.int .i64 vn) := fun x => x.cell (by simp)
                   have c3 : ∀ x : MW (wr.alloc (.cells #[.int .u32 (key : Int), .int .u8 (vk : Int), .int .i64 vn, .string vs] 109)), x.w.cell? ⟨wr.heap.size, 3, none⟩ = some (.string vs) := fun x => x.cell (by simp)
                   have c4 : ∀ x : MW (wr.alloc (.cells #[.int .u32 (key : Int), .int .u8 (vk : Int), .int .i64 vn, .string vs] 109)), x.w.cell? ⟨w.heap.size, 0, none⟩ = some (.int .u32 (id : Int)) := fun x => x.cell (((Mod.refl _ wr).alloc _).cell e0)
                   go_wp2_with fail
                   refine wp_region_quietM (by kernel_rfl) (by kernel_rfl) ?_
                   repeat (go_big_quiet_step (first | (go_at_call 54; exact Calls.quietS (HNK.out _))))
                   refine wpQuiet_nil ?_
                   intro w3 hm3
                   have M3 : Hid (Mod (fun _ => False) wr w3) := ((Mod.refl _ wr).alloc _).trans (MW.mod_of hm3)
                   clear hm3 c0 c1 c2 c3 c4
                   go_wp2
                   go_ret
                   exact ⟨ret_bool HR.out.symm, HRA.out.mod.trans M3.out⟩
                 | true =>
                   by_cases hB : key = id
                   · have tB : ((key : Int) == (id : Int)) = true := by simp [hB]
                     have HR := Lib.hid (HBAD.out (by simp [halfOK, hB]))
                     clear hB
                     have c0 : ∀ x : MW (wr.alloc (.cells #[.int .u32 (key : Int), .int .u8 (vk : Int), .int .i64 vn, .string vs] 109)), x.w.cell? ⟨wr.heap.size, 0, none⟩ = some (.int .u32 (key : Int)) := fun x => x.cell (by simp)
                     have c1 : ∀ x : MW (wr.alloc (.cells #[.int .u32 (key : Int), .int .u8 (vk : Int), .int .i64 vn, .string vs] 109)), x.w.cell? ⟨wr.heap.size, 1, none⟩ = some (.int .u8 (vk : Int)) := fun x => x.cell (by simp)
                     have c2 : ∀ x : MW (wr.alloc (.cells #[.int .u32 (key : Int), .int .u8 (vk : Int), .int .i64 vn, .string vs] 109)), x.w.cell? ⟨wr.heap.size, 2, none⟩ = some (.int .i64 vn) := fun x => x.cell (by simp)
                     have c3 : ∀ x : MW (wr.alloc (.cells #[.int .u32 (key : Int), .int .u8 (vk : Int), .int .i64 vn, .string vs] 109)), x.w.cell? ⟨wr.heap.size, 3, none⟩ = some (.string vs) := fun x => x.cell (by simp)
                     have c4 : ∀ x : MW (wr.alloc (.cells #[.int .u32 (key : Int), .int .u8 (vk : Int), .int .i64 vn, .string vs] 109)), x.w.cell? ⟨w.heap.size, 0, none⟩ = some (.int .u32 (id : Int)) := fun x => x.cell (((Mod.refl _ wr).alloc _).cell e0)
                     go_wp2_with fail
                     refine wp_region_quietM (by kernel_rfl) (by kernel_rfl) ?_
                     repeat (go_big_quiet_step (first | (go_at_call 54; exact Calls.quietS (HNK.out _))))
                     refine wpQuiet_nil ?_
                     intro w3 hm3
                     have M3 : Hid (Mod (fun _ => False) wr w3) := ((Mod.refl _ wr).alloc _).trans (MW.mod_of hm3)
                     clear hm3 c0 c1 c2 c3 c4
                     go_wp2
                     go_ret
                     exact ⟨ret_bool HR.out.symm, HRA.out.mod.trans M3.out⟩
                   · have tB : ((key : Int) == (id : Int)) = false := by simp; omega
                     obtain ⟨ob, hob⟩ : ∃ ob, Val.ok ⟨vk, vn, vs⟩ = ob := ⟨_, rfl⟩
                     cases ob with
                     | false =>
                       have HR := Lib.hid (HBAD.out (by simp [halfOK, hob]))
                       have HCK := Lib.hid (check_bad vk vn vs HFX.out.2 hob)
                       clear hB hob
                       have c0 : ∀ x : MW (wr.alloc (.cells #[.int .u32 (key : Int), .int .u8 (vk : Int), .int .i64 vn, .string vs] 109)), x.w.cell? ⟨wr.heap.size, 0, none⟩ = some (.int .u32 (key : Int)) := fun x => x.cell (by simp)
                       have c1 : ∀ x : MW (wr.alloc (.cells #[.int .u32 (key : Int), .int .u8 (vk : Int), .int .i64 vn, .string vs] 109)), x.w.cell? ⟨wr.heap.size, 1, none⟩ = some (.int .u8 (vk : Int)) := fun x => x.cell (by simp)
                       have c2 : ∀ x : MW (wr.alloc (.cells #[.int .u32 (key : Int), .int .u8 (vk : Int), .int .i64 vn, .string vs] 109)), x.w.cell? ⟨wr.heap.size, 2, none⟩ = some (.int .i64 vn) := fun x => x.cell (by simp)
                       have c3 : ∀ x : MW (wr.alloc (.cells #[.int .u32 (key : Int), .int .u8 (vk : Int), .int .i64 vn, .string vs] 109)), x.w.cell? ⟨wr.heap.size, 3, none⟩ = some (.string vs) := fun x => x.cell (by simp)
                       have c4 : ∀ x : MW (wr.alloc (.cells #[.int .u32 (key : Int), .int .u8 (vk : Int), .int .i64 vn, .string vs] 109)), x.w.cell? ⟨w.heap.size, 0, none⟩ = some (.int .u32 (id : Int)) := fun x => x.cell (((Mod.refl _ wr).alloc _).cell e0)
                       go_wp2_with fail
                       refine wp_region_quietM (by kernel_rfl) (by kernel_rfl) ?_
                       repeat (go_big_quiet_step (first | (go_at_call 54; exact Calls.quietS (HNK.out _)) | (go_at_call 98; exact Calls.quietM (HCK.out _))))
                       refine wpQuiet_nil ?_
                       intro w3 hm3
                       have M3 : Hid (Mod (fun _ => False) wr w3) := ((Mod.refl _ wr).alloc _).trans (MW.mod_of hm3)
                       clear hm3 c0 c1 c2 c3 c4
                       go_wp2
                       go_ret
                       exact ⟨ret_bool HR.out.symm, HRA.out.mod.trans M3.out⟩
                     | true =>
                       have HCK := Lib.hid (check_good vk vn vs HFX.out.2 hob)
                       have hpo : halfOK id ⟨key, ⟨vk, vn, vs⟩⟩ = true := by simp [halfOK, hob, HNB2.out, hB]
                       have HPO := Lib.hid hpo
                       clear hpo hB hob
                       by_cases hkp : ¬ 0 < k
                       · have tK : decide ((0 : Int) < (k : Int)) = false := by simp; omega
                         have tKn : decide (0 < k) = false := by simp; omega
                         have HG : Hid (chain (halfOK id) none hs = chain (halfOK id) (prevK hs (k + 1)) (hs.drop (k + 1))) := Lib.hid (by rw [HCH.out, HST.out, HPO.out, prevK_zero (by omega)]; rfl)
                         clear hkp
                         have c0 : ∀ x : MW (wr.alloc (.cells #[.int .u32 (key : Int), .int .u8 (vk : Int), .int .i64 vn, .string vs] 109)), x.w.cell? ⟨wr.heap.size, 0, none⟩ = some (.int .u32 (key : Int)) := fun x => x.cell (by simp)
                         have c1 : ∀ x : MW (wr.alloc (.cells #[.int .u32 (key : Int), .int .u8 (vk : Int), .int .i64 vn, .string vs] 109)), x.w.cell? ⟨wr.heap.size, 1, none⟩ = some (.int .u8 (vk : Int)) := fun x => x.cell (by simp)
                         have c2 : ∀ x : MW (wr.alloc (.cells #[.int .u32 (key : Int), .int .u8 (vk : Int), .int .i64 vn, .string vs] 109)), x.w.cell? ⟨wr.heap.size, 2, none⟩ = some (.int .i64 vn) := fun x => x.cell (by simp)
                         have c3 : ∀ x : MW (wr.alloc (.cells #[.int .u32 (key : Int), .int .u8 (vk : Int), .int .i64 vn, .string vs] 109)), x.w.cell? ⟨wr.heap.size, 3, none⟩ = some (.string vs) := fun x => x.cell (by simp)
                         have c4 : ∀ x : MW (wr.alloc (.cells #[.int .u32 (key : Int), .int .u8 (vk : Int), .int .i64 vn, .string vs] 109)), x.w.cell? ⟨w.heap.size, 0, none⟩ = some (.int .u32 (id : Int)) := fun x => x.cell (((Mod.refl _ wr).alloc _).cell e0)
                         go_wp2_with fail
                         refine wp_region_quietM (by kernel_rfl) (by kernel_rfl) ?_
                         repeat (go_big_quiet_step (first | (go_at_call 54; exact Calls.quietS (HNK.out _)) | (go_at_call 98; exact Calls.quietM (HCK.out _))))
                         refine wpQuiet_nil ?_
                         intro w3 hm3
                         have M3 : Hid (Mod (fun _ => False) wr w3) := ((Mod.refl _ wr).alloc _).trans (MW.mod_of hm3)
                         clear hm3 c0 c1 c2 c3 c4
                         go_wp2
                         go_roundw
                         case rel => exact ⟨k + 1, by go_num, by omega, HG.out, HRA.out.more M3.out⟩
                         case measure => simp [intOf]; omega
                       · have tK0 : (0 : Int) < (k : Int) := by omega
                         have hkp : 0 < k := by omega
                         have tK : decide ((0 : Int) < (k : Int)) = true := by simpa using hkp
                         have tKn : decide (0 < k) = true := by simpa using hkp
                         obtain ⟨y, hy⟩ : ∃ y, hs[k - 1]? = some y := ⟨_, List.getElem?_eq_getElem (by rw [← HNH.out]; omega)⟩
                         obtain ⟨b', off', eb, hb', y0, -⟩ := HH.out.ent hy rfl
                         simp only [Option.some.injEq, Addr.mk.injEq, and_true] at eb
                         obtain ⟨rfl, rfl⟩ := eb
                         have y0 := HRA.out.mod.cell y0
                         have HPK := Lib.hid (prevK_pos hkp hy)
                         have HCMP := Lib.hid (cmp32_any y.key key)
                         generalize y.key = ykey at y0 HPK HCMP
                         clear hy hb'
                         by_cases hlt : ykey < key
                         · have HG : Hid (chain (halfOK id) none hs = chain (halfOK id) (prevK hs (k + 1)) (hs.drop (k + 1))) := Lib.hid (by rw [HCH.out, HST.out, HPO.out, HPK.out]; simp [above, hlt])
                           rw [show cmpN ykey key = -1 by simp [cmpN, hlt]] at HCMP
                           clear hlt
                           have c0 : ∀ x : MW (wr.alloc (.cells #[.int .u32 (key : Int), .int .u8 (vk : Int), .int .i64 vn, .string vs] 109)), x.w.cell? ⟨wr.heap.size, 0, none⟩ = some (.int .u32 (key : Int)) := fun x => x.cell (by simp)
                           have c1 : ∀ x : MW (wr.alloc (.cells #[.int .u32 (key : Int), .int .u8 (vk : Int), .int .i64 vn, .string vs] 109)), x.w.cell? ⟨wr.heap.size, 1, none⟩ = some (.int .u8 (vk : Int)) := fun x => x.cell (by simp)
                           have c2 : ∀ x : MW (wr.alloc (.cells #[.int .u32 (key : Int), .int .u8 (vk : Int), .int .i64 vn, .string vs] 109)), x.w.cell? ⟨wr.heap.size, 2, none⟩ = some (.int .i64 vn) := fun x => x.cell (by simp)
                           have c3 : ∀ x : MW (wr.alloc (.cells #[.int .u32 (key : Int), .int .u8 (vk : Int), .int .i64 vn, .string vs] 109)), x.w.cell? ⟨wr.heap.size, 3, none⟩ = some (.string vs) := fun x => x.cell (by simp)
                           have c4 : ∀ x : MW (wr.alloc (.cells #[.int .u32 (key : Int), .int .u8 (vk : Int), .int .i64 vn, .string vs] 109)), x.w.cell? ⟨w.heap.size, 0, none⟩ = some (.int .u32 (id : Int)) := fun x => x.cell (((Mod.refl _ wr).alloc _).cell e0)
                           have c5 : ∀ x : MW (wr.alloc (.cells #[.int .u32 (key : Int), .int .u8 (vk : Int), .int .i64 vn, .string vs] 109)), x.w.cell? ⟨w.heap.size, 3, none⟩ = some (.slice (some ⟨b, off, none⟩) nh ch) := fun x => x.cell (((Mod.refl _ wr).alloc _).cell e3)
                           have c6 : ∀ x : MW (wr.alloc (.cells #[.int .u32 (key : Int), .int .u8 (vk : Int), .int .i64 vn, .string vs] 109)), x.w.cell? ⟨b, off + (k - 1) * 4, none⟩ = some (.int .u32 (ykey : Int)) := fun x => x.cell (((Mod.refl _ wr).alloc _).cell y0)
                           go_wp2_with fail
                           refine wp_region_quietM (by kernel_rfl) (by kernel_rfl) ?_
                           repeat (go_big_quiet_step (first | (go_at_call 54; exact Calls.quietS (HNK.out _)) | (go_at_call 98; exact Calls.quietM (HCK.out _)) | (go_at_call 127; exact Calls.quietS (HCMP.out _))))
                           refine wpQuiet_nil ?_
                           intro w3 hm3
                           have M3 : Hid (Mod (fun _ => False) wr w3) := ((Mod.refl _ wr).alloc _).trans (MW.mod_of hm3)
                           clear hm3 c0 c1 c2 c3 c4 c5 c6
                           go_wp2
                           go_roundw
                           case rel => exact ⟨k + 1, by go_num, by omega, HG.out, HRA.out.more M3.out⟩
                           case measure => simp [intOf]; omega
                         · have HR := Lib.hid (HBAD.out (by rw [HPK.out]; simp [above]; omega))
                           obtain ⟨c, hc, hc0⟩ : ∃ c, cmpN ykey key = c ∧ (0 : Int) ≤ c := ⟨_, rfl, by unfold cmpN; rw [if_neg hlt]; split <;> omega⟩
                           rw [hc] at HCMP
                           have tC : decide ((0 : Int) ≤ c) = true := by simpa using hc0
                           clear hc hlt
                           have c0 : ∀ x : MW (wr.alloc (.cells #[.int .u32 (key : Int), .int .u8 (vk : Int), .int .i64 vn, .string vs] 109)), x.w.cell? ⟨wr.heap.size, 0, none⟩ = some (.int .u32 (key : Int)) := fun x => x.cell (by simp)
                           have c1 : ∀ x : MW (wr.alloc (.cells #[.int .u32 (key : Int), .int .u8 (vk : Int), .int .i64 vn, .string vs] 109)), x.w.cell? ⟨wr.heap.size, 1, none⟩ = some (.int .u8 (vk : Int)) := fun x => x.cell (by simp)
                           have c2 : ∀ x : MW (wr.alloc (.cells #[.int .u32 (key : Int), .int .u8 (vk : Int), .int .i64 vn, .string vs] 109)), x.w.cell? ⟨wr.heap.size, 2, none⟩ = some (.int .i64 vn) := fun x => x.cell (by simp)
                           have c3 : ∀ x : MW (wr.alloc (.cells #[.int .u32 (key : Int), .int .u8 (vk : Int), .int .i64 vn, .string vs] 109)), x.w.cell? ⟨wr.heap.size, 3, none⟩ = some (.string vs) := fun x => x.cell (by simp)
                           have c4 : ∀ x : MW (wr.alloc (.cells #[.int .u32 (key : Int), .int .u8 (vk : Int), .int .i64 vn, .string vs] 109)), x.w.cell? ⟨w.heap.size, 0, none⟩ = some (.int .u32 (id : Int)) := fun x => x.cell (((Mod.refl _ wr).alloc _).cell e0)
                           have c5 : ∀ x : MW (wr.alloc (.cells #[.int .u32 (key : Int), .int .u8 (vk : Int), .int .i64 vn, .string vs] 109)), x.w.cell? ⟨w.heap.size, 3, none⟩ = some (.slice (some ⟨b, off, none⟩) nh ch) := fun x => x.cell (((Mod.refl _ wr).alloc _).cell e3)
                           have c6 : ∀ x : MW (wr.alloc (.cells #[.int .u32 (key : Int), .int .u8 (vk : Int), .int .i64 vn, .string vs] 109)), x.w.cell? ⟨b, off + (k - 1) * 4, none⟩ = some (.int .u32 (ykey : Int)) := fun x => x.cell (((Mod.refl _ wr).alloc _).cell y0)
                           go_wp2_with fail
                           refine wp_region_quietM (by kernel_rfl) (by kernel_rfl) ?_
                           repeat (go_big_quiet_step (first | (go_at_call 54; exact Calls.quietS (HNK.out _)) | (go_at_call 98; exact Calls.quietM (HCK.out _)) | (go_at_call 127; exact Calls.quietS (HCMP.out _))))
                           refine wpQuiet_nil ?_
                           intro w3 hm3
                           have M3 : Hid (Mod (fun _ => False) wr w3) := ((Mod.refl _ wr).alloc _).trans (MW.mod_of hm3)
                           clear hm3 c0 c1 c2 c3 c4 c5 c6
                           go_wp2
                           go_ret
                           exact ⟨ret_bool HR.out.symm, HRA.out.mod.trans M3.out⟩
               · have HR : Hid (Vtx.right ⟨id, there, ps, hs⟩ = true) := Lib.hid (by
                   have h2 : chain (halfOK id) none hs = true := by rw [HCH.out, List.drop_of_length_le (by have := HNH.out; omega)]; rfl
                   have h3 : (there || (ps.isEmpty && hs.isEmpty)) = true := by
                     rcases HTH.out with h | ⟨h, h'⟩
                     · rw [h]; rfl
                     · rw [List.eq_nil_of_length_eq_zero (HNP.out.symm.trans h), List.eq_nil_of_length_eq_zero (HNH.out.symm.trans h')]; simp
                   have h4 : hs.length ≤ 16 := by rw [← HNH.out]; exact H16.out
                   simp only [Vtx.right, ← HNB.out, h3, HC1.out, h2, h4]; rfl)
                 go_wp2
                 go_ret
                 exact ⟨ret_bool HR.out.symm, HRA.out.mod⟩
     · obtain rfl : there = false := by cases there <;> simp_all
       have hor : ¬ (np = 0 ∧ nh = 0) := fun h => hth (.inr h)
       have HR : Hid (Vtx.right ⟨id, false, ps, hs⟩ = false) := Lib.hid (by
         have : (ps.isEmpty && hs.isEmpty) = false := by
           cases hpe : ps.isEmpty with
           | false => rfl
           | true =>
             cases hhe : hs.isEmpty with
             | false => rfl
             | true =>
               exfalso
               refine hor ⟨by rw [HNP.out]; simpa using hpe, by rw [HNH.out]; simpa using hhe⟩
         simp [Vtx.right, this])
       clear hth h16
       by_cases hp : 0 < np
       case' pos => have hp2 : (0 : Int) < (np : Int) := by omega
       case' neg => have hp3 : 0 < nh := by omega
       all_goals
         clear hor
         go_enter Tryz.func92, Tryz.ntmps92
         go_wp2_with (go_at_call 54; refine (HN.out _).mono ?_; rintro e w' ⟨rfl, rfl⟩)
         go_ret
         exact ⟨ret_bool HR.out.symm, (Mod.refl _ _).alloc _⟩
   · have HR : Hid (Vtx.right ⟨id, there, ps, hs⟩ = false) := Lib.hid (by rw [HNH.out] at h16; simp [Vtx.right, h16])
     have t16 : (16 : Int) < (nh : Int) := by omega
     have t0 : (0 : Int) < (nh : Int) := by omega
     clear h16
     cases there
     case' true =>
       go_enter Tryz.func92, Tryz.ntmps92
     case' false =>
       by_cases hp : 0 < np
       case' pos => have hp2 : (0 : Int) < (np : Int) := by omega
       all_goals
         go_enter Tryz.func92, Tryz.ntmps92
     all_goals
       go_wp2_with (go_at_call 54; refine (HN.out _).mono ?_; rintro e w' ⟨rfl, rfl⟩)
       go_ret
       exact ⟨ret_bool HR.out.symm, (Mod.refl _ _).alloc _⟩
end Go.Proofs.YtlpdifinkcjckaaGreatDoor
