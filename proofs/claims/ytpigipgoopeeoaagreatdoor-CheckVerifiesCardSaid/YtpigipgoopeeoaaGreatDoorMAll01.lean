import Derived.Test.YtpigipgoopeeoaaGreatDoorRows
import Derived.Test.YtpigipgoopeeoaaGreatDoorMAll00
import Derived.WalkSpells
import Derived.OpenShut
import Derived.LoopTactic
import Derived.Deep.DeepCutAuto
import Derived.Deep.RegionHeld3
import Derived.StillTailTactics
import Derived.Maps.Own
set_option linter.unusedVariables false
set_option linter.unusedSimpArgs false
namespace Go.Proofs.YtpigipgoopeeoaaGreatDoor
open Go.RowKit
theorem ret_bool {a b : Bool} (h : a = b) : Ending.returned (.bool a) = .returned (.bool b) := by rw [h]
theorem ret_int {k : IntKind} {a b : Int} (h : a = b) : Ending.returned (.int k a) = .returned (.int k b) := by rw [h]
def letterB (b : Nat) : Bool := decide ((97 ≤ b ∧ b ≤ 122) ∨ (48 ≤ b ∧ b ≤ 57) ∨ b = 46 ∨ b = 45)
theorem letter_any (b : Nat) (hb : b < 256) (w : World) : Calls Tryz.prog 139 #[.int .u8 (b : Int)] w fun e w' => e = .returned (.bool (letterB b)) ∧ w = w' := by
 have hb0 : (0 : Int) ≤ (b : Int) := by omega
 have hb1 : (b : Int) < 256 := by omega
 by_cases h1 : 97 ≤ b
 · have t1 : (97 : Int) ≤ (b : Int) := by omega
   by_cases h2 : b ≤ 122
   · have t2 : (b : Int) ≤ 122 := by omega
     have HF : Hid (letterB b = true) := Lib.hid (by simp [letterB]; omega)
     clear h1 h2
     go_enter Tryz.func139, Tryz.ntmps139
     go_wp2
     go_ret
     exact ⟨ret_bool HF.out.symm, rfl⟩
   · have t2 : ¬ (b : Int) ≤ 122 := by omega
     have t3 : (48 : Int) ≤ (b : Int) := by omega
     have t4 : ¬ (b : Int) ≤ 57 := by omega
     have t5 : ((b : Int) == 46) = false := by simp; omega
     have t6 : ((b : Int) == 45) = false := by simp; omega
     have HF : Hid (letterB b = false) := Lib.hid (by simp [letterB]; omega)
     clear h1 h2
     go_enter Tryz.func139, Tryz.ntmps139
     go_wp2
     go_ret
     exact ⟨ret_bool HF.out.symm, rfl⟩
 · have t1 : ¬ (97 : Int) ≤ (b : Int) := by omega
   by_cases h3 : 48 ≤ b
   · have t3 : (48 : Int) ≤ (b : Int) := by omega
     by_cases h4 : b ≤ 57
     · have t4 : (b : Int) ≤ 57 := by omega
       have HF : Hid (letterB b = true) := Lib.hid (by simp [letterB]; omega)
       clear h1 h3 h4
       go_enter Tryz.func139, Tryz.ntmps139
       go_wp2
       go_ret
       exact ⟨ret_bool HF.out.symm, rfl⟩
     · have t4 : ¬ (b : Int) ≤ 57 := by omega
       have t5 : ((b : Int) == 46) = false := by simp; omega
       have t6 : ((b : Int) == 45) = false := by simp; omega
       have HF : Hid (letterB b = false) := Lib.hid (by simp [letterB]; omega)
       clear h1 h3 h4
       go_enter Tryz.func139, Tryz.ntmps139
       go_wp2
       go_ret
       exact ⟨ret_bool HF.out.symm, rfl⟩
   · have t3 : ¬ (48 : Int) ≤ (b : Int) := by omega
     by_cases h5 : b = 46
     · have t5 : ((b : Int) == 46) = true := by simp; omega
       have HF : Hid (letterB b = true) := Lib.hid (by simp [letterB]; omega)
       clear h1 h3 h5
       go_enter Tryz.func139, Tryz.ntmps139
       go_wp2
       go_ret
       exact ⟨ret_bool HF.out.symm, rfl⟩
     · have t5 : ((b : Int) == 46) = false := by simp; omega
       by_cases h6 : b = 45
       · have t6 : ((b : Int) == 45) = true := by simp; omega
         have HF : Hid (letterB b = true) := Lib.hid (by simp [letterB]; omega)
         clear h1 h3 h5 h6
         go_enter Tryz.func139, Tryz.ntmps139
         go_wp2
         go_ret
         exact ⟨ret_bool HF.out.symm, rfl⟩
       · have t6 : ((b : Int) == 45) = false := by simp; omega
         have HF : Hid (letterB b = false) := Lib.hid (by simp [letterB]; omega)
         clear h1 h3 h5 h6
         go_enter Tryz.func139, Tryz.ntmps139
         go_wp2
         go_ret
         exact ⟨ret_bool HF.out.symm, rfl⟩
def textB (s : ByteArray) : Bool := s.data.toList.all (fun c => letterB c.toNat) && decide (s.size ≤ 8)
theorem text_any (s : ByteArray) (hs : s.size ≤ maxLen) (w : World) : Calls Tryz.prog 125 #[.string s] w fun e w' => e = .returned (.bool (textB s)) ∧ w = w' := by
 unfold maxLen at hs
 go_enter Tryz.func125, Tryz.ntmps125
 go_wp2
 go_loop [6] (fun i => ∃ k : Nat, k ≤ s.size ∧ i = .int .i64 k ∧ (s.data.toList.take k).all (fun c => letterB c.toNat) = true) (fun i => s.size - (intOf i).toNat)
 case atStart => exact ⟨0, Nat.zero_le _, rfl, rfl⟩
 case round =>
   obtain ⟨k, hk, rfl, hall⟩ := hrel
   have HA := Lib.hid hall
   clear hall
   by_cases hlt : k < s.size
   · have hts : s.data.toList.take (k + 1) = s.data.toList.take k ++ [s[k]] := by
       rw [List.take_succ_eq_append_getElem (by simpa using hlt)]; rfl
     have HC := Lib.hid (letter_any s[k].toNat (UInt8.toNat_lt _) w)
     have HS : Hid (∀ b, letterB s[k].toNat = b → (s.data.toList.take (k + 1)).all (fun c => letterB c.toNat) = b) := Lib.hid (by
       intro b hb
       rw [hts, List.all_append, HA.out]
       simp [hb])
     clear hts
     obtain ⟨b, hb⟩ : ∃ b, b = letterB s[k].toNat := ⟨_, rfl⟩
     have HB := Lib.hid hb
     rw [← hb] at HC
     clear hb
     cases b with
     | true =>
       go_wp2_with (go_at_call 139; refine HC.out.mono ?_; rintro e w' ⟨rfl, rfl⟩)
       go_round
       case rel => exact ⟨k + 1, by omega, by go_num, HS.out true HB.out.symm⟩
       case measure => simp [intOf]; omega
     | false =>
       have HF : Hid (textB s = false) := Lib.hid (by
         unfold textB
         have h1 := HS.out false HB.out.symm
         have h2 : s.data.toList.all (fun c => letterB c.toNat) = false := by
           rw [List.all_eq_false] at h1 ⊢
           obtain ⟨c, hc, hn⟩ := h1
           exact ⟨c, List.mem_of_mem_take hc, hn⟩
         rw [h2]; rfl)
       go_wp2_with (go_at_call 139; refine HC.out.mono ?_; rintro e w' ⟨rfl, rfl⟩)
       go_ret
       exact ⟨ret_bool HF.out.symm, rfl⟩
   · have HF : Hid (textB s = decide ((s.size : Int) ≤ 8)) := Lib.hid (by
       unfold textB
       have h1 := HA.out
       rw [List.take_of_length_le (by simp; omega)] at h1
       rw [h1]
       simp
       omega)
     go_wp2
     go_ret
     exact ⟨ret_bool HF.out.symm, rfl⟩
structure Val where
 k : Nat
 n : Int
 s : ByteArray
def Val.ok (v : Val) : Bool :=
 if v.k = 2 then decide (v.n = 0) && textB v.s else if v.k = 0 then decide (v.n = 0) && v.s.toList.isEmpty else if v.k = 1 then v.s.toList.isEmpty else false
def Val.v (v : Val) : Value := .agg #[.int .u8 (v.k : Int), .int .i64 v.n, .string v.s]
structure Val.Fits (v : Val) : Prop where
 k : v.k < 256
 n : -9223372036854775808 ≤ v.n ∧ v.n < 9223372036854775808
 s : v.s.size ≤ maxLen
def codeB (b : Bool) : Int := if b then 0 else 3
theorem check_any (v : Val) (hv : v.Fits) (w : World) : Calls Tryz.prog 97 #[v.v] w fun e w' => e = .returned (.int .i64 (codeB v.ok)) ∧ Mod (fun _ => False) w w' := by
 obtain ⟨k, n, s⟩ := v
 have hk := hv.k
 have hs := hv.s
 simp only at hk hs
 have hk0 : (0 : Int) ≤ (k : Int) := by omega
 have hk1 : (k : Int) < 256 := by omega
 have HT := Lib.hid (text_any s hs)
 obtain ⟨tb, htb⟩ : ∃ tb, tb = textB s := ⟨_, rfl⟩
 have HTB := Lib.hid htb
 rw [← htb] at HT
 clear htb hs hv
 show Calls _ _ #[.agg #[.int .u8 (k : Int), .int .i64 n, .string s]] w _
 by_cases h2 : k = 2
 · subst h2
   by_cases hn : n = 0
   · subst hn
     have HF : Hid (codeB (Val.ok ⟨2, 0, s⟩) = codeB tb) := Lib.hid (by simp [Val.ok, HTB.out])
     cases tb
     all_goals
       go_enter Tryz.func97, Tryz.ntmps97
       go_wp2_with (go_at_call 125; refine (HT.out _).mono ?_; rintro e w' ⟨rfl, rfl⟩)
       go_ret
       exact ⟨ret_int (by rw [HF.out]; rfl), (Mod.refl _ _).alloc _⟩
   · have n1 : (n == 0) = false := by simp [hn]
     have HF : Hid (codeB (Val.ok ⟨2, n, s⟩) = 3) := Lib.hid (by simp [Val.ok, hn, codeB])
     clear hn
     go_enter Tryz.func97, Tryz.ntmps97
     go_wp2
     go_ret
     exact ⟨ret_int HF.out.symm, (Mod.refl _ _).alloc _⟩
 · have k2 : ((k : Int) == 2) = false := by simp; omega
   obtain ⟨eb, heb⟩ : ∃ eb, eb = s.toList.isEmpty := ⟨_, rfl⟩
   by_cases h0 : k = 0
   · subst h0
     by_cases hn : n = 0
     · subst hn
       have HF : Hid (codeB (Val.ok ⟨0, 0, s⟩) = codeB eb) := Lib.hid (by simp [Val.ok, heb])
       cases eb
       all_goals
         have es := heb.symm
         clear heb h2
         go_enter Tryz.func97, Tryz.ntmps97
         go_wp2
         go_ret
         exact ⟨ret_int (by rw [HF.out]; rfl), (Mod.refl _ _).alloc _⟩
     · have n1 : (n == 0) = false := by simp [hn]
       have n2 : (n != 0) = true := by simp [hn]
       have HF : Hid (codeB (Val.ok ⟨0, n, s⟩) = 3) := Lib.hid (by simp [Val.ok, hn, codeB])
       clear hn heb h2
       go_enter Tryz.func97, Tryz.ntmps97
       go_wp2
       go_ret
       exact ⟨ret_int HF.out.symm, (Mod.refl _ _).alloc _⟩
   · have k0 : ((k : Int) == 0) = false := by simp; omega
     by_cases h1 : k = 1
     · subst h1
       have HF : Hid (codeB (Val.ok ⟨1, n, s⟩) = codeB eb) := Lib.hid (by simp [Val.ok, heb])
       cases eb
       all_goals
         have es := heb.symm
         clear heb h2 h0
         go_enter Tryz.func97, Tryz.ntmps97
         go_wp2
         go_ret
         exact ⟨ret_int (by rw [HF.out]; rfl), (Mod.refl _ _).alloc _⟩
     · have k3 : ((k : Int) == 1) = false := by simp; omega
       have HF : Hid (codeB (Val.ok ⟨k, n, s⟩) = 3) := Lib.hid (by simp [Val.ok, h2, h0, h1, codeB])
       clear heb h2 h0 h1
       go_enter Tryz.func97, Tryz.ntmps97
       go_wp2
       go_ret
       exact ⟨ret_int HF.out.symm, (Mod.refl _ _).alloc _⟩
open Go.RowKit
theorem Mod.drewN {S : Nat → Prop} {a w : World} (h : Mod S a w) (n : Nat) : Mod S a (w.drewN n) := ⟨h.os, h.tape, h.output, h.size, h.block⟩
def numB (v : Nat) : Bool := decide (1 ≤ v ∧ v ≤ 40)
theorem number_any (v : Nat) (w : World) : Calls Tryz.prog 70 #[.int .u32 (v : Int)] w fun e w' => e = .returned (.bool (numB v)) ∧ w = w' := by
 by_cases h1 : 1 ≤ v
 · have t1 : (1 : Int) ≤ (v : Int) := by omega
   by_cases h2 : v ≤ 40
   · have t2 : (v : Int) ≤ 40 := by omega
     have HF : Hid (numB v = true) := Lib.hid (by simp [numB]; omega)
     clear h1 h2
     go_enter Tryz.func70, Tryz.ntmps70
     go_wp2
     go_ret
     exact ⟨ret_bool HF.out.symm, rfl⟩
   · have t2 : ¬ (v : Int) ≤ 40 := by omega
     have HF : Hid (numB v = false) := Lib.hid (by simp [numB]; omega)
     clear h1 h2
     go_enter Tryz.func70, Tryz.ntmps70
     go_wp2
     go_ret
     exact ⟨ret_bool HF.out.symm, rfl⟩
 · have t1 : ¬ (1 : Int) ≤ (v : Int) := by omega
   have HF : Hid (numB v = false) := Lib.hid (by simp [numB]; omega)
   clear h1
   go_enter Tryz.func70, Tryz.ntmps70
   go_wp2
   go_ret
   exact ⟨ret_bool HF.out.symm, rfl⟩
structure RdS (w : World) (size : Nat) (v : Value) (n : Nat) (xs : List Value) : Prop where
 len : xs.length = n * size
 shape : ∃ a c, v = .slice a n c ∧ n ≤ c ∧ c ≤ 9223372036854775807 ∧ (a = none → c = 0)
 cell : ∀ a c, v = .slice a n c → ∀ j u, xs[j]? = some u → ∃ b off, a = some ⟨b, off, none⟩ ∧ b < w.heap.size ∧ w.cell? ⟨b, off + j, none⟩ = some u
theorem RdS.mod {S : Nat → Prop} {w w' : World} {size n : Nat} {v : Value} {xs : List Value} (h : RdS w size v n xs) (m : Mod S w w') (hs : ∀ b, v.ownBlock = some b → ¬ S b) : RdS w' size v n xs := by
 refine ⟨h.len, h.shape, fun a c e j u hu => ?_⟩
 obtain ⟨b, off, ea, hb, hc⟩ := h.cell a c e j u hu
 exact ⟨b, off, ea, Nat.lt_of_lt_of_le hb m.size, (World.cell?_of_block (w := w) (m.block b hb (hs b (by rw [e, ea]; rfl)))).trans hc⟩
theorem RdS.keep {w w' : World} {size n : Nat} {v : Value} {xs : List Value} (h : RdS w size v n xs) (m : Mod (fun _ => False) w w') : RdS w' size v n xs := h.mod m (fun _ _ f => f)
theorem RdS.src {w : World} {size n : Nat} {v : Value} {xs : List Value} (h : RdS w size v n xs) (h1 : ∀ u ∈ xs, u.oneCell' = true) : Src w size v n xs := by
 refine ⟨h.len, h1, ?_⟩
 obtain ⟨a, c, e, hc1, hc2, hc3⟩ := h.shape
 cases a with
 | none =>
   obtain rfl := hc3 rfl
   have : n = 0 := by omega
   exact .inl ⟨by rw [e, this], this⟩
 | some ad =>
   refine .inr ⟨ad, c, e, fun j u hu => ?_⟩
   obtain ⟨b, off, ea, _, hc⟩ := h.cell _ _ e j u hu
   injection ea with ea
   subst ea
   rw [addr_add, hc]
theorem Seg.rdS {w : World} {e : TypeId} {size n : Nat} {v : Value} {xs : List Value} (h : Seg w e size v n xs) : RdS w size v n xs := by
 have h0 := h
 obtain ⟨hl, h1, h2⟩ := h
 refine ⟨hl, ?_, fun a c e j u hu => ?_⟩
 · rcases h2 with ⟨rfl, rfl⟩ | ⟨g, off, cap, cur, rfl, hg, hc, hm, _⟩
   · exact ⟨none, 0, rfl, Nat.le_refl _, by decide, fun _ => rfl⟩
   · exact ⟨_, _, rfl, hc, by unfold maxLen at hm; omega, fun h => by cases h⟩
 · have hj : j < n * size := by rw [← hl]; exact (List.getElem?_eq_some_iff.1 hu).1
   have hn : 0 < n := by
     rcases Nat.eq_zero_or_pos n with rfl | hn
     · omega
     · exact hn
   obtain ⟨g, off, cap, e2, _, _, hg, hc⟩ := h0.open hn
   rw [e2] at e
   injection e with e3 e4 e5
   exact ⟨g, off, e3.symm, hg, by rw [(hc j hj).1]; exact hu⟩
structure Ent where
 key : Nat
 val : Val
def Ent.cells (kk : IntKind) (x : Ent) : List Value := [.int kk (x.key : Int), .int .u8 (x.val.k : Int), .int .i64 x.val.n, .string x.val.s]
def Ent.v (kk : IntKind) (x : Ent) : Value := .agg (x.cells kk).toArray
def cellsOf (kk : IntKind) (l : List Ent) : List Value := l.flatMap (Ent.cells kk)
theorem cellsOf_get (kk : IntKind) : ∀ (l : List Ent) (i j : Nat) (x : Ent), l[i]? = some x → j < 4 → (cellsOf kk l)[i * 4 + j]? = (x.cells kk)[j]?
 | [], i, j, x, h, _ => by simp at h
 | y :: r, 0, j, x, h, hj => by
   simp at h
   subst h
   show ((y.cells kk) ++ cellsOf kk r)[0 * 4 + j]? = _
   rw [Nat.zero_mul, Nat.zero_add, List.getElem?_append_left (by simpa [Ent.cells] using hj)]
 | y :: r, i + 1, j, x, h, hj => by
   simp at h
   show ((y.cells kk) ++ cellsOf kk r)[(i + 1) * 4 + j]? = _
   rw [List.getElem?_append_right (by simp [Ent.cells]; omega)]
   have e : (i + 1) * 4 + j - (y.cells kk).length = i * 4 + j := by simp [Ent.cells]; omega
   rw [e]
   exact cellsOf_get kk r i j x h hj
theorem RdS.ent {w : World} {kk : IntKind} {v : Value} {n : Nat} {l : List Ent} (h : RdS w 4 v n (cellsOf kk l)) {i : Nat} {x : Ent} (hi : l[i]? = some x) {a : Option Addr} {c : Nat} (e : v = .slice a n c) :
   ∃ b off, a = some ⟨b, off, none⟩ ∧ b < w.heap.size ∧ w.cell? ⟨b, off + i * 4, none⟩ = some (.int kk (x.key : Int)) ∧ w.cell? ⟨b, off + i * 4 + 1, none⟩ = some (.int .u8 (x.val.k : Int)) ∧ w.cell? ⟨b, off + i * 4 + 2, none⟩ = some (.int .i64 x.val.n) ∧ w.cell? ⟨b, off + i * 4 + 3, none⟩ = some (.string x.val.s) := by
 have g := fun j hj => cellsOf_get kk l i j x hi hj
 obtain ⟨b, off, ea, hb, h0⟩ := h.cell a c e (i * 4 + 0) (.int kk (x.key : Int)) (by rw [g 0 (by omega)]; rfl)
 obtain ⟨b1, off1, ea1, _, h1⟩ := h.cell a c e (i * 4 + 1) (.int .u8 (x.val.k : Int)) (by rw [g 1 (by omega)]; rfl)
 obtain ⟨b2, off2, ea2, _, h2⟩ := h.cell a c e (i * 4 + 2) (.int .i64 x.val.n) (by rw [g 2 (by omega)]; rfl)
 obtain ⟨b3, off3, ea3, _, h3⟩ := h.cell a c e (i * 4 + 3) (.string x.val.s) (by rw [g 3 (by omega)]; rfl)
 rw [ea] at ea1 ea2 ea3
 injection ea1 with e1; injection e1 with e1 e1'
 injection ea2 with e2; injection e2 with e2 e2'
 injection ea3 with e3; injection e3 with e3 e3'
 subst e1 e1' e2 e2' e3 e3'
 exact ⟨b, off, ea, hb, h0, by rw [Nat.add_assoc]; exact h1, by rw [Nat.add_assoc]; exact h2, by rw [Nat.add_assoc]; exact h3⟩
structure Vtx where
 id : Nat
 there : Bool
 props : List Ent
 halves : List Ent
structure Vtx.Fits (x : Vtx) : Prop where
 id : x.id < 4294967296
 props : ∀ p ∈ x.props, p.key < 256 ∧ p.val.Fits
 halves : ∀ p ∈ x.halves, p.key < 4294967296 ∧ p.val.Fits
def vtxV (x : Vtx) (vp vh : Value) : Value := .agg #[.int .u32 (x.id : Int), .bool x.there, vp, vh]
open Go.RowKit
def propOK (p : Ent) : Bool := decide (p.key ≤ 3) && decide (p.val.k ≠ 0) && p.val.ok
def halfOK (id : Nat) (h : Ent) : Bool := numB h.key && decide (h.key ≠ id) && h.val.ok
def above (p : Option Nat) (k : Nat) : Bool := match p with | none => true | some q => decide (q < k)
def chain (ok : Ent → Bool) : Option Nat → List Ent → Bool
 | _, [] => true
 | p, x :: r => (ok x && above p x.key) && chain ok (some x.key) r
def Vtx.right (x : Vtx) : Bool :=
 (numB x.id && (x.there || (x.props.isEmpty && x.halves.isEmpty)) && decide (x.halves.length ≤ 16)) && (chain propOK none x.props && chain (halfOK x.id) none x.halves)
theorem Mod.cell {w w' : World} (m : Mod (fun _ => False) w w') {a : Addr} {v : Value} (h : w.cell? a = some v) : w'.cell? a = some v :=
 (World.cell?_of_block (w := w) (m.block a.block (World.block_lt_of_cell? _ _ h) (fun f => f))).trans h
open Go.RowKit
theorem u32key {k : Nat} (h : k < 4294967296) : (Lit.int .u32 (k : Int)).wf = true := by go_wf
theorem u8key {k : Nat} (h : k < 256) : (Lit.int .u8 (k : Int)).wf = true := by go_wf
structure GAt (w : World) (g bm : Nat) (es : Ents) : Prop where
 cell : w.heap[g]? = some (.cells #[.map (some bm)] 127 (0, 0))
 map : UMap Tryz.prog 32 .u32 w bm es
theorem GAt.mod {S : Nat → Prop} {w w' : World} {g bm : Nat} {es : Ents} (h : GAt w g bm es) (m : Mod S w w') (h1 : ¬ S g) (h2 : ¬ S bm) : GAt w' g bm es := ⟨m.heap h.cell h1, h.map.mod m h2⟩
theorem new_any (w : World) : Calls Tryz.prog 40 #[] w fun e w' => e = .returned (.pointer (some ⟨w.heap.size + 1, 0, none⟩)) ∧ Mod (fun _ => False) w w' ∧ GAt w' (w.heap.size + 1) w.heap.size [] := by
 have hmm := @run_makeMap Tryz.prog
 have HG : Hid (GAt ((w.alloc (.map #[] 0)).alloc (.cells #[.map (some w.heap.size)] 127)) (w.heap.size + 1) w.heap.size []) :=
   ⟨by have h := heap_alloc_new' (w.alloc (.map #[] 0)) (.cells #[.map (some w.heap.size)] 127); simpa using h,
    (UMap.made Tryz.prog 32 .u32 w).keep ((Mod.refl _ _).alloc _)⟩
 go_enter Tryz.func40, Tryz.ntmps40
 go_wp2
 go_ret
 exact ⟨rfl, ((Mod.refl _ _).alloc _).alloc _, HG.out⟩
open Go.RowKit
open Go.RowKit
def zval : Value := .string ⟨#[]⟩
open Go.RowKit
open Go.RowKit
open Go.RowKit
structure Vs where
 x : Vtx
 vp : Value
 vh : Value
def Vs.v (s : Vs) : Value := vtxV s.x s.vp s.vh
def Vs.cells (s : Vs) : List Value := [.int .u32 (s.x.id : Int), .bool s.x.there, s.vp, s.vh]
section
variable {w0 W : World} {g bm b5 id n : Nat} {o : Array Value}
end
open Go.RowKit
open Go.RowKit
structure Ls where
 v : Value
 l : List Vs
theorem RdS.one {w : World} {v : Value} {n m : Nat} {xs : List Value} (h : RdS w 1 v n xs) {i : Nat} {x : Value} (hi : xs[i]? = some x) {a : Option Addr} {c : Nat} (e : v = .slice a m c) :
   ∃ b off, a = some ⟨b, off, none⟩ ∧ b < w.heap.size ∧ w.cell? ⟨b, off + i, none⟩ = some x := by
 obtain ⟨a', c', e', -⟩ := h.shape
 rw [e] at e'
 injection e' with e1 e2 e3
 rw [e2] at e
 exact h.cell a c e i x hi
def held (up : List Bool) : Nat → List Ls → List (Nat × Vs)
 | _, [] => []
 | n, s :: r => (if up[n]? = some true then s.l.map (fun x => (n, x)) else []) ++ held up (n + 1) r
def heldTo (up : List Bool) (ls : List Ls) (n : Nat) : List (Nat × Vs) := held up 0 (ls.take n)
open Go.RowKit
deriving instance DecidableEq for Val
open Go.RowKit
def part (up : List Bool) (ls : List Ls) (k : Nat) (xl : List Vs) (j : Nat) : List (Nat × Vs) := heldTo up ls k ++ (xl.take j).map (fun x => (k, x))
open Go.RowKit
open Go.RowKit
open Go.RowKit
def farE (f : Nat) : Ent := ⟨f, ⟨0, 0, ⟨#[]⟩⟩⟩
theorem src_cells {w : World} {n0 size : Nat} (hn : w.heap.size = n0) (t : TypeId) (cs : Array Value) (hs : cs.size = size) (h1 : ∀ u ∈ cs.toList, u.oneCell' = true) : Src (w.alloc (.cells cs t)) size (.slice (some ⟨n0, 0, none⟩) 1 1) 1 cs.toList := by
 subst hn
 exact Src.one (size := size) w cs t 1 1 (by omega) h1
open Go.RowKit
open Go.RowKit
theorem mod_grown {w w' : World} {v : Value} (g : w.grownBy w' v.ownBlock) : Mod (fun k => v.ownBlock = some k) w w' := ⟨g.os, g.tape, g.output, g.size, fun k hk hne => g.block k hk (fun e => hne e.symm)⟩
open Go.RowKit
open Go.RowKit
def va : Vtx := ⟨1, true, [], [farE 2]⟩
def vb : Vtx := ⟨2, true, [], []⟩
theorem rd_lit (w : World) (t : TypeId) (cs : Array Value) (n size n0 : Nat) (h0 : w.heap.size = n0) (hs : cs.size = n * size) (hn : n ≤ maxLen) (h1 : ∀ u ∈ cs.toList, u.oneCell' = true) : RdS (w.alloc (.cells cs t)) size (.slice (some ⟨n0, 0, none⟩) n n) n cs.toList := by
 subst h0
 exact (Seg.lit (e := t) (size := size) w cs n hs hn h1).rdS
end Go.Proofs.YtpigipgoopeeoaaGreatDoor
