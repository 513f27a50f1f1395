import Derived.Test.YtpigipgoopeeoaaGreatDoorRows
import Derived.Test.YtpigipgoopeeoaaGreatDoorMOn00
import Derived.WalkSpells
import Derived.OpenShut
import Derived.LoopTactic
import Derived.Deep.DeepCutAuto
import Derived.Deep.RegionHeld3
import Derived.StillTailTactics
import Derived.Maps.Own
set_option linter.unusedVariables false
set_option linter.unusedSimpArgs false
namespace Go.Proofs.YtpigipgoopeeoaaGreatDoor
open Go.RowKit
theorem ret_bool {a b : Bool} (h : a = b) : Ending.returned (.bool a) = .returned (.bool b) := by rw [h]
theorem ret_int {k : IntKind} {a b : Int} (h : a = b) : Ending.returned (.int k a) = .returned (.int k b) := by rw [h]
def letterB (b : Nat) : Bool := decide ((97 ≤ b ∧ b ≤ 122) ∨ (48 ≤ b ∧ b ≤ 57) ∨ b = 46 ∨ b = 45)
theorem letter_any (b : Nat) (hb : b < 256) (w : World) : Calls Tryz.prog 139 #[.int .u8 (b : Int)] w fun e w' => e = .returned (.bool (letterB b)) ∧ w = w' := by
 have hb0 : (0 : Int) ≤ (b : Int) := by omega
 have hb1 : (b : Int) < 256 := by omega
 by_cases h1 : 97 ≤ b
 · have t1 : (97 : Int) ≤ (b : Int) := by omega
   by_cases h2 : b ≤ 122
   · have t2 : (b : Int) ≤ 122 := by omega
     have HF : Hid (letterB b = true) := Lib.hid (by simp [letterB]; omega)
     clear h1 h2
     go_enter Tryz.func139, Tryz.ntmps139
     go_wp2
     go_ret
     exact ⟨ret_bool HF.out.symm, rfl⟩
   · have t2 : ¬ (b : Int) ≤ 122 := by omega
     have t3 : (48 : Int) ≤ (b : Int) := by omega
     have t4 : ¬ (b : Int) ≤ 57 := by omega
     have t5 : ((b : Int) == 46) = false := by simp; omega
     have t6 : ((b : Int) == 45) = false := by simp; omega
     have HF : Hid (letterB b = false) := Lib.hid (by simp [letterB]; omega)
     clear h1 h2
     go_enter Tryz.func139, Tryz.ntmps139
     go_wp2
     go_ret
     exact ⟨ret_bool HF.out.symm, rfl⟩
 · have t1 : ¬ (97 : Int) ≤ (b : Int) := by omega
   by_cases h3 : 48 ≤ b
   · have t3 : (48 : Int) ≤ (b : Int) := by omega
     by_cases h4 : b ≤ 57
     · have t4 : (b : Int) ≤ 57 := by omega
       have HF : Hid (letterB b = true) := Lib.hid (by simp [letterB]; omega)
       clear h1 h3 h4
       go_enter Tryz.func139, Tryz.ntmps139
       go_wp2
       go_ret
       exact ⟨ret_bool HF.out.symm, rfl⟩
     · have t4 : ¬ (b : Int) ≤ 57 := by omega
       have t5 : ((b : Int) == 46) = false := by simp; omega
       have t6 : ((b : Int) == 45) = false := by simp; omega
       have HF : Hid (letterB b = false) := Lib.hid (by simp [letterB]; omega)
       clear h1 h3 h4
       go_enter Tryz.func139, Tryz.ntmps139
       go_wp2
       go_ret
       exact ⟨ret_bool HF.out.symm, rfl⟩
   · have t3 : ¬ (48 : Int) ≤ (b : Int) := by omega
     by_cases h5 : b = 46
     · have t5 : ((b : Int) == 46) = true := by simp; omega
       have HF : Hid (letterB b = true) := Lib.hid (by simp [letterB]; omega)
       clear h1 h3 h5
       go_enter Tryz.func139, Tryz.ntmps139
       go_wp2
       go_ret
       exact ⟨ret_bool HF.out.symm, rfl⟩
     · have t5 : ((b : Int) == 46) = false := by simp; omega
       by_cases h6 : b = 45
       · have t6 : ((b : Int) == 45) = true := by simp; omega
         have HF : Hid (letterB b = true) := Lib.hid (by simp [letterB]; omega)
         clear h1 h3 h5 h6
         go_enter Tryz.func139, Tryz.ntmps139
         go_wp2
         go_ret
         exact ⟨ret_bool HF.out.symm, rfl⟩
       · have t6 : ((b : Int) == 45) = false := by simp; omega
         have HF : Hid (letterB b = false) := Lib.hid (by simp [letterB]; omega)
         clear h1 h3 h5 h6
         go_enter Tryz.func139, Tryz.ntmps139
         go_wp2
         go_ret
         exact ⟨ret_bool HF.out.symm, rfl⟩
def textB (s : ByteArray) : Bool := s.data.toList.all (fun c => letterB c.toNat) && decide (s.size ≤ 8)
theorem text_any (s : ByteArray) (hs : s.size ≤ maxLen) (w : World) : Calls Tryz.prog 125 #[.string s] w fun e w' => e = .returned (.bool (textB s)) ∧ w = w' := by
 unfold maxLen at hs
 go_enter Tryz.func125, Tryz.ntmps125
 go_wp2
 go_loop [6] (fun i => ∃ k : Nat, k ≤ s.size ∧ i = .int .i64 k ∧ (s.data.toList.take k).all (fun c => letterB c.toNat) = true) (fun i => s.size - (intOf i).toNat)
 case atStart => exact ⟨0, Nat.zero_le _, rfl, rfl⟩
 case round =>
   obtain ⟨k, hk, rfl, hall⟩ := hrel
   have HA := Lib.hid hall
   clear hall
   by_cases hlt : k < s.size
   · have hts : s.data.toList.take (k + 1) = s.data.toList.take k ++ [s[k]] := by
       rw [List.take_succ_eq_append_getElem (by simpa using hlt)]; rfl
     have HC := Lib.hid (letter_any s[k].toNat (UInt8.toNat_lt _) w)
     have HS : Hid (∀ b, letterB s[k].toNat = b → (s.data.toList.take (k + 1)).all (fun c => letterB c.toNat) = b) := Lib.hid (by
       intro b hb
       rw [hts, List.all_append, HA.out]
       simp [hb])
     clear hts
     obtain ⟨b, hb⟩ : ∃ b, b = letterB s[k].toNat := ⟨_, rfl⟩
     have HB := Lib.hid hb
     rw [← hb] at HC
     clear hb
     cases b with
     | true =>
       go_wp2_with (go_at_call 139; refine HC.out.mono ?_; rintro e w' ⟨rfl, rfl⟩)
       go_round
       case rel => exact ⟨k + 1, by omega, by go_num, HS.out true HB.out.symm⟩
       case measure => simp [intOf]; omega
     | false =>
       have HF : Hid (textB s = false) := Lib.hid (by
         unfold textB
         have h1 := HS.out false HB.out.symm
         have h2 : s.data.toList.all (fun c => letterB c.toNat) = false := by
           rw [List.all_eq_false] at h1 ⊢
           obtain ⟨c, hc, hn⟩ := h1
           exact ⟨c, List.mem_of_mem_take hc, hn⟩
         rw [h2]; rfl)
       go_wp2_with (go_at_call 139; refine HC.out.mono ?_; rintro e w' ⟨rfl, rfl⟩)
       go_ret
       exact ⟨ret_bool HF.out.symm, rfl⟩
   · have HF : Hid (textB s = decide ((s.size : Int) ≤ 8)) := Lib.hid (by
       unfold textB
       have h1 := HA.out
       rw [List.take_of_length_le (by simp; omega)] at h1
       rw [h1]
       simp
       omega)
     go_wp2
     go_ret
     exact ⟨ret_bool HF.out.symm, rfl⟩
structure Val where
 k : Nat
 n : Int
 s : ByteArray
def Val.ok (v : Val) : Bool :=
 if v.k = 2 then decide (v.n = 0) && textB v.s else if v.k = 0 then decide (v.n = 0) && v.s.toList.isEmpty else if v.k = 1 then v.s.toList.isEmpty else false
def Val.v (v : Val) : Value := .agg #[.int .u8 (v.k : Int), .int .i64 v.n, .string v.s]
structure Val.Fits (v : Val) : Prop where
 k : v.k < 256
 n : -9223372036854775808 ≤ v.n ∧ v.n < 9223372036854775808
 s : v.s.size ≤ maxLen
def codeB (b : Bool) : Int := if b then 0 else 3
theorem check_any (v : Val) (hv : v.Fits) (w : World) : Calls Tryz.prog 97 #[v.v] w fun e w' => e = .returned (.int .i64 (codeB v.ok)) ∧ Mod (fun _ => False) w w' := by
 obtain ⟨k, n, s⟩ := v
 have hk := hv.k
 have hs := hv.s
 simp only at hk hs
 have hk0 : (0 : Int) ≤ (k : Int) := by omega
 have hk1 : (k : Int) < 256 := by omega
 have HT := Lib.hid (text_any s hs)
 obtain ⟨tb, htb⟩ : ∃ tb, tb = textB s := ⟨_, rfl⟩
 have HTB := Lib.hid htb
 rw [← htb] at HT
 clear htb hs hv
 show Calls _ _ #[.agg #[.int .u8 (k : Int), .int .i64 n, .string s]] w _
 by_cases h2 : k = 2
 · subst h2
   by_cases hn : n = 0
   · subst hn
     have HF : Hid (codeB (Val.ok ⟨2, 0, s⟩) = codeB tb) := Lib.hid (by simp [Val.ok, HTB.out])
     cases tb
     all_goals
       go_enter Tryz.func97, Tryz.ntmps97
       go_wp2_with (go_at_call 125; refine (HT.out _).mono ?_; rintro e w' ⟨rfl, rfl⟩)
       go_ret
       exact ⟨ret_int (by rw [HF.out]; rfl), (Mod.refl _ _).alloc _⟩
   · have n1 : (n == 0) = false := by simp [hn]
     have HF : Hid (codeB (Val.ok ⟨2, n, s⟩) = 3) := Lib.hid (by simp [Val.ok, hn, codeB])
     clear hn
     go_enter Tryz.func97, Tryz.ntmps97
     go_wp2
     go_ret
     exact ⟨ret_int HF.out.symm, (Mod.refl _ _).alloc _⟩
 · have k2 : ((k : Int) == 2) = false := by simp; omega
   obtain ⟨eb, heb⟩ : ∃ eb, eb = s.toList.isEmpty := ⟨_, rfl⟩
   by_cases h0 : k = 0
   · subst h0
     by_cases hn : n = 0
     · subst hn
       have HF : Hid (codeB (Val.ok ⟨0, 0, s⟩) = codeB eb) := Lib.hid (by simp [Val.ok, heb])
       cases eb
       all_goals
         have es := heb.symm
         clear heb h2
         go_enter Tryz.func97, Tryz.ntmps97
         go_wp2
         go_ret
         exact ⟨ret_int (by rw [HF.out]; rfl), (Mod.refl _ _).alloc _⟩
     · have n1 : (n == 0) = false := by simp [hn]
       have n2 : (n != 0) = true := by simp [hn]
       have HF : Hid (codeB (Val.ok ⟨0, n, s⟩) = 3) := Lib.hid (by simp [Val.ok, hn, codeB])
       clear hn heb h2
       go_enter Tryz.func97, Tryz.ntmps97
       go_wp2
       go_ret
       exact ⟨ret_int HF.out.symm, (Mod.refl _ _).alloc _⟩
   · have k0 : ((k : Int) == 0) = false := by simp; omega
     by_cases h1 : k = 1
     · subst h1
       have HF : Hid (codeB (Val.ok ⟨1, n, s⟩) = codeB eb) := Lib.hid (by simp [Val.ok, heb])
       cases eb
       all_goals
         have es := heb.symm
         clear heb h2 h0
         go_enter Tryz.func97, Tryz.ntmps97
         go_wp2
         go_ret
         exact ⟨ret_int (by rw [HF.out]; rfl), (Mod.refl _ _).alloc _⟩
     · have k3 : ((k : Int) == 1) = false := by simp; omega
       have HF : Hid (codeB (Val.ok ⟨k, n, s⟩) = 3) := Lib.hid (by simp [Val.ok, h2, h0, h1, codeB])
       clear heb h2 h0 h1
       go_enter Tryz.func97, Tryz.ntmps97
       go_wp2
       go_ret
       exact ⟨ret_int HF.out.symm, (Mod.refl _ _).alloc _⟩
open Go.RowKit
theorem Mod.drewN {S : Nat → Prop} {a w : World} (h : Mod S a w) (n : Nat) : Mod S a (w.drewN n) := ⟨h.os, h.tape, h.output, h.size, h.block⟩
def numB (v : Nat) : Bool := decide (1 ≤ v ∧ v ≤ 40)
theorem number_any (v : Nat) (w : World) : Calls Tryz.prog 70 #[.int .u32 (v : Int)] w fun e w' => e = .returned (.bool (numB v)) ∧ w = w' := by
 by_cases h1 : 1 ≤ v
 · have t1 : (1 : Int) ≤ (v : Int) := by omega
   by_cases h2 : v ≤ 40
   · have t2 : (v : Int) ≤ 40 := by omega
     have HF : Hid (numB v = true) := Lib.hid (by simp [numB]; omega)
     clear h1 h2
     go_enter Tryz.func70, Tryz.ntmps70
     go_wp2
     go_ret
     exact ⟨ret_bool HF.out.symm, rfl⟩
   · have t2 : ¬ (v : Int) ≤ 40 := by omega
     have HF : Hid (numB v = false) := Lib.hid (by simp [numB]; omega)
     clear h1 h2
     go_enter Tryz.func70, Tryz.ntmps70
     go_wp2
     go_ret
     exact ⟨ret_bool HF.out.symm, rfl⟩
 · have t1 : ¬ (1 : Int) ≤ (v : Int) := by omega
   have HF : Hid (numB v = false) := Lib.hid (by simp [numB]; omega)
   clear h1
   go_enter Tryz.func70, Tryz.ntmps70
   go_wp2
   go_ret
   exact ⟨ret_bool HF.out.symm, rfl⟩
structure RdS (w : World) (size : Nat) (v : Value) (n : Nat) (xs : List Value) : Prop where
 len : xs.length = n * size
 shape : ∃ a c, v = .slice a n c ∧ n ≤ c ∧ c ≤ 9223372036854775807 ∧ (a = none → c = 0)
 cell : ∀ a c, v = .slice a n c → ∀ j u, xs[j]? = some u → ∃ b off, a = some ⟨b, off, none⟩ ∧ b < w.heap.size ∧ w.cell? ⟨b, off + j, none⟩ = some u
theorem RdS.mod {S : Nat → Prop} {w w' : World} {size n : Nat} {v : Value} {xs : List Value} (h : RdS w size v n xs) (m : Mod S w w') (hs : ∀ b, v.ownBlock = some b → ¬ S b) : RdS w' size v n xs := by
 refine ⟨h.len, h.shape, fun a c e j u hu => ?_⟩
 obtain ⟨b, off, ea, hb, hc⟩ := h.cell a c e j u hu
 exact ⟨b, off, ea, Nat.lt_of_lt_of_le hb m.size, (World.cell?_of_block (w := w) (m.block b hb (hs b (by rw [e, ea]; rfl)))).trans hc⟩
theorem RdS.keep {w w' : World} {size n : Nat} {v : Value} {xs : List Value} (h : RdS w size v n xs) (m : Mod (fun _ => False) w w') : RdS w' size v n xs := h.mod m (fun _ _ f => f)
theorem RdS.src {w : World} {size n : Nat} {v : Value} {xs : List Value} (h : RdS w size v n xs) (h1 : ∀ u ∈ xs, u.oneCell' = true) : Src w size v n xs := by
 refine ⟨h.len, h1, ?_⟩
 obtain ⟨a, c, e, hc1, hc2, hc3⟩ := h.shape
 cases a with
 | none =>
   obtain rfl := hc3 rfl
   have : n = 0 := by omega
   exact .inl ⟨by rw [e, this], this⟩
 | some ad =>
   refine .inr ⟨ad, c, e, fun j u hu => ?_⟩
   obtain ⟨b, off, ea, _, hc⟩ := h.cell _ _ e j u hu
   injection ea with ea
   subst ea
   rw [addr_add, hc]
theorem Seg.rdS {w : World} {e : TypeId} {size n : Nat} {v : Value} {xs : List Value} (h : Seg w e size v n xs) : RdS w size v n xs := by
 have h0 := h
 obtain ⟨hl, h1, h2⟩ := h
 refine ⟨hl, ?_, fun a c e j u hu => ?_⟩
 · rcases h2 with ⟨rfl, rfl⟩ | ⟨g, off, cap, cur, rfl, hg, hc, hm, _⟩
   · exact ⟨none, 0, rfl, Nat.le_refl _, by decide, fun _ => rfl⟩
   · exact ⟨_, _, rfl, hc, by unfold maxLen at hm; omega, fun h => by cases h⟩
 · have hj : j < n * size := by rw [← hl]; exact (List.getElem?_eq_some_iff.1 hu).1
   have hn : 0 < n := by
     rcases Nat.eq_zero_or_pos n with rfl | hn
     · omega
     · exact hn
   obtain ⟨g, off, cap, e2, _, _, hg, hc⟩ := h0.open hn
   rw [e2] at e
   injection e with e3 e4 e5
   exact ⟨g, off, e3.symm, hg, by rw [(hc j hj).1]; exact hu⟩
structure Ent where
 key : Nat
 val : Val
def Ent.cells (kk : IntKind) (x : Ent) : List Value := [.int kk (x.key : Int), .int .u8 (x.val.k : Int), .int .i64 x.val.n, .string x.val.s]
def Ent.v (kk : IntKind) (x : Ent) : Value := .agg (x.cells kk).toArray
def cellsOf (kk : IntKind) (l : List Ent) : List Value := l.flatMap (Ent.cells kk)
theorem cellsOf_get (kk : IntKind) : ∀ (l : List Ent) (i j : Nat) (x : Ent), l[i]? = some x → j < 4 → (cellsOf kk l)[i * 4 + j]? = (x.cells kk)[j]?
 | [], i, j, x, h, _ => by simp at h
 | y :: r, 0, j, x, h, hj => by
   simp at h
   subst h
   show ((y.cells kk) ++ cellsOf kk r)[0 * 4 + j]? = _
   rw [Nat.zero_mul, Nat.zero_add, List.getElem?_append_left (by simpa [Ent.cells] using hj)]
 | y :: r, i + 1, j, x, h, hj => by
   simp at h
   show ((y.cells kk) ++ cellsOf kk r)[(i + 1) * 4 + j]? = _
   rw [List.getElem?_append_right (by simp [Ent.cells]; omega)]
   have e : (i + 1) * 4 + j - (y.cells kk).length = i * 4 + j := by simp [Ent.cells]; omega
   rw [e]
   exact cellsOf_get kk r i j x h hj
theorem cellsOf_ones (kk : IntKind) (l : List Ent) : ∀ u ∈ cellsOf kk l, u.oneCell' = true := by
 intro u hu
 simp only [cellsOf, List.mem_flatMap, Ent.cells] at hu
 obtain ⟨x, _, hx⟩ := hu
 simp at hx
 rcases hx with rfl | rfl | rfl | rfl <;> rfl
theorem RdS.ent {w : World} {kk : IntKind} {v : Value} {n : Nat} {l : List Ent} (h : RdS w 4 v n (cellsOf kk l)) {i : Nat} {x : Ent} (hi : l[i]? = some x) {a : Option Addr} {c : Nat} (e : v = .slice a n c) :
   ∃ b off, a = some ⟨b, off, none⟩ ∧ b < w.heap.size ∧ w.cell? ⟨b, off + i * 4, none⟩ = some (.int kk (x.key : Int)) ∧ w.cell? ⟨b, off + i * 4 + 1, none⟩ = some (.int .u8 (x.val.k : Int)) ∧ w.cell? ⟨b, off + i * 4 + 2, none⟩ = some (.int .i64 x.val.n) ∧ w.cell? ⟨b, off + i * 4 + 3, none⟩ = some (.string x.val.s) := by
 have g := fun j hj => cellsOf_get kk l i j x hi hj
 obtain ⟨b, off, ea, hb, h0⟩ := h.cell a c e (i * 4 + 0) (.int kk (x.key : Int)) (by rw [g 0 (by omega)]; rfl)
 obtain ⟨b1, off1, ea1, _, h1⟩ := h.cell a c e (i * 4 + 1) (.int .u8 (x.val.k : Int)) (by rw [g 1 (by omega)]; rfl)
 obtain ⟨b2, off2, ea2, _, h2⟩ := h.cell a c e (i * 4 + 2) (.int .i64 x.val.n) (by rw [g 2 (by omega)]; rfl)
 obtain ⟨b3, off3, ea3, _, h3⟩ := h.cell a c e (i * 4 + 3) (.string x.val.s) (by rw [g 3 (by omega)]; rfl)
 rw [ea] at ea1 ea2 ea3
 injection ea1 with e1; injection e1 with e1 e1'
 injection ea2 with e2; injection e2 with e2 e2'
 injection ea3 with e3; injection e3 with e3 e3'
 subst e1 e1' e2 e2' e3 e3'
 exact ⟨b, off, ea, hb, h0, by rw [Nat.add_assoc]; exact h1, by rw [Nat.add_assoc]; exact h2, by rw [Nat.add_assoc]; exact h3⟩
structure Vtx where
 id : Nat
 there : Bool
 props : List Ent
 halves : List Ent
structure Vtx.Fits (x : Vtx) : Prop where
 id : x.id < 4294967296
 props : ∀ p ∈ x.props, p.key < 256 ∧ p.val.Fits
 halves : ∀ p ∈ x.halves, p.key < 4294967296 ∧ p.val.Fits
structure VRd (w : World) (vp vh : Value) (x : Vtx) : Prop where
 fits : x.Fits
 props : RdS w 4 vp x.props.length (cellsOf .u8 x.props)
 halves : RdS w 4 vh x.halves.length (cellsOf .u32 x.halves)
theorem VRd.keep {w w' : World} {vp vh : Value} {x : Vtx} (h : VRd w vp vh x) (m : Mod (fun _ => False) w w') : VRd w' vp vh x := ⟨h.fits, h.props.keep m, h.halves.keep m⟩
def vtxV (x : Vtx) (vp vh : Value) : Value := .agg #[.int .u32 (x.id : Int), .bool x.there, vp, vh]
open Go.RowKit
def propOK (p : Ent) : Bool := decide (p.key ≤ 3) && decide (p.val.k ≠ 0) && p.val.ok
def halfOK (id : Nat) (h : Ent) : Bool := numB h.key && decide (h.key ≠ id) && h.val.ok
def above (p : Option Nat) (k : Nat) : Bool := match p with | none => true | some q => decide (q < k)
def chain (ok : Ent → Bool) : Option Nat → List Ent → Bool
 | _, [] => true
 | p, x :: r => (ok x && above p x.key) && chain ok (some x.key) r
def Vtx.right (x : Vtx) : Bool :=
 (numB x.id && (x.there || (x.props.isEmpty && x.halves.isEmpty)) && decide (x.halves.length ≤ 16)) && (chain propOK none x.props && chain (halfOK x.id) none x.halves)
theorem Mod.cell {w w' : World} (m : Mod (fun _ => False) w w') {a : Addr} {v : Value} (h : w.cell? a = some v) : w'.cell? a = some v :=
 (World.cell?_of_block (w := w) (m.block a.block (World.block_lt_of_cell? _ _ h) (fun f => f))).trans h
open Go.RowKit
theorem u32key {k : Nat} (h : k < 4294967296) : (Lit.int .u32 (k : Int)).wf = true := by go_wf
theorem u8key {k : Nat} (h : k < 256) : (Lit.int .u8 (k : Int)).wf = true := by go_wf
structure GAt (w : World) (g bm : Nat) (es : Ents) : Prop where
 cell : w.heap[g]? = some (.cells #[.map (some bm)] 127 (0, 0))
 map : UMap Tryz.prog 32 .u32 w bm es
theorem GAt.mod {S : Nat → Prop} {w w' : World} {g bm : Nat} {es : Ents} (h : GAt w g bm es) (m : Mod S w w') (h1 : ¬ S g) (h2 : ¬ S bm) : GAt w' g bm es := ⟨m.heap h.cell h1, h.map.mod m h2⟩
theorem new_any (w : World) : Calls Tryz.prog 40 #[] w fun e w' => e = .returned (.pointer (some ⟨w.heap.size + 1, 0, none⟩)) ∧ Mod (fun _ => False) w w' ∧ GAt w' (w.heap.size + 1) w.heap.size [] := by
 have hmm := @run_makeMap Tryz.prog
 have HG : Hid (GAt ((w.alloc (.map #[] 0)).alloc (.cells #[.map (some w.heap.size)] 127)) (w.heap.size + 1) w.heap.size []) :=
   ⟨by have h := heap_alloc_new' (w.alloc (.map #[] 0)) (.cells #[.map (some w.heap.size)] 127); simpa using h,
    (UMap.made Tryz.prog 32 .u32 w).keep ((Mod.refl _ _).alloc _)⟩
 go_enter Tryz.func40, Tryz.ntmps40
 go_wp2
 go_ret
 exact ⟨rfl, ((Mod.refl _ _).alloc _).alloc _, HG.out⟩
open Go.RowKit
open Go.RowKit
def zval : Value := .string ⟨#[]⟩
theorem infoProp : (Tryz.prog.info? 145).map (fun i => (i.zero, i.size, i.bytes)) = some (some (.agg #[.int .u8 0, .int .u8 0, .int .i64 0, zval]), 4, 40) := by kernel_rfl
theorem infoHalf : (Tryz.prog.info? 112).map (fun i => (i.zero, i.size, i.bytes)) = some (some (.agg #[.int .u32 0, .int .u8 0, .int .i64 0, zval]), 4, 40) := by kernel_rfl
structure VNew (w0 w : World) (vp vh : Value) (x : Vtx) : Prop where
 fits : x.Fits
 props : Seg w 145 4 vp x.props.length (cellsOf .u8 x.props)
 halves : Seg w 112 4 vh x.halves.length (cellsOf .u32 x.halves)
 newp : ∀ b, vp.ownBlock = some b → w0.heap.size ≤ b
 newh : ∀ b, vh.ownBlock = some b → w0.heap.size ≤ b
theorem VNew.rd {w0 w : World} {vp vh : Value} {x : Vtx} (h : VNew w0 w vp vh x) : VRd w vp vh x := ⟨h.fits, h.props.rdS, h.halves.rdS⟩
theorem VNew.mod {S : Nat → Prop} {w0 w w' : World} {vp vh : Value} {x : Vtx} (h : VNew w0 w vp vh x) (m : Mod S w w') (hs : ∀ b, w0.heap.size ≤ b → ¬ S b) : VNew w0 w' vp vh x :=
 ⟨h.fits, h.props.mod m (fun b hb => hs b (h.newp b hb)), h.halves.mod m (fun b hb => hs b (h.newh b hb)), h.newp, h.newh⟩
theorem VNew.keep {w0 w w' : World} {vp vh : Value} {x : Vtx} (h : VNew w0 w vp vh x) (m : Mod (fun _ => False) w w') : VNew w0 w' vp vh x := h.mod m (fun _ _ f => f)
def Twins (w : World) (x : Vtx) (e : Ending) (w' : World) : Prop := ∃ vp vh, e = .returned (.agg #[.int .u32 (x.id : Int), .bool x.there, vp, vh]) ∧ Mod (fun _ => False) w w' ∧ VNew w w' vp vh x
theorem fresh_seg {w w2 : World} {t : TypeId} {v : Value} {n n0 : Nat} {xs : List Value} (hn : w.heap.size = n0)
   (hs : Seg w2 t 4 v (0 + n) ([] ++ xs)) (hg : (w.alloc (.cells #[] t)).grownBy w2 (Value.ownBlock (.slice (some ⟨n0, 0, none⟩) 0 0)))
   (ho : v.ownBlock = Value.ownBlock (.slice (some ⟨n0, 0, none⟩) 0 0) ∨ v.ownBlock = some (w.alloc (.cells #[] t)).heap.size) : Seg w2 t 4 v n xs ∧ Mod (fun _ => False) w w2 ∧ ∀ b, v.ownBlock = some b → n0 ≤ b := by
 subst hn
 refine ⟨by simpa using hs, ((Mod.refl _ w).alloc _).grown hg (fun b hb hlt => ?_), fun b hb => ?_⟩
 · simp [Value.ownBlock] at hb; omega
 · rcases ho with e | e
   · rw [e] at hb; simp [Value.ownBlock] at hb; omega
   · rw [e] at hb; simp at hb; omega
theorem empty4 (w : World) (t : TypeId) {n0 : Nat} (hn : w.heap.size = n0) : Seg (w.alloc (.cells #[] t)) t 4 (.slice (some ⟨n0, 0, none⟩) 0 0) 0 [] := by
 subst hn
 have := Seg.lit (e := t) (size := 4) w #[] 0 rfl (by decide) (by simp)
 exact this
structure TwAt (w : World) (o : Array Value) (wx : World) : Prop where
 mod : Mod (fun _ => False) w wx
 box : wx.heap[w.heap.size]? = some (.cells o 104 (0, 0))
 ret : wx.heap[w.heap.size + 1]? = some (.cells #[.int .u32 0, .bool false, .slice none 0 0, .slice none 0 0] 104 (0, 0))
theorem TwAt.begin (w : World) (o : Array Value) : TwAt w o ((w.alloc (.cells o 104)).alloc (.cells #[.int .u32 0, .bool false, .slice none 0 0, .slice none 0 0] 104)) :=
 ⟨((Mod.refl _ _).alloc _).alloc _, heap_alloc_old (heap_alloc_new' w _), by
   have h := heap_alloc_new' (w.alloc (.cells o 104)) (.cells #[.int .u32 0, .bool false, .slice none 0 0, .slice none 0 0] 104)
   simpa using h⟩
theorem TwAt.more {w wx wy : World} {o : Array Value} (h : TwAt w o wx) (m : Mod (fun _ => False) wx wy) : TwAt w o wy := ⟨h.mod.trans m, m.heap h.box (fun f => f), m.heap h.ret (fun f => f)⟩
theorem TwAt.store {w wx : World} {o : Array Value} (h : TwAt w o wx) (j : Nat) (u : Value) : TwAt w (o.setIfInBounds j u) (wx.setCell ⟨w.heap.size, j, none⟩ u) :=
 ⟨h.mod.setCell (fun hlt => absurd hlt (by simp)) u, row_setCell h.box j u, (heap_setCell_other _ _ _ _ (by simp)).trans h.ret⟩
structure Made (w : World) (t : TypeId) (v : Value) (n : Nat) (xs : List Value) (wx : World) : Prop where
 seg : Seg wx t 4 v n xs
 own : ∀ b, v.ownBlock = some b → w.heap.size + 2 ≤ b
theorem Made.more {w wx wy : World} {t : TypeId} {v : Value} {n : Nat} {xs : List Value} {S : Nat → Prop} (h : Made w t v n xs wx) (m : Mod S wx wy) (hs : ∀ b, w.heap.size + 2 ≤ b → ¬ S b) : Made w t v n xs wy :=
 ⟨h.seg.mod m (fun b hb => hs b (h.own b hb)), h.own⟩
set_option maxRecDepth 100000 in
set_option maxHeartbeats 1000000 in
theorem twinV_any (x : Vtx) (vp vh : Value) (w : World) (hx : VRd w vp vh x) (h1 : x.props.length * 40 ≤ 140737488355328) (h2 : x.halves.length * 40 ≤ 140737488355328) :
   Calls Tryz.prog 49 #[vtxV x vp vh] w (Twins w x) := by
 obtain ⟨id, there, ps, hs⟩ := x
 have HF := Lib.hid hx.fits
 have HP := Lib.hid hx.props
 have HH := Lib.hid hx.halves
 obtain ⟨ap, cp, rfl, -⟩ := hx.props.shape
 obtain ⟨ah, ch, rfl, -⟩ := hx.halves.shape
 simp only at h1 h2 HP HH
 show Calls _ _ #[.agg #[.int .u32 (id : Int), .bool there, .slice ap ps.length cp, .slice ah hs.length ch]] w _
 clear hx
 obtain ⟨np, hnp⟩ : ∃ np, np = ps.length := ⟨_, rfl⟩
 obtain ⟨nh, hnh⟩ : ∃ nh, nh = hs.length := ⟨_, rfl⟩
 have HNP := Lib.hid hnp
 have HNH := Lib.hid hnh
 rw [← hnp] at h1 HP ⊢
 rw [← hnh] at h2 HH ⊢
 clear hnp hnh
 obtain ⟨i0, hi, hz0, hz1, hz2⟩ := info_parts infoProp
 have HI : Hid (Tryz.prog.info? 145 = some i0 ∧ i0.zero = some (.agg #[.int .u8 0, .int .u8 0, .int .i64 0, zval]) ∧ i0.size = 4 ∧ i0.bytes = 40) := ⟨hi, hz0, hz1, hz2⟩
 obtain ⟨j0, hj, hy0, hy1, hy2⟩ := info_parts infoHalf
 have HJ : Hid (Tryz.prog.info? 112 = some j0 ∧ j0.zero = some (.agg #[.int .u32 0, .int .u8 0, .int .i64 0, zval]) ∧ j0.size = 4 ∧ j0.bytes = 40) := ⟨hj, hy0, hy1, hy2⟩
 clear hi hz0 hz1 hz2 hj hy0 hy1 hy2
 go_enter Tryz.func49, Tryz.ntmps49
 go_upto_region 1 with fail
 have HT0 := Lib.hid (TwAt.begin w #[.int .u32 (id : Int), .bool there, .slice ap np cp, .slice ah nh ch])
 have HP0 := Lib.hid ((HP.out.keep (((Mod.refl _ w).alloc (.cells #[.int .u32 (id : Int), .bool there, .slice ap np cp, .slice ah nh ch] 104)).alloc (.cells #[.int .u32 0, .bool false, .slice none 0 0, .slice none 0 0] 104))).keep ((Mod.refl _ _).alloc (.cells #[] 145)))
 have HE := Lib.hid (empty4 ((w.alloc (.cells #[.int .u32 (id : Int), .bool there, .slice ap np cp, .slice ah nh ch] 104)).alloc (.cells #[.int .u32 0, .bool false, .slice none 0 0, .slice none 0 0] 104)) 145 (n0 := w.heap.size + 1 + 1) (by simp))
 go_cut [] (fun wx => ∃ vp, TwAt w #[.int .u32 (id : Int), .bool there, vp, .slice ah nh ch] wx ∧ Made w 145 vp np (cellsOf .u8 ps) wx)
 case first =>
   go_wp2_with (at_builtin; refine wpList_append_seg rfl (.tmp 3) (.tmp 5) 101 rfl i0 _ 4 40 Tryz.underlying101 HI.out.1 HI.out.2.1 HI.out.2.2.1 HI.out.2.2.2 rfl (by decide) rfl HE.out _ _ _ rfl (HP0.out.src (cellsOf_ones _ _)) (by unfold maxLen; omega) (by omega) ?_; intro v3 w3 hs3 hg3 ho3; (obtain ⟨hsg, hmd, hown⟩ := fresh_seg (by simp) hs3 hg3 ho3); (obtain ⟨a3, c3, rfl, -⟩ := hsg.shape); have HT3 := Lib.hid (HT0.out.more hmd); have HM3 : Hid (Made w 145 (.slice a3 np c3) np (cellsOf .u8 ps) w3) := ⟨hsg, fun b hb => by have := hown b hb; omega⟩; clear hs3 hg3 ho3 hsg hmd hown; have bx2 := cell_of_row HT3.out.box 2; have fr2 := free_of_row HT3.out.box 2; simp at bx2)
   go_meet
   exact ⟨_, HT3.out.store 2 _, HM3.out.more ((Mod.refl (fun k => k = w.heap.size) _).setCell (fun _ => rfl) _) (by omega)⟩
 case rest =>
   obtain ⟨vp', hta, hma⟩ := hcut
   clear HT0 HP0 HE
   have HT1 := Lib.hid hta
   have HMA := Lib.hid hma
   have HH1 := Lib.hid ((HH.out.keep hta.mod).keep ((Mod.refl _ wc).alloc (.cells #[] 112)))
   have HE1 := Lib.hid (empty4 wc 112 rfl)
   have b3 := cell_of_row hta.box 3
   simp at b3
   have zl := lt_of_block hta.box
   have zl1 : w.heap.size ≠ wc.heap.size := by omega
   have zl2 := lt_of_block hta.ret
   go_upto_region 2 with fail
   go_cut [] (fun wx => ∃ vh', TwAt w #[.int .u32 (id : Int), .bool there, vp', vh'] wx ∧ Made w 145 vp' np (cellsOf .u8 ps) wx ∧ Made w 112 vh' nh (cellsOf .u32 hs) wx)
   case first =>
     clear hta hma
     go_wp2_with (at_builtin; refine wpList_append_seg rfl (.tmp 8) (.tmp 10) 102 rfl j0 _ 4 40 Tryz.underlying102 HJ.out.1 HJ.out.2.1 HJ.out.2.2.1 HJ.out.2.2.2 rfl (by decide) rfl HE1.out _ _ _ rfl (HH1.out.src (cellsOf_ones _ _)) (by unfold maxLen; omega) (by omega) ?_; intro v3 w3 hs3 hg3 ho3; (obtain ⟨hsg, hmd, hown⟩ := fresh_seg rfl hs3 hg3 ho3); (obtain ⟨a3, c3, rfl, -⟩ := hsg.shape); have HT3 := Lib.hid (HT1.out.more hmd); have HMA3 := Lib.hid (HMA.out.more hmd (fun _ _ f => f)); have HM3 : Hid (Made w 112 (.slice a3 nh c3) nh (cellsOf .u32 hs) w3) := ⟨hsg, fun b hb => by have := hown b hb; omega⟩; clear hs3 hg3 ho3 hsg hmd hown; have bx2 := cell_of_row HT3.out.box 3; have fr2 := free_of_row HT3.out.box 3; simp at bx2)
     go_meet
     exact ⟨_, HT3.out.store 3 _, HMA3.out.more ((Mod.refl (fun k => k = w.heap.size) _).setCell (fun _ => rfl) _) (by omega), HM3.out.more ((Mod.refl (fun k => k = w.heap.size) _).setCell (fun _ => rfl) _) (by omega)⟩
   case rest =>
     obtain ⟨vh', hta2, hma2, hmb2⟩ := hcut
     clear hta hma HT1 HMA HH1 HE1 b3 zl zl1 zl2
     have HFIN : Hid (∀ u0 u1 u2 u3 : Value, Mod (fun _ => False) w ((((wc.setCell ⟨w.heap.size + 1, 0, none⟩ u0).setCell ⟨w.heap.size + 1, 1, none⟩ u1).setCell ⟨w.heap.size + 1, 2, none⟩ u2).setCell ⟨w.heap.size + 1, 3, none⟩ u3) ∧ VNew w ((((wc.setCell ⟨w.heap.size + 1, 0, none⟩ u0).setCell ⟨w.heap.size + 1, 1, none⟩ u1).setCell ⟨w.heap.size + 1, 2, none⟩ u2).setCell ⟨w.heap.size + 1, 3, none⟩ u3) vp' vh' ⟨id, there, ps, hs⟩) := Lib.hid (by
       intro u0 u1 u2 u3
       have m4 : Mod (fun k => k = w.heap.size + 1) wc ((((wc.setCell ⟨w.heap.size + 1, 0, none⟩ u0).setCell ⟨w.heap.size + 1, 1, none⟩ u1).setCell ⟨w.heap.size + 1, 2, none⟩ u2).setCell ⟨w.heap.size + 1, 3, none⟩ u3) :=
         ((((Mod.refl (fun k => k = w.heap.size + 1) wc).setCell (fun _ => rfl) u0).setCell (fun _ => rfl) u1).setCell (fun _ => rfl) u2).setCell (fun _ => rfl) u3
       have ha := hma2.more m4 (by omega)
       have hb := hmb2.more m4 (by omega)
       rw [HNP.out] at ha
       rw [HNH.out] at hb
       exact ⟨hta2.mod.trans' m4 (fun i hi e => by omega), HF.out, ha.seg, hb.seg, fun b h => by have := ha.own b h; omega, fun b h => by have := hb.own b h; omega⟩)
     have HT2 := Lib.hid hta2
     have b0 := cell_of_row hta2.box 0
     have b1 := cell_of_row hta2.box 1
     have b2 := cell_of_row hta2.box 2
     have b3 := cell_of_row hta2.box 3
     have r0 := cell_of_row hta2.ret 0
     have r1 := cell_of_row hta2.ret 1
     have r2 := cell_of_row hta2.ret 2
     have r3 := cell_of_row hta2.ret 3
     have f0 := free_of_row hta2.ret 0
     have f1 := free_of_row hta2.ret 1
     have f2 := free_of_row hta2.ret 2
     have f3 := free_of_row hta2.ret 3
     simp at b0 b1 b2 b3 r0 r1 r2 r3
     obtain ⟨a2, c2, rfl, -⟩ := hma2.seg.shape
     obtain ⟨a3, c3, rfl, -⟩ := hmb2.seg.shape
     clear hta2 hma2 hmb2
     go_wp2
     exact bodyPost_ret (v := .agg #[.int .u32 (id : Int), .bool there, .slice a2 np c2, .slice a3 nh c3]) (by simp [results, Tryz.results49, go_sem, r0, r1, r2, r3]) rfl ⟨_, _, rfl, (HFIN.out _ _ _ _).1, (HFIN.out _ _ _ _).2⟩
open Go.RowKit
open Go.RowKit
open Go.RowKit
structure Vs where
 x : Vtx
 vp : Value
 vh : Value
def Vs.v (s : Vs) : Value := vtxV s.x s.vp s.vh
def Vs.cells (s : Vs) : List Value := [.int .u32 (s.x.id : Int), .bool s.x.there, s.vp, s.vh]
def vcells (l : List Vs) : List Value := l.flatMap Vs.cells
theorem vcells_get : ∀ (l : List Vs) (i j : Nat) (x : Vs), l[i]? = some x → j < 4 → (vcells l)[i * 4 + j]? = x.cells[j]?
 | [], i, j, x, h, _ => by simp at h
 | y :: r, 0, j, x, h, hj => by
   simp at h
   subst h
   show (y.cells ++ vcells r)[0 * 4 + j]? = _
   rw [Nat.zero_mul, Nat.zero_add, List.getElem?_append_left (by simpa [Vs.cells] using hj)]
 | y :: r, i + 1, j, x, h, hj => by
   simp at h
   show (y.cells ++ vcells r)[(i + 1) * 4 + j]? = _
   rw [List.getElem?_append_right (by simp [Vs.cells]; omega)]
   have e : (i + 1) * 4 + j - y.cells.length = i * 4 + j := by simp [Vs.cells]; omega
   rw [e]
   exact vcells_get r i j x h hj
structure LRd (w : World) (v : Value) (l : List Vs) : Prop where
 row : RdS w 4 v l.length (vcells l)
 each : ∀ s ∈ l, VRd w s.vp s.vh s.x
theorem LRd.keep {w w' : World} {v : Value} {l : List Vs} (h : LRd w v l) (m : Mod (fun _ => False) w w') : LRd w' v l := ⟨h.row.keep m, fun s hs => (h.each s hs).keep m⟩
theorem LRd.at {w : World} {v : Value} {l : List Vs} (h : LRd w v l) {i : Nat} {x : Vs} (hi : l[i]? = some x) : VRd w x.vp x.vh x.x := h.each x (List.mem_of_getElem? hi)
theorem LRd.ent {w : World} {v : Value} {l : List Vs} (h : LRd w v l) {i : Nat} {x : Vs} (hi : l[i]? = some x) {a : Option Addr} {n c : Nat} (e : v = .slice a n c) :
   ∃ b off, a = some ⟨b, off, none⟩ ∧ b < w.heap.size ∧ w.cell? ⟨b, off + i * 4, none⟩ = some (.int .u32 (x.x.id : Int)) ∧ w.cell? ⟨b, off + i * 4 + 1, none⟩ = some (.bool x.x.there) ∧ w.cell? ⟨b, off + i * 4 + 2, none⟩ = some x.vp ∧ w.cell? ⟨b, off + i * 4 + 3, none⟩ = some x.vh := by
 have g := fun j hj => vcells_get l i j x hi hj
 obtain ⟨a', c', e', -⟩ := h.row.shape
 rw [e] at e'
 injection e' with e1 e2 e3
 rw [e2] at e
 obtain ⟨b, off, ea, hb, h0⟩ := h.row.cell a c e (i * 4 + 0) (.int .u32 (x.x.id : Int)) (by rw [g 0 (by omega)]; rfl)
 obtain ⟨b1, off1, ea1, _, h1⟩ := h.row.cell a c e (i * 4 + 1) (.bool x.x.there) (by rw [g 1 (by omega)]; rfl)
 obtain ⟨b2, off2, ea2, _, h2⟩ := h.row.cell a c e (i * 4 + 2) x.vp (by rw [g 2 (by omega)]; rfl)
 obtain ⟨b3, off3, ea3, _, h3⟩ := h.row.cell a c e (i * 4 + 3) x.vh (by rw [g 3 (by omega)]; rfl)
 rw [ea] at ea1 ea2 ea3
 injection ea1 with e1; injection e1 with e1 e1'
 injection ea2 with e2; injection e2 with e2 e2'
 injection ea3 with e3; injection e3 with e3 e3'
 subst e1 e1' e2 e2' e3 e3'
 exact ⟨b, off, ea, hb, h0, by rw [Nat.add_assoc]; exact h1, by rw [Nat.add_assoc]; exact h2, by rw [Nat.add_assoc]; exact h3⟩
section
variable {w0 W : World} {g bm b5 id n : Nat} {o : Array Value}
end
open Go.RowKit
open Go.RowKit
structure Ls where
 v : Value
 l : List Vs
theorem RdS.one {w : World} {v : Value} {n m : Nat} {xs : List Value} (h : RdS w 1 v n xs) {i : Nat} {x : Value} (hi : xs[i]? = some x) {a : Option Addr} {c : Nat} (e : v = .slice a m c) :
   ∃ b off, a = some ⟨b, off, none⟩ ∧ b < w.heap.size ∧ w.cell? ⟨b, off + i, none⟩ = some x := by
 obtain ⟨a', c', e', -⟩ := h.shape
 rw [e] at e'
 injection e' with e1 e2 e3
 rw [e2] at e
 exact h.cell a c e i x hi
def held (up : List Bool) : Nat → List Ls → List (Nat × Vs)
 | _, [] => []
 | n, s :: r => (if up[n]? = some true then s.l.map (fun x => (n, x)) else []) ++ held up (n + 1) r
def heldTo (up : List Bool) (ls : List Ls) (n : Nat) : List (Nat × Vs) := held up 0 (ls.take n)
open Go.RowKit
deriving instance DecidableEq for Val
open Go.RowKit
def part (up : List Bool) (ls : List Ls) (k : Nat) (xl : List Vs) (j : Nat) : List (Nat × Vs) := heldTo up ls k ++ (xl.take j).map (fun x => (k, x))
open Go.RowKit
open Go.RowKit
open Go.RowKit
def farE (f : Nat) : Ent := ⟨f, ⟨0, 0, ⟨#[]⟩⟩⟩
theorem src_cells {w : World} {n0 size : Nat} (hn : w.heap.size = n0) (t : TypeId) (cs : Array Value) (hs : cs.size = size) (h1 : ∀ u ∈ cs.toList, u.oneCell' = true) : Src (w.alloc (.cells cs t)) size (.slice (some ⟨n0, 0, none⟩) 1 1) 1 cs.toList := by
 subst hn
 exact Src.one (size := size) w cs t 1 1 (by omega) h1
theorem cellsOf_snoc (k : IntKind) (l : List Ent) (x : Ent) : cellsOf k (l ++ [x]) = cellsOf k l ++ x.cells k := by simp [cellsOf]
open Go.RowKit
open Go.RowKit
def VOff (S : Nat → Prop) (s : Vs) : Prop := (∀ b, s.vp.ownBlock = some b → ¬ S b) ∧ (∀ b, s.vh.ownBlock = some b → ¬ S b)
def LOff (S : Nat → Prop) (v : Value) (l : List Vs) : Prop := (∀ b, v.ownBlock = some b → ¬ S b) ∧ ∀ s ∈ l, VOff S s
theorem VOff.mono {S T : Nat → Prop} {s : Vs} (h : VOff S s) (i : ∀ k, T k → S k) : VOff T s := ⟨fun b hb t => h.1 b hb (i b t), fun b hb t => h.2 b hb (i b t)⟩
theorem LOff.mono {S T : Nat → Prop} {v : Value} {l : List Vs} (h : LOff S v l) (i : ∀ k, T k → S k) : LOff T v l := ⟨fun b hb t => h.1 b hb (i b t), fun s hs => (h.2 s hs).mono i⟩
structure VOwn (w : World) (s : Vs) : Prop where
 fits : s.x.Fits
 props : Seg w 145 4 s.vp s.x.props.length (cellsOf .u8 s.x.props)
 halves : Seg w 112 4 s.vh s.x.halves.length (cellsOf .u32 s.x.halves)
theorem VOwn.rd {w : World} {s : Vs} (h : VOwn w s) : VRd w s.vp s.vh s.x := ⟨h.fits, h.props.rdS, h.halves.rdS⟩
theorem VOwn.mod {S : Nat → Prop} {w w' : World} {s : Vs} (h : VOwn w s) (m : Mod S w w') (o : VOff S s) : VOwn w' s := ⟨h.fits, h.props.mod m o.1, h.halves.mod m o.2⟩
theorem VOwn.lt {w : World} {s : Vs} (h : VOwn w s) : VOff (fun k => w.heap.size ≤ k) s := ⟨fun b hb t => by have := h.props.lt b hb; omega, fun b hb t => by have := h.halves.lt b hb; omega⟩
theorem VNew.vown {w0 w : World} {vp vh : Value} {x : Vtx} (h : VNew w0 w vp vh x) : VOwn w ⟨x, vp, vh⟩ := ⟨h.fits, h.props, h.halves⟩
structure LOwn (w : World) (v : Value) (l : List Vs) : Prop where
 row : Seg w 104 4 v l.length (vcells l)
 each : ∀ s ∈ l, VOwn w s
 apart : ∀ s ∈ l, VOff (fun k => v.ownBlock = some k) s
theorem LOwn.rd {w : World} {v : Value} {l : List Vs} (h : LOwn w v l) : LRd w v l := ⟨h.row.rdS, fun s hs => (h.each s hs).rd⟩
theorem LOwn.mod {S : Nat → Prop} {w w' : World} {v : Value} {l : List Vs} (h : LOwn w v l) (m : Mod S w w') (o : LOff S v l) : LOwn w' v l := ⟨h.row.mod m o.1, fun s hs => (h.each s hs).mod m (o.2 s hs), h.apart⟩
theorem LOwn.lt {w : World} {v : Value} {l : List Vs} (h : LOwn w v l) : LOff (fun k => w.heap.size ≤ k) v l := ⟨fun b hb t => by have := h.row.lt b hb; omega, fun s hs => (h.each s hs).lt⟩
theorem LOwn.nil (w : World) : LOwn w (.slice none 0 0) [] := ⟨Seg.nil _ _ _, by simp, by simp⟩
theorem off_false_l {v : Value} {l : List Vs} : LOff (fun _ => False) v l := ⟨fun _ _ f => f, fun _ _ => ⟨fun _ _ f => f, fun _ _ f => f⟩⟩
theorem vcells_snoc (l : List Vs) (s : Vs) : vcells (l ++ [s]) = vcells l ++ s.cells := by simp [vcells]
theorem mod_grown {w w' : World} {v : Value} (g : w.grownBy w' v.ownBlock) : Mod (fun k => v.ownBlock = some k) w w' := ⟨g.os, g.tape, g.output, g.size, fun k hk hne => g.block k hk (fun e => hne e.symm)⟩
theorem infoVtx : (Tryz.prog.info? 104).map (fun i => (i.zero, i.size, i.bytes)) = some (some (.agg #[.int .u32 0, .bool false, .slice none 0 0, .slice none 0 0]), 4, 56) := by kernel_rfl
def Slim (x : Vtx) : Prop := x.props.length * 40 ≤ 140737488355328 ∧ x.halves.length * 40 ≤ 140737488355328
open Go.RowKit
theorem take_map_succ {α β : Type} (f : α → β) {l : List α} {k : Nat} {x : α} (h : l[k]? = some x) : (l.take (k + 1)).map f = (l.take k).map f ++ [f x] := by
 obtain ⟨h1, h2⟩ := List.getElem?_eq_some_iff.1 h
 rw [List.take_succ_eq_append_getElem h1, h2]; simp
open Go.RowKit
def va : Vtx := ⟨1, true, [], [farE 2]⟩
def vb : Vtx := ⟨2, true, [], []⟩
theorem rd_lit (w : World) (t : TypeId) (cs : Array Value) (n size n0 : Nat) (h0 : w.heap.size = n0) (hs : cs.size = n * size) (hn : n ≤ maxLen) (h1 : ∀ u ∈ cs.toList, u.oneCell' = true) : RdS (w.alloc (.cells cs t)) size (.slice (some ⟨n0, 0, none⟩) n n) n cs.toList := by
 subst h0
 exact (Seg.lit (e := t) (size := size) w cs n hs hn h1).rdS
end Go.Proofs.YtpigipgoopeeoaaGreatDoor
