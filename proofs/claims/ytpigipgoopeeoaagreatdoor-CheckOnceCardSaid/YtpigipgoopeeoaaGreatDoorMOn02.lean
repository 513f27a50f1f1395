import Derived.Test.YtpigipgoopeeoaaGreatDoorRows
import Derived.Test.YtpigipgoopeeoaaGreatDoorMOn00
import Derived.WalkSpells
import Derived.LoopTactic
import Derived.BigGuard
import Derived.BigCall
import Derived.CellFam
import Derived.Deep.Draws
set_option linter.unusedVariables false
set_option linter.unusedSimpArgs false
namespace Go.Proofs.YtpigipgoopeeoaaGreatDoor
def swp (d : Nat → Nat) (i j : Nat) : Nat → Nat := fun k => if k = i then d j else if k = j then d i else d k
inductive Sw (a b : Nat) (d : Nat → Nat) : (Nat → Nat) → Prop
 | refl : Sw a b d d
 | step {d' : Nat → Nat} {i j : Nat} : Sw a b d d' → a ≤ i → i < b → a ≤ j → j < b → Sw a b d (swp d' i j)
variable {a b a' b' n : Nat} {d e f : Nat → Nat}
theorem Sw.trans (h : Sw a b d e) (k : Sw a b e f) : Sw a b d f := by
 induction k with
 | refl => exact h
 | step _ h1 h2 h3 h4 ih => exact .step ih h1 h2 h3 h4
theorem Sw.mono (h : Sw a b d e) (ha : a' ≤ a) (hb : b ≤ b') : Sw a' b' d e := by
 induction h with
 | refl => exact .refl
 | step _ h1 h2 h3 h4 ih => exact .step ih (by omega) (by omega) (by omega) (by omega)
theorem Sw.one {i j : Nat} (h1 : a ≤ i) (h2 : i < b) (h3 : a ≤ j) (h4 : j < b) : Sw a b d (swp d i j) := .step .refl h1 h2 h3 h4
theorem Sw.out (h : Sw a b d e) {k : Nat} (hk : k < a ∨ b ≤ k) : e k = d k := by
 induction h with
 | refl => rfl
 | step _ h1 h2 h3 h4 ih => unfold swp; rw [if_neg (by omega), if_neg (by omega)]; exact ih
theorem Sw.all (h : Sw a b d e) {p : Nat → Prop} (hp : ∀ k, a ≤ k → k < b → p (d k)) : ∀ k, a ≤ k → k < b → p (e k) := by
 induction h with
 | refl => exact hp
 | step _ h1 h2 h3 h4 ih =>
   intro k hk1 hk2
   unfold swp
   split
   · exact ih _ h3 h4
   · split
     · exact ih _ h1 h2
     · exact ih _ hk1 hk2
theorem swp_perm (d : Nat → Nat) {i j : Nat} (hi : i < n) (hj : j < n) : ((List.range n).map (swp d i j)).Perm ((List.range n).map d) := by
 have e : (List.range n).map (swp d i j) = (((List.range n).map d).set i (((List.range n).map d)[j]'(by simpa using hj))).set j (((List.range n).map d)[i]'(by simpa using hi)) := by
   apply List.ext_getElem
   · simp
   · intro k h1 h2
     simp only [List.getElem_map, List.getElem_range, List.getElem_set, swp]
     by_cases e1 : k = i
     · subst e1
       by_cases e2 : j = k
       · subst e2; simp
       · simp [e2]
     · by_cases e2 : k = j
       · subst e2; simp [e1]
       · rw [if_neg e1, if_neg e2, if_neg (by omega), if_neg (by omega)]
 rw [e]
 exact List.set_set_perm (by simpa using hi) (by simpa using hj)
theorem Sw.perm (h : Sw a b d e) (hb : b ≤ n) : ((List.range n).map e).Perm ((List.range n).map d) := by
 induction h with
 | refl => exact List.Perm.refl _
 | step _ h1 h2 h3 h4 ih => exact (swp_perm _ (by omega) (by omega)).trans ih
def Srt (a b : Nat) (d : Nat → Nat) : Prop := ∀ i j, a ≤ i → i ≤ j → j < b → d i ≤ d j
theorem Srt.short (h : b ≤ a + 1) : Srt a b d := fun i j h1 h2 h3 => by
 have : i = j := by omega
 subst this; exact Nat.le_refl _
theorem Srt.join {m : Nat} (h1 : Srt a m d) (h2 : Srt m b d) (h3 : ∀ i j, a ≤ i → i < m → m ≤ j → j < b → d i ≤ d j) : Srt a b d := by
 intro i j hi hij hj
 rcases Nat.lt_or_ge j m with h | h
 · exact h1 i j hi hij h
 · rcases Nat.lt_or_ge i m with h' | h'
   · exact h3 i j hi h' h hj
   · exact h2 i j h' hij hj
theorem Srt.keep (h : Srt a b d) (he : ∀ k, a ≤ k → k < b → e k = d k) : Srt a b e := fun i j h1 h2 h3 => by
 rw [he i h1 (by omega), he j (by omega) h3]; exact h i j h1 h2 h3
def Ins (a j i : Nat) (d : Nat → Nat) : Prop := (∀ p q, a ≤ p → p ≤ q → q ≤ i → p ≠ j → q ≠ j → d p ≤ d q) ∧ ∀ q, j < q → q ≤ i → d j ≤ d q
theorem Ins.start {i : Nat} (h : Srt a i d) : Ins a i i d := ⟨fun p q h1 h2 h3 h4 h5 => h p q h1 h2 (by omega), fun q h1 h2 => by omega⟩
theorem Ins.go {j i : Nat} (h : Ins a j i d) (hj : a < j) (hi : j ≤ i) (hl : d j < d (j - 1)) : Ins a (j - 1) i (swp d j (j - 1)) := by
 refine ⟨fun p q h1 h2 h3 h4 h5 => ?_, fun q h1 h2 => ?_⟩
 · unfold swp
   rw [if_neg h4, if_neg h5]
   by_cases ep : p = j
   · subst ep
     rw [if_pos rfl]
     by_cases eq : q = p
     · subst eq; rw [if_pos rfl]; exact Nat.le_refl _
     · rw [if_neg eq]; exact h.1 _ _ (by omega) (by omega) h3 (by omega) eq
   · rw [if_neg ep]
     by_cases eq : q = j
     · subst eq
       rw [if_pos rfl]
       exact h.1 _ _ h1 (by omega) (by omega) ep (by omega)
     · rw [if_neg eq]; exact h.1 _ _ h1 h2 h3 ep eq
 · unfold swp
   rw [if_neg (by omega : j - 1 ≠ j), if_pos rfl]
   by_cases eq : q = j
   · subst eq; rw [if_pos rfl]; omega
   · rw [if_neg eq, if_neg (by omega)]; exact h.2 q (by omega) h2
theorem Ins.done {j i : Nat} (h : Ins a j i d) (hs : j ≤ a ∨ d (j - 1) ≤ d j) (ha : a ≤ j) (hi : j ≤ i) : Srt a (i + 1) d := by
 intro p q h1 h2 h3
 by_cases ep : p = j
 · subst ep
   by_cases eq : q = p
   · subst eq; exact Nat.le_refl _
   · exact h.2 q (by omega) (by omega)
 · by_cases eq : q = j
   · subst eq
     rcases hs with hs | hs
     · omega
     · by_cases e1 : p = q - 1
       · subst e1; exact hs
       · exact Nat.le_trans (h.1 p (q - 1) h1 (by omega) (by omega) ep (by omega)) hs
   · exact h.1 p q h1 h2 (by omega) ep eq
def Hp (first hi lo : Nat) (d : Nat → Nat) : Prop := ∀ k, lo ≤ k → (2 * k + 1 < hi → d (first + (2 * k + 1)) ≤ d (first + k)) ∧ (2 * k + 2 < hi → d (first + (2 * k + 2)) ≤ d (first + k))
def Sift (first hi lo r : Nat) (d : Nat → Nat) : Prop :=
 lo ≤ r ∧ (∀ k, lo ≤ k → k ≠ r → (2 * k + 1 < hi → d (first + (2 * k + 1)) ≤ d (first + k)) ∧ (2 * k + 2 < hi → d (first + (2 * k + 2)) ≤ d (first + k))) ∧
 ∀ p, lo ≤ p → (2 * p + 1 = r ∨ 2 * p + 2 = r) → (2 * r + 1 < hi → d (first + (2 * r + 1)) ≤ d (first + p)) ∧ (2 * r + 2 < hi → d (first + (2 * r + 2)) ≤ d (first + p))
theorem Sift.start {first hi lo : Nat} (h : Hp first hi (lo + 1) d) : Sift first hi lo lo d :=
 ⟨Nat.le_refl _, fun k h1 h2 => h k (by omega), fun p h1 h2 => by omega⟩
theorem Sift.done {first hi lo r : Nat} (h : Sift first hi lo r d) (h1 : 2 * r + 1 < hi → d (first + (2 * r + 1)) ≤ d (first + r)) (h2 : 2 * r + 2 < hi → d (first + (2 * r + 2)) ≤ d (first + r)) : Hp first hi lo d := by
 intro k hk
 by_cases e : k = r
 · subst e; exact ⟨h1, h2⟩
 · exact h.2.1 k hk e
theorem swp_other (d : Nat → Nat) {i j k : Nat} (h1 : k ≠ i) (h2 : k ≠ j) : swp d i j k = d k := by unfold swp; rw [if_neg h1, if_neg h2]
theorem swp_left (d : Nat → Nat) (i j : Nat) : swp d i j i = d j := by unfold swp; rw [if_pos rfl]
theorem swp_right (d : Nat → Nat) (i j : Nat) : swp d i j j = d i := by
 unfold swp
 split
 · rename_i h; rw [h]
 · rw [if_pos rfl]
theorem Sift.go {first hi lo r c : Nat} (h : Sift first hi lo r d) (hc : c = 2 * r + 1 ∨ c = 2 * r + 2) (hch : c < hi) (hl : d (first + r) < d (first + c))
   (hm : (2 * r + 1 < hi → d (first + (2 * r + 1)) ≤ d (first + c)) ∧ (2 * r + 2 < hi → d (first + (2 * r + 2)) ≤ d (first + c))) : Sift first hi lo c (swp d (first + r) (first + c)) := by
 obtain ⟨h0, h1, h2⟩ := h
 refine ⟨by omega, fun k hk hkc => ?_, fun p hp hpc => ?_⟩
 · by_cases e : k = r
   · subst e
     rw [swp_left]
     constructor
     · intro hlt
       by_cases e1 : c = 2 * k + 1
       · rw [← e1, swp_right]; omega
       · rw [swp_other _ (by omega) (by omega)]; exact hm.1 hlt
     · intro hlt
       by_cases e1 : c = 2 * k + 2
       · rw [← e1, swp_right]; omega
       · rw [swp_other _ (by omega) (by omega)]; exact hm.2 hlt
   · rw [swp_other d (i := first + r) (j := first + c) (k := first + k) (by omega) (by omega)]
     constructor
     · intro hlt
       by_cases e1 : 2 * k + 1 = r
       · rw [e1, swp_left]
         have := h2 k hk (.inl e1)
         rcases hc with rfl | rfl
         · exact this.1 hch
         · exact this.2 hch
       · rw [swp_other _ (by omega) (by omega)]; exact (h1 k hk e).1 hlt
     · intro hlt
       by_cases e1 : 2 * k + 2 = r
       · rw [e1, swp_left]
         have := h2 k hk (.inr e1)
         rcases hc with rfl | rfl
         · exact this.1 hch
         · exact this.2 hch
       · rw [swp_other _ (by omega) (by omega)]; exact (h1 k hk e).2 hlt
 · obtain rfl : p = r := by omega
   rw [swp_left]
   constructor
   · intro hlt; rw [swp_other _ (by omega) (by omega)]; exact (h1 c (by omega) (by omega)).1 hlt
   · intro hlt; rw [swp_other _ (by omega) (by omega)]; exact (h1 c (by omega) (by omega)).2 hlt
theorem Hp.top {first hi : Nat} (h : Hp first hi 0 d) : ∀ k, k < hi → d (first + k) ≤ d first := by
 intro k
 induction k using Nat.strongRecOn with
 | _ k ih =>
   intro hk
   rcases Nat.eq_zero_or_pos k with rfl | hk0
   · exact Nat.le_refl _
   · have hp := h ((k - 1) / 2) (by omega)
     refine Nat.le_trans ?_ (ih ((k - 1) / 2) (by omega) (by omega))
     rcases Nat.mod_two_eq_zero_or_one (k - 1) with e | e
     · have : 2 * ((k - 1) / 2) + 1 = k := by omega
       have h' := hp.1 (by omega)
       rwa [this] at h'
     · have : 2 * ((k - 1) / 2) + 2 = k := by omega
       have h' := hp.2 (by omega)
       rwa [this] at h'
theorem Hp.end {first hi : Nat} (h : hi ≤ 1) : Hp first hi 0 d := fun k _ => ⟨by omega, by omega⟩
theorem Hp.leaves {first hi lo : Nat} (h : hi ≤ 2 * lo + 1) : Hp first hi lo d := fun k _ => ⟨by omega, by omega⟩
open Go.RowKit
def ltN (x y : Nat) : Bool := decide (x < y)
theorem ltN_t {x y : Nat} (h : ltN x y = true) : x < y := by simpa [ltN] using h
theorem ltN_f {x y : Nat} (h : ltN x y = false) : y ≤ x := by simpa [ltN] using h
theorem nan_any (x : Nat) (w : World) : Calls Tryz.prog 134 #[.int .u32 x] w fun e w' => e = .returned (.bool false) ∧ w' = w := by
 go_enter Tryz.func134, Tryz.ntmps134
 go_wp2
 go_ret
 exact ⟨by simp, rfl⟩
theorem less_any (x y : Nat) (w : World) : Calls Tryz.prog 111 #[.int .u32 x, .int .u32 y] w fun e w' => e = .returned (.bool (ltN x y)) ∧ w' = w := by
 go_enter Tryz.func111, Tryz.ntmps111
 go_wp2_with (go_at_call 134; refine (nan_any _ _).mono ?_; rintro e w' ⟨rfl, rfl⟩)
 go_ret
 exact ⟨by simp [ltN], rfl⟩
structure DAt (w0 w : World) (g off n : Nat) (d : Nat → Nat) : Prop where
 mod : Mod (fun k => k = g) w0 w
 lt : g < w0.heap.size
 cell : ∀ k, k < n → w.cell? ⟨g, off + k, none⟩ = some (.int .u32 (d k))
 free : ∀ k, k < n → w.frozen? ⟨g, off + k, none⟩ = false
 shape : ∀ cur e, w0.heap[g]? = some (.cells cur e (0, 0)) → ∃ cur', w.heap[g]? = some (.cells cur' e (0, 0)) ∧ cur'.size = cur.size
variable {w0 w : World} {g off n : Nat} {d e : Nat → Nat}
theorem DAt.glt (h : DAt w0 w g off n d) : g < w.heap.size := Nat.lt_of_lt_of_le h.lt h.mod.size
theorem DAt.drewN (h : DAt w0 w g off n d) (q : Nat) : DAt w0 (w.drewN q) g off n d := ⟨⟨h.mod.os, h.mod.tape, h.mod.output, h.mod.size, h.mod.block⟩, h.lt, h.cell, h.free, h.shape⟩
theorem DAt.drew (h : DAt w0 w g off n d) : DAt w0 w.drew g off n d := ⟨h.mod.drew, h.lt, h.cell, h.free, h.shape⟩
theorem DAt.moved {w' : World} (h : DAt w0 w g off n d) (m : Mod (fun _ => False) w w') : DAt w0 w' g off n d := by
 have hb := m.block g h.glt (fun f => f)
 refine ⟨h.mod.trans (m.mono (fun _ _ f => f.elim)), h.lt, fun k hk => ?_, fun k hk => ?_, fun cur e hc => ?_⟩
 · rw [← h.cell k hk]; simp [World.cell?, hb]
 · rw [← h.free k hk]; simp [World.frozen?, hb]
 · rw [hb]; exact h.shape cur e hc
theorem DAt.set (h : DAt w0 w g off n d) {i : Nat} (x : Nat) : DAt w0 (w.setCell ⟨g, off + i, none⟩ (.int .u32 x)) g off n (fun k => if k = i then x else d k) := by
 refine ⟨h.mod.setCell (fun _ => rfl) _, h.lt, fun k hk => ?_, fun k hk => ?_, fun cur e hc => ?_⟩
 · by_cases ek : k = i
   · subst ek
     rw [if_pos rfl]
     exact World.cell?_setCell_same _ _ _ (h.cell k hk)
   · rw [if_neg ek, World.cell?_setCell_other _ _ _ _ (by intro e; injection e with e1 e2; omega)]
     exact h.cell k hk
 · rw [World.frozen?_setCell]; exact h.free k hk
 · obtain ⟨cur', h1, h2⟩ := h.shape cur e hc
   exact ⟨_, row_setCell h1 _ _, by simp [h2]⟩
theorem DAt.congr {d' : Nat → Nat} (h : DAt w0 w g off n d) (e : ∀ k, d' k = d k) : DAt w0 w g off n d' := by
 have : d' = d := funext e
 rw [this]; exact h
theorem DAt.swap (h : DAt w0 w g off n d) (i j : Nat) : DAt w0 ((w.setCell ⟨g, off + i, none⟩ (.int .u32 (d j))).setCell ⟨g, off + j, none⟩ (.int .u32 (d i))) g off n (swp d i j) :=
 ((h.set (i := i) (d j)).set (i := j) (d i)).congr fun k => by
   unfold swp
   by_cases e1 : k = i
   · subst e1
     by_cases e2 : k = j
     · subst e2; simp
     · simp [e2]
   · by_cases e2 : k = j
     · subst e2; simp [e1]
     · simp [e1, e2]
open Go.RowKit
theorem Srt.less {a b b' : Nat} {d : Nat → Nat} (h : Srt a b d) (hb : b' ≤ b) : Srt a b' d := fun i j h1 h2 h3 => h i j h1 h2 (by omega)
set_option maxRecDepth 100000 in
set_option maxHeartbeats 6400000 in
theorem insertion_any (g off cap n a b : Nat) (d : Nat → Nat) (w0 w : World) (hD : DAt w0 w g off n d) (hab : a ≤ b) (hb : b ≤ n) (hn : n < 999999) :
   Calls Tryz.prog 105 #[.slice (some ⟨g, off, none⟩) n cap, .int .i64 a, .int .i64 b] w fun e w' =>
     e = .returned (.tuple #[]) ∧ ∃ d', DAt w0 w' g off n d' ∧ Sw a b d d' ∧ Srt a b d' := by
 have HD := Lib.hid hD
 clear hD
 go_enter Tryz.func105, Tryz.ntmps105
 go_wp2
 go_loopw [6] (fun vi wr => ∃ (i : Nat) (dk : Nat → Nat), vi = .int .i64 i ∧ a < i ∧ i ≤ b + 1 ∧ Hid (DAt w0 wr g off n dk) ∧ Hid (Sw a b d dk) ∧ Hid (Srt a i dk)) (fun vi _ => b + 1 - (intOf vi).toNat)
 case atStart => exact ⟨a + 1, d, by go_num, by omega, by omega, HD.out, Sw.refl, Srt.short (Nat.le_refl _)⟩
 case round =>
   obtain ⟨i, dk, rfl, hai, hib, HDk, HSk, HOk⟩ := hrel
   go_wp2
   · have hlt : i < b := by assumption
     go_loopw [7] (fun vj wr2 => ∃ (j : Nat) (dj : Nat → Nat), vj = .int .i64 j ∧ a ≤ j ∧ j ≤ i ∧ Hid (DAt w0 wr2 g off n dj) ∧ Hid (Sw a b d dj) ∧ Hid (Ins a j i dj)) (fun vj _ => (intOf vj).toNat)
     case atStart => exact ⟨i, dk, rfl, by omega, Nat.le_refl _, HDk.out, HSk.out, Ins.start HOk.out⟩
     case round =>
       obtain ⟨j, dj, rfl, haj, hji, HDj, HSj, HIj⟩ := hrel
       have hcw : ∀ t, t < n → wr.cell? ⟨g, off + t, none⟩ = some (.int .u32 (dj t)) := HDj.out.cell
       have hfw : ∀ t, t < n → wr.frozen? ⟨g, off + t, none⟩ = false := HDj.out.free
       have out : (j ≤ a ∨ dj (j - 1) ≤ dj j) → ∀ q, ∃ (i' : Nat) (dk' : Nat → Nat), Value.int .i64 ((i : Int) + 1) = .int .i64 (i' : Nat) ∧ a < i' ∧ i' ≤ b + 1 ∧ Hid (DAt w0 (wr.drewN q) g off n dk') ∧ Hid (Sw a b d dk') ∧ Hid (Srt a i' dk') := fun hs q =>
         ⟨i + 1, dj, by go_num, by omega, by omega, HDj.out.drewN q, HSj.out, HIj.out.done hs haj hji⟩
       have OUT : Hid _ := out
       clear out
       go_wp2
       by_cases hja : a < j
       · go_quiet (first | (go_at_call 111; refine Calls.quiet_of_same (less_any _ _ _)))
         go_wp2
         · have hl : ltN (dj j) (dj (j - 1)) = true := by assumption
           go_region
           all_goals go_wp2
           go_roundw
           case rel => exact ⟨j - 1, swp dj j (j - 1), by congr 1; omega, by omega, by omega, (HDj.out.drewN _).swap j (j - 1), .step HSj.out (by omega) (by omega) (by omega) (by omega), HIj.out.go hja hji (ltN_t hl)⟩
           case measure => simp [intOf]; omega
         · have hl : ltN (dj j) (dj (j - 1)) = false := by assumption
           go_roundw
           case rel => exact OUT.out (.inr (ltN_f hl)) nq
           case measure => simp [intOf]; omega
       · go_quiet (first | (go_at_call 111; refine Calls.quiet_of_same (less_any _ _ _)))
         go_wp2
         go_roundw
         case rel => exact OUT.out (.inl (by omega)) nq
         case measure => simp [intOf]; omega
   · have hge : ¬ i < b := by assumption
     go_end0
     exact ⟨rfl, dk, HDk.out, HSk.out, HOk.out.less (by omega)⟩
set_option maxRecDepth 100000 in
set_option maxHeartbeats 6400000 in
theorem reverse_any (g off cap n a b : Nat) (d : Nat → Nat) (w0 w : World) (hD : DAt w0 w g off n d) (hab : a < b) (hb : b ≤ n) (hn : n < 999999) :
   Calls Tryz.prog 109 #[.slice (some ⟨g, off, none⟩) n cap, .int .i64 a, .int .i64 b] w fun e w' =>
     e = .returned (.tuple #[]) ∧ ∃ d', DAt w0 w' g off n d' ∧ Sw a b d d' := by
 have HD := Lib.hid hD
 clear hD
 go_enter Tryz.func109, Tryz.ntmps109
 go_wp2
 go_loopw [6, 7] (fun vi vj wr => ∃ (i j : Nat) (dk : Nat → Nat), vi = .int .i64 i ∧ vj = .int .i64 j ∧ a ≤ i ∧ i ≤ j + 1 ∧ j < b ∧ Hid (DAt w0 wr g off n dk) ∧ Hid (Sw a b d dk)) (fun vi vj _ => (intOf vj).toNat + 1 - (intOf vi).toNat)
 case atStart => exact ⟨a, b - 1, d, rfl, by go_num, by omega, by omega, by omega, HD.out, Sw.refl⟩
 case round =>
   obtain ⟨i, j, dk, rfl, rfl, hai, hij, hjb, HDk, HSk⟩ := hrel
   have hcw : ∀ t, t < n → wr.cell? ⟨g, off + t, none⟩ = some (.int .u32 (dk t)) := HDk.out.cell
   have hfw : ∀ t, t < n → wr.frozen? ⟨g, off + t, none⟩ = false := HDk.out.free
   go_wp2
   · have hlt : i < j := by assumption
     go_region
     all_goals go_wp2
     go_roundw
     case rel => exact ⟨i + 1, j - 1, swp dk i j, by go_num, by congr 1; omega, by omega, by omega, by omega, (HDk.out.drew).swap i j, .step HSk.out (by omega) (by omega) (by omega) (by omega)⟩
     case measure => simp [intOf]; omega
   · go_end0
     exact ⟨rfl, dk, HDk.out, HSk.out⟩
open Go.RowKit
set_option maxRecDepth 100000 in
set_option maxHeartbeats 12800000 in
theorem sift_any (g off cap n lo hi first : Nat) (d : Nat → Nat) (w0 w : World) (hD : DAt w0 w g off n d) (hlo : lo < 999999) (hb : first + hi ≤ n) (hn : n < 999999) (hH : Hp first hi (lo + 1) d) :
   Calls Tryz.prog 129 #[.slice (some ⟨g, off, none⟩) n cap, .int .i64 lo, .int .i64 hi, .int .i64 first] w fun e w' =>
     e = .returned (.tuple #[]) ∧ ∃ d', DAt w0 w' g off n d' ∧ Sw first (first + hi) d d' ∧ Hp first hi lo d' := by
 have HD := Lib.hid hD
 have HH := Lib.hid hH
 clear hD hH
 go_enter Tryz.func129, Tryz.ntmps129
 go_wp2
 go_loopw [8] (fun vr wr => ∃ (r : Nat) (dk : Nat → Nat), vr = .int .i64 r ∧ r < 999999 ∧ Hid (DAt w0 wr g off n dk) ∧ Hid (Sw first (first + hi) d dk) ∧ Hid (Sift first hi lo r dk)) (fun vr _ => 999999 - (intOf vr).toNat)
 case atStart => exact ⟨lo, d, rfl, hlo, HD.out, Sw.refl, Sift.start HH.out⟩
 case round =>
   obtain ⟨r, dk, rfl, hr, HDk, HSk, HFk⟩ := hrel
   by_cases hc : 2 * r + 1 < hi
   · go_wp2_with fail
     obtain ⟨c, hcd⟩ : ∃ c, c = 2 * r + 1 := ⟨_, rfl⟩
     have hrc : r < c := by omega
     rw [show (2 : Int) * (r : Int) + 1 = (c : Int) by omega]
     have HC : Hid (c = 2 * r + 1) := hcd
     have hc1 : c < hi := by omega
     have hcm : c < 999999 := by omega
     clear hcd hc
     have hcw : ∀ t, t < n → wr.cell? ⟨g, off + t, none⟩ = some (.int .u32 (dk t)) := HDk.out.cell
     have hfw : ∀ t, t < n → wr.frozen? ⟨g, off + t, none⟩ = false := HDk.out.free
     have END : Hid (∀ x, (x = c ∨ x = c + 1) → x < hi → (c < hi → dk (first + c) ≤ dk (first + x)) → (c + 1 < hi → dk (first + (c + 1)) ≤ dk (first + x)) → dk (first + x) ≤ dk (first + r) → Hp first hi lo dk) := fun x hx hxi h1 h2 h3 => by
       have hcd := HC.out
       subst hcd
       exact HFk.out.done (fun h => Nat.le_trans (h1 h) h3) (fun h => Nat.le_trans (h2 h) h3)
     have GO : Hid (∀ x, (x = c ∨ x = c + 1) → x < hi → (c < hi → dk (first + c) ≤ dk (first + x)) → (c + 1 < hi → dk (first + (c + 1)) ≤ dk (first + x)) → dk (first + r) < dk (first + x) → Sift first hi lo x (swp dk (first + r) (first + x))) := fun x hx hxi h1 h2 h3 => by
       have hcd := HC.out
       subst hcd
       exact HFk.out.go (by omega) hxi h3 ⟨h1, h2⟩
     by_cases hc2 : c + 1 < hi
     · have hc2z : (c : Int) + 1 < (hi : Int) := by omega
       go_big_quiet (first | (go_at_call 111; refine Calls.quiet_of_same (less_any _ _ _)))
       go_wp2_with fail
       · have hl1 : dk (first + c) < dk (first + (c + 1)) := ltN_t (by assumption)
         have HL1 := Lib.hid hl1
         clear hl1
         obtain ⟨wx, hwx⟩ : ∃ wx, wr.drewN nq = wx := ⟨_, rfl⟩
         have HDx : Hid (DAt w0 wx g off n dk) := hwx ▸ HDk.out.drewN nq
         rw [hwx]
         clear hwx hcw hfw
         have hcw : ∀ t, t < n → wx.cell? ⟨g, off + t, none⟩ = some (.int .u32 (dk t)) := HDx.out.cell
         have hfw : ∀ t, t < n → wx.frozen? ⟨g, off + t, none⟩ = false := HDx.out.free
         go_wp2_with fail
         go_big_quiet (first | (go_at_call 111; refine Calls.quiet_of_same (less_any _ _ _)))
         go_wp2_with fail
         all_goals first
           | (have hl2 : (!ltN (dk (first + r)) (dk (first + c + 1))) = true := by assumption
              have hl3 : ltN (dk (first + r)) (dk (first + c + 1)) = false := by simpa using hl2
              (try simp only [Exit.inBlock, Exit.then])
              refine bodyPost_ret (results_none rfl _ _ _) rfl ?_
              exact ⟨rfl, dk, HDx.out.drewN _, HSk.out, END.out (c + 1) (.inr rfl) hc2 (fun _ => Nat.le_of_lt HL1.out) (fun _ => Nat.le_refl _) (ltN_f hl3)⟩)
           | (have hl2 : (!ltN (dk (first + r)) (dk (first + c + 1))) = false := by assumption
              have hl3 : ltN (dk (first + r)) (dk (first + c + 1)) = true := by simpa using hl2
              go_region
              all_goals go_wp2
              go_roundw
              case rel => exact ⟨(c + 1), swp dk (first + r) (first + (c + 1)), by first | rfl | (congr 1; omega), by omega, (HDx.out.drewN _).swap _ _, .step HSk.out (by omega) (by omega) (by omega) (by omega), GO.out (c + 1) (.inr rfl) hc2 (fun _ => Nat.le_of_lt HL1.out) (fun _ => Nat.le_refl _) (ltN_t hl3)⟩
              case measure => simp [intOf]; omega)
       · have hl1 : dk (first + (c + 1)) ≤ dk (first + c) := ltN_f (by assumption)
         have HL1 := Lib.hid hl1
         clear hl1
         obtain ⟨wx, hwx⟩ : ∃ wx, wr.drewN nq = wx := ⟨_, rfl⟩
         have HDx : Hid (DAt w0 wx g off n dk) := hwx ▸ HDk.out.drewN nq
         rw [hwx]
         clear hwx hcw hfw
         have hcw : ∀ t, t < n → wx.cell? ⟨g, off + t, none⟩ = some (.int .u32 (dk t)) := HDx.out.cell
         have hfw : ∀ t, t < n → wx.frozen? ⟨g, off + t, none⟩ = false := HDx.out.free
         go_wp2_with fail
         go_big_quiet (first | (go_at_call 111; refine Calls.quiet_of_same (less_any _ _ _)))
         go_wp2_with fail
         all_goals first
           | (have hl2 : (!ltN (dk (first + r)) (dk (first + c))) = true := by assumption
              have hl3 : ltN (dk (first + r)) (dk (first + c)) = false := by simpa using hl2
              (try simp only [Exit.inBlock, Exit.then])
              refine bodyPost_ret (results_none rfl _ _ _) rfl ?_
              exact ⟨rfl, dk, HDx.out.drewN _, HSk.out, END.out c (.inl rfl) hc1 (fun _ => Nat.le_refl _) (fun _ => HL1.out) (ltN_f hl3)⟩)
           | (have hl2 : (!ltN (dk (first + r)) (dk (first + c))) = false := by assumption
              have hl3 : ltN (dk (first + r)) (dk (first + c)) = true := by simpa using hl2
              go_region
              all_goals go_wp2
              go_roundw
              case rel => exact ⟨c, swp dk (first + r) (first + c), by first | rfl | (congr 1; omega), by omega, (HDx.out.drewN _).swap _ _, .step HSk.out (by omega) (by omega) (by omega) (by omega), GO.out c (.inl rfl) hc1 (fun _ => Nat.le_refl _) (fun _ => HL1.out) (ltN_t hl3)⟩
              case measure => simp [intOf]; omega)
     · have hc2z : ¬ (c : Int) + 1 < (hi : Int) := by omega
       go_big_quiet (first | (go_at_call 111; refine Calls.quiet_of_same (less_any _ _ _)))
       obtain ⟨wx, hwx⟩ : ∃ wx, wr.drewN nq = wx := ⟨_, rfl⟩
       have HDx : Hid (DAt w0 wx g off n dk) := hwx ▸ HDk.out.drewN nq
       rw [hwx]
       clear hwx hcw hfw
       have hcw : ∀ t, t < n → wx.cell? ⟨g, off + t, none⟩ = some (.int .u32 (dk t)) := HDx.out.cell
       have hfw : ∀ t, t < n → wx.frozen? ⟨g, off + t, none⟩ = false := HDx.out.free
       go_wp2_with fail
       go_big_quiet (first | (go_at_call 111; refine Calls.quiet_of_same (less_any _ _ _)))
       go_wp2_with fail
       all_goals first
         | (have hl2 : (!ltN (dk (first + r)) (dk (first + c))) = true := by assumption
            have hl3 : ltN (dk (first + r)) (dk (first + c)) = false := by simpa using hl2
            (try simp only [Exit.inBlock, Exit.then])
            refine bodyPost_ret (results_none rfl _ _ _) rfl ?_
            exact ⟨rfl, dk, HDx.out.drewN _, HSk.out, END.out c (.inl rfl) hc1 (fun _ => Nat.le_refl _) (fun h => absurd h hc2) (ltN_f hl3)⟩)
         | (have hl2 : (!ltN (dk (first + r)) (dk (first + c))) = false := by assumption
            have hl3 : ltN (dk (first + r)) (dk (first + c)) = true := by simpa using hl2
            go_region
            all_goals go_wp2
            go_roundw
            case rel => exact ⟨c, swp dk (first + r) (first + c), by first | rfl | (congr 1; omega), by omega, (HDx.out.drewN _).swap _ _, .step HSk.out (by omega) (by omega) (by omega) (by omega), GO.out c (.inl rfl) hc1 (fun _ => Nat.le_refl _) (fun h => absurd h hc2) (ltN_t hl3)⟩
            case measure => simp [intOf]; omega)
   · go_wp2
     go_end0
     exact ⟨rfl, dk, HDk.out, HSk.out, HFk.out.done (fun h => absurd h hc) (fun h => by omega)⟩
open Go.RowKit
def Pop (first hi k : Nat) (d : Nat → Nat) : Prop := Hp first k 0 d ∧ Srt (first + k) (first + hi) d ∧ ∀ p q, first ≤ p → p < first + k → first + k ≤ q → q < first + hi → d p ≤ d q
theorem Pop.start {first hi : Nat} {d : Nat → Nat} (h : Hp first hi 0 d) : Pop first hi hi d := ⟨h, Srt.short (by omega), fun p q h1 h2 h3 h4 => by omega⟩
theorem Pop.end {first hi : Nat} {d : Nat → Nat} (h : Pop first hi 0 d) : Srt first (first + hi) d := h.2.1
theorem Pop.heap {first hi i : Nat} {d : Nat → Nat} (h : Pop first hi (i + 1) d) : Hp first i 1 (swp d first (first + i)) := by
 intro k hk
 have hp := h.1 k (by omega)
 constructor
 · intro hl
   rw [swp_other _ (by omega) (by omega), swp_other _ (by omega) (by omega)]
   exact hp.1 (by omega)
 · intro hl
   rw [swp_other _ (by omega) (by omega), swp_other _ (by omega) (by omega)]
   exact hp.2 (by omega)
theorem Pop.step {first hi i : Nat} {d e : Nat → Nat} (h : Pop first hi (i + 1) d) (hi1 : i < hi) (hs : Sw first (first + i) (swp d first (first + i)) e) (he : Hp first i 0 e) : Pop first hi i e := by
 have top := h.1.top
 have e1 : e (first + i) = d first := by rw [hs.out (.inr (Nat.le_refl _)), swp_right]
 have e2 : ∀ q, first + i < q → e q = d q := fun q hq => by rw [hs.out (.inr (by omega)), swp_other _ (by omega) (by omega)]
 have low : ∀ k, first ≤ k → k < first + i → e k ≤ d first := by
   refine hs.all (p := fun x => x ≤ d first) ?_
   intro k h1 h2
   by_cases ek : k = first
   · subst ek
     rw [swp_left]
     exact top i (by omega)
   · rw [swp_other _ ek (by omega)]
     have := top (k - first) (by omega)
     rwa [show first + (k - first) = k by omega] at this
 refine ⟨he, ?_, ?_⟩
 · intro p q h1 h2 h3
   rcases Nat.lt_or_ge (first + i) p with h4 | h4
   · rw [e2 p h4, e2 q (by omega)]; exact h.2.1 p q (by omega) h2 h3
   · have : p = first + i := by omega
     subst this
     by_cases e3 : q = first + i
     · subst e3; exact Nat.le_refl _
     · rw [e1, e2 q (by omega)]; exact h.2.2 first q (Nat.le_refl _) (by omega) (by omega) h3
 · intro p q h1 h2 h3 h4
   by_cases e3 : q = first + i
   · subst e3; rw [e1]; exact low p h1 h2
   · rw [e2 q (by omega)]
     exact Nat.le_trans (low p h1 h2) (h.2.2 first q (Nat.le_refl _) (by omega) (by omega) h4)
set_option maxRecDepth 100000 in
set_option maxHeartbeats 12800000 in
theorem heap_any (g off cap n a b : Nat) (d : Nat → Nat) (w0 w : World) (hD : DAt w0 w g off n d) (hab : a < b) (hb : b ≤ n) (hn : n < 999999) :
   Calls Tryz.prog 106 #[.slice (some ⟨g, off, none⟩) n cap, .int .i64 a, .int .i64 b] w fun e w' =>
     e = .returned (.tuple #[]) ∧ ∃ d', DAt w0 w' g off n d' ∧ Sw a b d d' ∧ Srt a b d' := by
 have HD := Lib.hid hD
 clear hD
 obtain ⟨h, hh⟩ : ∃ h, h = b - a := ⟨_, rfl⟩
 have hh0 : 0 < h := by omega
 have hah : a + h ≤ n := by omega
 have HB : Hid (a + h = b) := by show a + h = b; omega
 go_enter Tryz.func106, Tryz.ntmps106
 go_wp2
 rw [show (b : Int) - (a : Int) = (h : Int) by omega, show ((h : Int) - 1) / 2 = (((h - 1) / 2 : Nat) : Int) by omega]
 obtain ⟨m, hm⟩ : ∃ m, m = (h - 1) / 2 := ⟨_, rfl⟩
 rw [← hm]
 have hm2 : h ≤ 2 * (m + 1) + 1 := by omega
 have hm3 : m < h := by omega
 have HM : Hid (h ≤ 2 * (m + 1) + 1) := hm2
 clear hm hm2 hh
 go_loopw [9] (fun vi wr => ∃ (z : Int) (k : Nat) (dk : Nat → Nat), vi = .int .i64 z ∧ z + 1 = (k : Int) ∧ k ≤ h ∧ Hid (DAt w0 wr g off n dk) ∧ Hid (Sw a (a + h) d dk) ∧ Hid (Hp a h k dk)) (fun vi _ => (intOf vi + 1).toNat)
 case atStart => exact ⟨m, m + 1, d, rfl, by omega, by omega, HD.out, Sw.refl, Hp.leaves HM.out⟩
 case round =>
   obtain ⟨z, k, dk, rfl, hz, hk, HDk, HSk, HHk⟩ := hrel
   rcases k with _ | i
   · obtain rfl : z = -1 := by omega
     go_wp2
     go_loopw [10] (fun vi wr => ∃ (z : Int) (k : Nat) (dj : Nat → Nat), vi = .int .i64 z ∧ z + 1 = (k : Int) ∧ k ≤ h ∧ Hid (DAt w0 wr g off n dj) ∧ Hid (Sw a (a + h) d dj) ∧ Hid (Pop a h k dj)) (fun vi _ => (intOf vi + 1).toNat)
     case atStart => exact ⟨(h : Int) - 1, h, dk, rfl, by omega, by omega, HDk.out, HSk.out, Pop.start HHk.out⟩
     case round =>
       obtain ⟨z, k, dj, rfl, hz, hk, HDj, HSj, HPj⟩ := hrel
       rcases k with _ | i
       · obtain rfl : z = -1 := by omega
         go_wp2
         go_end0
         exact ⟨rfl, dj, HDj.out, HB.out ▸ HSj.out, HB.out ▸ HPj.out.end⟩
       · obtain rfl : z = (i : Int) := by omega
         clear hz
         have hcw : ∀ t, t < n → wr.cell? ⟨g, off + t, none⟩ = some (.int .u32 (dj t)) := HDj.out.cell
         have hfw : ∀ t, t < n → wr.frozen? ⟨g, off + t, none⟩ = false := HDj.out.free
         go_wp2_with fail
         have HSI : Hid (∀ wx, DAt w0 wx g off n (swp dj a (a + i)) → Calls Tryz.prog 129 #[.slice (some ⟨g, off, none⟩) n cap, .int .i64 0, .int .i64 i, .int .i64 a] wx fun e w' =>
             e = .returned (.tuple #[]) ∧ ∃ d', DAt w0 w' g off n d' ∧ Sw a (a + i) (swp dj a (a + i)) d' ∧ Hp a i 0 d') := Lib.hid (fun wx hx => sift_any g off cap n 0 i a _ w0 wx hx (by omega) (by omega) hn HPj.out.heap)
         by_cases ei : i = 0
         · subst ei
           go_region
           all_goals
             go_wp2_with (go_at_call 129; refine (HSI.out _ (HDj.out.drew.swap a (a + 0))).mono ?_; rintro e w1 ⟨rfl, d1, hD1, hS1, hH1⟩; have HD1 := Lib.hid hD1; have HS1 := Lib.hid hS1; have HH1 := Lib.hid hH1; clear hD1 hS1 hH1)
             go_roundw
             case rel => exact ⟨_, 0, d1, rfl, by omega, by omega, HD1.out, (Sw.step HSj.out (by omega) (by omega) (by omega) (by omega)).trans (HS1.out.mono (Nat.le_refl _) (by omega)), HPj.out.step (by omega) HS1.out HH1.out⟩
             case measure => simp only [intOf]; omega
         · go_region
           all_goals
             go_wp2_with (go_at_call 129; refine (HSI.out _ (HDj.out.drew.swap a (a + i))).mono ?_; rintro e w1 ⟨rfl, d1, hD1, hS1, hH1⟩; have HD1 := Lib.hid hD1; have HS1 := Lib.hid hS1; have HH1 := Lib.hid hH1; clear hD1 hS1 hH1)
             go_roundw
             case rel => exact ⟨_, i, d1, rfl, by omega, by omega, HD1.out, (Sw.step HSj.out (by omega) (by omega) (by omega) (by omega)).trans (HS1.out.mono (Nat.le_refl _) (by omega)), HPj.out.step (by omega) HS1.out HH1.out⟩
             case measure => simp only [intOf]; omega
   · obtain rfl : z = (i : Int) := by omega
     clear hz
     have HC : Hid (Calls Tryz.prog 129 #[.slice (some ⟨g, off, none⟩) n cap, .int .i64 i, .int .i64 h, .int .i64 a] wr fun e w' =>
         e = .returned (.tuple #[]) ∧ ∃ d', DAt w0 w' g off n d' ∧ Sw a (a + h) dk d' ∧ Hp a h i d') := Lib.hid (sift_any g off cap n i h a dk w0 wr HDk.out (by omega) (by omega) hn HHk.out)
     go_wp2_with (go_at_call 129; refine HC.out.mono ?_; rintro e w1 ⟨rfl, d1, hD1, hS1, hH1⟩; have HD1 := Lib.hid hD1; have HS1 := Lib.hid hS1; have HH1 := Lib.hid hH1; clear hD1 hS1 hH1)
     go_roundw
     case rel => exact ⟨(i : Int) - 1, i, d1, rfl, by omega, by omega, HD1.out, HSk.out.trans HS1.out, HH1.out⟩
     case measure => simp only [intOf]; omega
end Go.Proofs.YtpigipgoopeeoaaGreatDoor
