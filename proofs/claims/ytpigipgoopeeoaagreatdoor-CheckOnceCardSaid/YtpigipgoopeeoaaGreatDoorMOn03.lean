import Derived.Test.YtpigipgoopeeoaaGreatDoorMOn02
set_option linter.unusedVariables false
set_option linter.unusedSimpArgs false
namespace Go.Proofs.YtpigipgoopeeoaaGreatDoor
open Go.RowKit
theorem cell_set_some {w : World} {p q : Addr} {x v : Value} (h : w.cell? q = some v) : ∃ v', (w.setCell p x).cell? q = some v' := by
 by_cases e : p = q
 · subst e; exact ⟨_, World.cell?_setCell_same _ _ _ h⟩
 · exact ⟨v, by rw [World.cell?_setCell_other _ _ _ _ e]; exact h⟩
def Pt (lo : Nat → Bool) (a b i j : Nat) (d : Nat → Nat) : Prop := (∀ k, a < k → k < i → lo (d k) = true) ∧ (∀ k, j < k → k < b → lo (d k) = false)
section
variable {lo : Nat → Bool} {a b i j : Nat} {d : Nat → Nat}
theorem Pt.start (lo : Nat → Bool) (a b : Nat) (d : Nat → Nat) : Pt lo a b (a + 1) (b - 1) d := ⟨fun k h1 h2 => by omega, fun k h1 h2 => by omega⟩
theorem Pt.up (h : Pt lo a b i j d) (hl : lo (d i) = true) : Pt lo a b (i + 1) j d := ⟨fun k h1 h2 => by
 by_cases e : k = i
 · subst e; exact hl
 · exact h.1 k h1 (by omega), h.2⟩
theorem Pt.down (h : Pt lo a b i j d) (hl : lo (d j) = false) : Pt lo a b i (j - 1) d := ⟨h.1, fun k h1 h2 => by
 by_cases e : k = j
 · subst e; exact hl
 · exact h.2 k (by omega) h2⟩
theorem Pt.swap (h : Pt lo a b i j d) (h1 : lo (d i) = false) (h2 : lo (d j) = true) (hij : i < j) : Pt lo a b (i + 1) (j - 1) (swp d i j) := ⟨fun k h3 h4 => by
 by_cases e : k = i
 · subst e; rw [swp_left]; exact h2
 · rw [swp_other _ e (by omega)]; exact h.1 k h3 (by omega), fun k h3 h4 => by
 by_cases e : k = j
 · subst e; rw [swp_right]; exact h1
 · rw [swp_other _ (by omega) e]; exact h.2 k (by omega) h4⟩
theorem Pt.lt (h1 : lo (d i) = false) (h2 : lo (d j) = true) (hij : i ≤ j) : i < j := by
 rcases Nat.lt_or_ge i j with h | h
 · exact h
 · have : i = j := by omega
   subst this; rw [h1] at h2; cases h2
theorem Pt.last (h : Pt lo a b i j d) (hi : i = j + 1) (ha : a < i) (p : Nat) (hp : d a = p) : (∀ k, a ≤ k → k < j → lo (swp d j a k) = true) ∧ swp d j a j = p ∧ ∀ k, j < k → k < b → lo (swp d j a k) = false := by
 refine ⟨fun k h1 h2 => ?_, by rw [swp_left]; exact hp, fun k h1 h2 => ?_⟩
 · by_cases e : k = a
   · subst e; rw [swp_right]; exact h.1 j h2 (by omega)
   · rw [swp_other _ (by omega) e]; exact h.1 k (by omega) (by omega)
 · rw [swp_other _ (by omega) (by omega)]; exact h.2 k h1 h2
end
set_option maxRecDepth 100000 in
set_option maxHeartbeats 12800000 in
theorem partEq_any (g off cap n a b pivot : Nat) (d : Nat → Nat) (w0 w : World) (hD : DAt w0 w g off n d) (hap : a ≤ pivot) (hpb : pivot < b) (hb : b ≤ n) (hn : n < 999999) :
   Calls Tryz.prog 112 #[.slice (some ⟨g, off, none⟩) n cap, .int .i64 a, .int .i64 b, .int .i64 pivot] w fun e w' =>
     ∃ (mid : Nat) (d' : Nat → Nat), e = .returned (.int .i64 mid) ∧ a < mid ∧ mid ≤ b ∧ DAt w0 w' g off n d' ∧ Sw a b d d' ∧ (∀ k, a ≤ k → k < mid → d' k ≤ d pivot) ∧ ∀ k, mid ≤ k → k < b → d pivot < d' k := by
 have HD := Lib.hid hD
 have ca := hD.cell a (by omega)
 have cp := hD.cell pivot (by omega)
 have fa := hD.free a (by omega)
 have fp := hD.free pivot (by omega)
 obtain ⟨v', hy'⟩ := cell_set_some (p := ⟨g, off + a, none⟩) (x := .int .u32 (d pivot)) cp
 clear hD
 obtain ⟨p, hp⟩ : ∃ p, p = d pivot := ⟨_, rfl⟩
 have HP : Hid (p = d pivot) := hp
 rw [← hp]
 rw [← hp] at cp hy'
 clear hp
 go_enter Tryz.func112, Tryz.ntmps112
 go_wp2
 go_region
 go_wp2
 go_loopw [9, 10] (fun vi vj wr => ∃ (i j : Nat) (dk : Nat → Nat), vi = .int .i64 i ∧ vj = .int .i64 j ∧ a < i ∧ i ≤ j + 1 ∧ j < b ∧ Hid (DAt w0 wr g off n dk) ∧ Hid (Sw a b d dk) ∧ Hid (Pt (fun x => !ltN p x) a b i j dk) ∧ Hid (dk a = p)) (fun vi vj _ => (intOf vj).toNat + 1 - (intOf vi).toNat)
 case atStart => exact ⟨a + 1, b - 1, swp d a pivot, by go_num, by go_num, by omega, by omega, by omega, by have h := HD.out.drew.swap a pivot; rw [← HP.out] at h; exact h, .one (by omega) (by omega) (by omega) (by omega), Pt.start _ _ _ _, by show swp d a pivot a = p; rw [swp_left, HP.out]⟩
 case round =>
   obtain ⟨i, j, dk, rfl, rfl, hai, hij, hjb, HDk, HSk, HPk, HAk⟩ := hrel
   clear ca cp fa fp hy'
   go_wp2
   go_loopw [9] (fun vi w1 => ∃ (i1 : Nat), vi = .int .i64 i1 ∧ i ≤ i1 ∧ i1 ≤ j + 1 ∧ Hid (DAt w0 w1 g off n dk) ∧ Hid (Pt (fun x => !ltN p x) a b i1 j dk)) (fun vi _ => j + 1 - (intOf vi).toNat)
   case atStart => exact ⟨i, rfl, Nat.le_refl _, hij, HDk.out, HPk.out⟩
   case round =>
     obtain ⟨i1, rfl, hi0, hi1, HDu, HPu⟩ := hrel
     clear HDk HPk
     have hcw : ∀ t, t < n → wr.cell? ⟨g, off + t, none⟩ = some (.int .u32 (dk t)) := HDu.out.cell
     have hfw : ∀ t, t < n → wr.frozen? ⟨g, off + t, none⟩ = false := HDu.out.free
     by_cases hle : i1 ≤ j
     · go_wp2_with fail
       go_big_quiet (first | (go_at_call 111; refine Calls.quiet_of_same (less_any _ _ _)))
       go_wp2_with fail
       · rename (!ltN (dk a) (dk i1)) = true => ht
         go_wp2
         go_roundw
         case rel => exact ⟨i1 + 1, by go_num, by omega, by omega, HDu.out.drewN nq, HPu.out.up (by show (!ltN p (dk i1)) = true; rw [← HAk.out]; exact ht)⟩
         case measure => simp [intOf]; omega
       · rename (!ltN (dk a) (dk i1)) = false => ht
         have HU : Hid ((fun x => !ltN p x) (dk i1) = false) := Lib.hid (by show (!ltN p (dk i1)) = false; rw [← HAk.out]; exact ht)
         clear ht
         obtain ⟨wx, hwx⟩ : ∃ wx, wr.drewN nq = wx := ⟨_, rfl⟩
         have HDx : Hid (DAt w0 wx g off n dk) := hwx ▸ HDu.out.drewN nq
         rw [hwx]
         clear hwx hcw hfw HDu
         go_loopw [10] (fun vj w2 => ∃ (j1 : Nat), vj = .int .i64 j1 ∧ j1 ≤ j ∧ i1 ≤ j1 + 1 ∧ Hid (DAt w0 w2 g off n dk) ∧ Hid (Pt (fun x => !ltN p x) a b i1 j1 dk)) (fun vj _ => (intOf vj).toNat)
         case atStart => exact ⟨j, rfl, Nat.le_refl _, hi1, HDx.out, HPu.out⟩
         case round =>
           obtain ⟨j1, rfl, hj1, hij1, HDv, HPv⟩ := hrel
           clear HDx HPu
           have hcw : ∀ t, t < n → wr.cell? ⟨g, off + t, none⟩ = some (.int .u32 (dk t)) := HDv.out.cell
           have hfw : ∀ t, t < n → wr.frozen? ⟨g, off + t, none⟩ = false := HDv.out.free
           by_cases hle2 : i1 ≤ j1
           · go_wp2_with fail
             go_big_quiet (first | (go_at_call 111; refine Calls.quiet_of_same (less_any _ _ _)))
             go_wp2_with fail
             · rename ltN (dk a) (dk j1) = true => ht
               go_wp2
               go_roundw
               case rel => exact ⟨j1 - 1, by congr 1; omega, by omega, by omega, HDv.out.drewN nq, HPv.out.down (by show (!ltN p (dk j1)) = false; rw [← HAk.out]; simpa using ht)⟩
               case measure => simp [intOf]; omega
             · rename ltN (dk a) (dk j1) = false => ht
               have HV : Hid ((fun x => !ltN p x) (dk j1) = true) := Lib.hid (by show (!ltN p (dk j1)) = true; rw [← HAk.out]; simpa using ht)
               clear ht
               have hlt : i1 < j1 := Pt.lt (lo := (fun x => !ltN p x)) (d := dk) HU.out HV.out hle2
               obtain ⟨wy, hwy⟩ : ∃ wy, wr.drewN nq = wy := ⟨_, rfl⟩
               have HDy : Hid (DAt w0 wy g off n dk) := hwy ▸ HDv.out.drewN nq
               rw [hwy]
               clear hwy hcw hfw
               have hcw : ∀ t, t < n → wy.cell? ⟨g, off + t, none⟩ = some (.int .u32 (dk t)) := HDy.out.cell
               have hfw : ∀ t, t < n → wy.frozen? ⟨g, off + t, none⟩ = false := HDy.out.free
               clear HDv
               go_wp2_with fail
               go_region
               all_goals go_wp2
               go_roundw
               case rel => exact ⟨i1 + 1, j1 - 1, swp dk i1 j1, by go_num, by congr 1; omega, by omega, by omega, by omega, HDy.out.drew.swap i1 j1, .step HSk.out (by omega) (by omega) (by omega) (by omega), HPv.out.swap HU.out HV.out hlt, (swp_other _ (by omega) (by omega)).trans HAk.out⟩
               case measure => simp [intOf]; omega
           · go_wp2_with fail
             go_big_quiet (first | (go_at_call 111; refine Calls.quiet_of_same (less_any _ _ _)))
             go_wp2_with fail
             obtain ⟨wy, hwy⟩ : ∃ wy, wr.drewN nq = wy := ⟨_, rfl⟩
             have HDy : Hid (DAt w0 wy g off n dk) := hwy ▸ HDv.out.drewN nq
             rw [hwy]
             clear hwy hcw hfw HDv
             go_wp2_with fail
             all_goals
               go_wp2
               go_ret
               exact ⟨i1, dk, rfl, by omega, by omega, HDy.out, HSk.out, fun k h1 h2 => by
                 by_cases e : k = a
                 · subst e; rw [HAk.out]; exact Nat.le_refl _
                 · have := HPv.out.1 k (by omega) h2
                   exact ltN_f (by simpa using this), fun k h1 h2 => by
                 have := HPv.out.2 k (by omega) h2
                 exact ltN_t (by simpa using this)⟩
     · go_wp2_with fail
       go_big_quiet (first | (go_at_call 111; refine Calls.quiet_of_same (less_any _ _ _)))
       go_wp2_with fail
       obtain ⟨wx, hwx⟩ : ∃ wx, wr.drewN nq = wx := ⟨_, rfl⟩
       have HDx : Hid (DAt w0 wx g off n dk) := hwx ▸ HDu.out.drewN nq
       rw [hwx]
       clear hwx hcw hfw HDu
       go_loopw [10] (fun vj w2 => ∃ (j1 : Nat), vj = .int .i64 j1 ∧ j1 ≤ j ∧ i1 ≤ j1 + 1 ∧ Hid (DAt w0 w2 g off n dk) ∧ Hid (Pt (fun x => !ltN p x) a b i1 j1 dk)) (fun vj _ => (intOf vj).toNat)
       case atStart => exact ⟨j, rfl, Nat.le_refl _, hi1, HDx.out, HPu.out⟩
       case round =>
         obtain ⟨j1, rfl, hj1, hij1, HDv, HPv⟩ := hrel
         clear HDx HPu
         have hcw : ∀ t, t < n → wr.cell? ⟨g, off + t, none⟩ = some (.int .u32 (dk t)) := HDv.out.cell
         have hfw : ∀ t, t < n → wr.frozen? ⟨g, off + t, none⟩ = false := HDv.out.free
         by_cases hle2 : i1 ≤ j1
         · exact absurd hle2 (by omega)
         · go_wp2_with fail
           go_big_quiet (first | (go_at_call 111; refine Calls.quiet_of_same (less_any _ _ _)))
           go_wp2_with fail
           obtain ⟨wy, hwy⟩ : ∃ wy, wr.drewN nq = wy := ⟨_, rfl⟩
           have HDy : Hid (DAt w0 wy g off n dk) := hwy ▸ HDv.out.drewN nq
           rw [hwy]
           clear hwy hcw hfw HDv
           go_wp2_with fail
           all_goals
             go_wp2
             go_ret
             exact ⟨i1, dk, rfl, by omega, by omega, HDy.out, HSk.out, fun k h1 h2 => by
               by_cases e : k = a
               · subst e; rw [HAk.out]; exact Nat.le_refl _
               · have := HPv.out.1 k (by omega) h2
                 exact ltN_f (by simpa using this), fun k h1 h2 => by
               have := HPv.out.2 k (by omega) h2
               exact ltN_t (by simpa using this)⟩
set_option maxRecDepth 100000 in
set_option maxHeartbeats 25600000 in
theorem part_any (g off cap n a b pivot : Nat) (d : Nat → Nat) (w0 w : World) (hD : DAt w0 w g off n d) (hap : a ≤ pivot) (hpb : pivot < b) (hb : b ≤ n) (hn : n < 999999) :
   Calls Tryz.prog 113 #[.slice (some ⟨g, off, none⟩) n cap, .int .i64 a, .int .i64 b, .int .i64 pivot] w fun e w' =>
     ∃ (mid : Nat) (q : Bool) (d' : Nat → Nat), e = .returned (.tuple #[.int .i64 mid, .bool q]) ∧ a ≤ mid ∧ mid < b ∧ DAt w0 w' g off n d' ∧ Sw a b d d' ∧ (∀ k, a ≤ k → k < mid → d' k < d' mid) ∧ ∀ k, mid < k → k < b → d' mid ≤ d' k := by
 have HD := Lib.hid hD
 have ca := hD.cell a (by omega)
 have cp := hD.cell pivot (by omega)
 have fa := hD.free a (by omega)
 have fp := hD.free pivot (by omega)
 obtain ⟨v', hy'⟩ := cell_set_some (p := ⟨g, off + a, none⟩) (x := .int .u32 (d pivot)) cp
 clear hD
 obtain ⟨p, hp⟩ : ∃ p, p = d pivot := ⟨_, rfl⟩
 have HP : Hid (p = d pivot) := hp
 rw [← hp] at cp hy'
 clear hp
 obtain ⟨i, hi⟩ : ∃ i, i = a + 1 := ⟨_, rfl⟩
 obtain ⟨j, hj⟩ : ∃ j, j = b - 1 := ⟨_, rfl⟩
 have hai : a < i := by omega
 have hij : i ≤ j + 1 := by omega
 have hjb : j < b := by omega
 have EI : Hid ((a : Int) + 1 = (i : Int)) := Lib.hid (by omega)
 have EJ : Hid ((b : Int) - 1 = (j : Int)) := Lib.hid (by omega)
 have HIJ : Hid (i = a + 1 ∧ j = b - 1) := ⟨hi, hj⟩
 clear hi hj
 go_enter Tryz.func113, Tryz.ntmps113
 go_wp2
 go_region
 go_wp2
 rw [EI.out, EJ.out]
 obtain ⟨wz, hwz⟩ : ∃ wz, ((w.drew.setCell ⟨g, off + a, none⟩ (.int .u32 p)).setCell ⟨g, off + pivot, none⟩ (.int .u32 (d a))) = wz := ⟨_, rfl⟩
 have hwz' : ((w.setCell ⟨g, off + a, none⟩ (.int .u32 p)).setCell ⟨g, off + pivot, none⟩ (.int .u32 (d a))).drew = wz := hwz
 obtain ⟨dk, hdk⟩ : ∃ dk, dk = swp d a pivot := ⟨_, rfl⟩
 have HDk : Hid (DAt w0 wz g off n dk) := by
   have h := HD.out.drew.swap a pivot
   rw [← HP.out] at h
   rw [hdk, ← hwz]; exact h
 have HSk : Hid (Sw a b d dk) := by rw [hdk]; exact .one (by omega) (by omega) (by omega) (by omega)
 have HPk : Hid (Pt (fun x => ltN x p) a b i j dk) := by rw [HIJ.out.1, HIJ.out.2]; exact Pt.start _ _ _ _
 have HAk : Hid (dk a = p) := by show dk a = p; rw [hdk, swp_left, HP.out]
 first | rw [hwz] | rw [hwz']
 clear hwz hwz' hdk ca cp fa fp hy' EI EJ HIJ HP
 go_loopw [10] (fun vi w1 => ∃ (i1 : Nat), vi = .int .i64 i1 ∧ i ≤ i1 ∧ i1 ≤ j + 1 ∧ Hid (DAt w0 w1 g off n dk) ∧ Hid (Pt (fun x => ltN x p) a b i1 j dk)) (fun vi _ => j + 1 - (intOf vi).toNat)
 case atStart => exact ⟨i, rfl, Nat.le_refl _, hij, HDk.out, HPk.out⟩
 case round =>
   obtain ⟨i1, rfl, hi0, hi1, HDu, HPu⟩ := hrel
   clear HDk HPk
   have hcw : ∀ t, t < n → wr.cell? ⟨g, off + t, none⟩ = some (.int .u32 (dk t)) := HDu.out.cell
   have hfw : ∀ t, t < n → wr.frozen? ⟨g, off + t, none⟩ = false := HDu.out.free
   by_cases hle : i1 ≤ j
   · go_wp2_with fail
     go_big_quiet (first | (go_at_call 111; refine Calls.quiet_of_same (less_any _ _ _)))
     go_wp2_with fail
     · rename ltN (dk i1) (dk a) = true => ht
       go_wp2
       go_roundw
       case rel => exact ⟨i1 + 1, by go_num, by omega, by omega, HDu.out.drewN nq, HPu.out.up (by show ltN (dk i1) p = true; rw [← HAk.out]; exact ht)⟩
       case measure => simp [intOf]; omega
     · rename ltN (dk i1) (dk a) = false => ht
       have HU : Hid ((fun x => ltN x p) (dk i1) = false) := Lib.hid (by show ltN (dk i1) p = false; rw [← HAk.out]; exact ht)
       clear ht
       obtain ⟨wx, hwx⟩ : ∃ wx, wr.drewN nq = wx := ⟨_, rfl⟩
       have HDx : Hid (DAt w0 wx g off n dk) := hwx ▸ HDu.out.drewN nq
       rw [hwx]
       clear hwx hcw hfw HDu
       go_loopw [11] (fun vj w2 => ∃ (j1 : Nat), vj = .int .i64 j1 ∧ j1 ≤ j ∧ i1 ≤ j1 + 1 ∧ Hid (DAt w0 w2 g off n dk) ∧ Hid (Pt (fun x => ltN x p) a b i1 j1 dk)) (fun vj _ => (intOf vj).toNat)
       case atStart => exact ⟨j, rfl, Nat.le_refl _, hi1, HDx.out, HPu.out⟩
       case round =>
         obtain ⟨j1, rfl, hj1, hij1, HDv, HPv⟩ := hrel
         clear HDx HPu
         have hcw : ∀ t, t < n → wr.cell? ⟨g, off + t, none⟩ = some (.int .u32 (dk t)) := HDv.out.cell
         have hfw : ∀ t, t < n → wr.frozen? ⟨g, off + t, none⟩ = false := HDv.out.free
         by_cases hle2 : i1 ≤ j1
         · go_wp2_with fail
           go_big_quiet (first | (go_at_call 111; refine Calls.quiet_of_same (less_any _ _ _)))
           go_wp2_with fail
           · rename (!ltN (dk j1) (dk a)) = true => ht
             go_wp2
             go_roundw
             case rel => exact ⟨j1 - 1, by congr 1; omega, by omega, by omega, HDv.out.drewN nq, HPv.out.down (by show ltN (dk j1) p = false; rw [← HAk.out]; simpa using ht)⟩
             case measure => simp [intOf]; omega
           · rename (!ltN (dk j1) (dk a)) = false => ht
             have HV : Hid ((fun x => ltN x p) (dk j1) = true) := Lib.hid (by show ltN (dk j1) p = true; rw [← HAk.out]; simpa using ht)
             clear ht
             have hlt : i1 < j1 := Pt.lt (lo := (fun x => ltN x p)) (d := dk) HU.out HV.out hle2
             obtain ⟨wy, hwy⟩ : ∃ wy, wr.drewN nq = wy := ⟨_, rfl⟩
             have HDy : Hid (DAt w0 wy g off n dk) := hwy ▸ HDv.out.drewN nq
             rw [hwy]
             clear hwy hcw hfw
             have hcw : ∀ t, t < n → wy.cell? ⟨g, off + t, none⟩ = some (.int .u32 (dk t)) := HDy.out.cell
             have hfw : ∀ t, t < n → wy.frozen? ⟨g, off + t, none⟩ = false := HDy.out.free
             clear HDv
             go_wp2_with fail
             go_region
             all_goals go_wp2
             have HD1 := Lib.hid (HDy.out.drew.swap i1 j1)
             have HS1 : Hid (Sw a b d (swp dk i1 j1)) := .step HSk.out (by omega) (by omega) (by omega) (by omega)
             have HP1 := Lib.hid (HPv.out.swap HU.out HV.out hlt)
             have HA1 : Hid (swp dk i1 j1 a = p) := (swp_other _ (by omega) (by omega)).trans HAk.out
             clear hcw hfw HDy HSk HPv HU HV HAk
             go_loopw [10, 11] (fun vi vj wr => ∃ (i j : Nat) (dk : Nat → Nat), vi = .int .i64 i ∧ vj = .int .i64 j ∧ a < i ∧ i ≤ j + 1 ∧ j < b ∧ Hid (DAt w0 wr g off n dk) ∧ Hid (Sw a b d dk) ∧ Hid (Pt (fun x => ltN x p) a b i j dk) ∧ Hid (dk a = p)) (fun vi vj _ => (intOf vj).toNat + 1 - (intOf vi).toNat)
             case atStart => exact ⟨i1 + 1, j1 - 1, swp dk i1 j1, by go_num, by congr 1; omega, by omega, by omega, by omega, HD1.out, HS1.out, HP1.out, HA1.out⟩
             case round =>
               obtain ⟨i, j, dk, rfl, rfl, hai, hij, hjb, HDk, HSk, HPk, HAk⟩ := hrel
               clear HD1 HS1 HP1 HA1
               go_wp2
               go_loopw [10] (fun vi w1 => ∃ (i1 : Nat), vi = .int .i64 i1 ∧ i ≤ i1 ∧ i1 ≤ j + 1 ∧ Hid (DAt w0 w1 g off n dk) ∧ Hid (Pt (fun x => ltN x p) a b i1 j dk)) (fun vi _ => j + 1 - (intOf vi).toNat)
               case atStart => exact ⟨i, rfl, Nat.le_refl _, hij, HDk.out, HPk.out⟩
               case round =>
                 obtain ⟨i1, rfl, hi0, hi1, HDu, HPu⟩ := hrel
                 clear HDk HPk
                 have hcw : ∀ t, t < n → wr.cell? ⟨g, off + t, none⟩ = some (.int .u32 (dk t)) := HDu.out.cell
                 have hfw : ∀ t, t < n → wr.frozen? ⟨g, off + t, none⟩ = false := HDu.out.free
                 by_cases hle : i1 ≤ j
                 · go_wp2_with fail
                   go_big_quiet (first | (go_at_call 111; refine Calls.quiet_of_same (less_any _ _ _)))
                   go_wp2_with fail
                   · rename ltN (dk i1) (dk a) = true => ht
                     go_wp2
                     go_roundw
                     case rel => exact ⟨i1 + 1, by go_num, by omega, by omega, HDu.out.drewN nq, HPu.out.up (by show ltN (dk i1) p = true; rw [← HAk.out]; exact ht)⟩
                     case measure => simp [intOf]; omega
                   · rename ltN (dk i1) (dk a) = false => ht
                     have HU : Hid ((fun x => ltN x p) (dk i1) = false) := Lib.hid (by show ltN (dk i1) p = false; rw [← HAk.out]; exact ht)
                     clear ht
                     obtain ⟨wx, hwx⟩ : ∃ wx, wr.drewN nq = wx := ⟨_, rfl⟩
                     have HDx : Hid (DAt w0 wx g off n dk) := hwx ▸ HDu.out.drewN nq
                     rw [hwx]
                     clear hwx hcw hfw HDu
                     go_loopw [11] (fun vj w2 => ∃ (j1 : Nat), vj = .int .i64 j1 ∧ j1 ≤ j ∧ i1 ≤ j1 + 1 ∧ Hid (DAt w0 w2 g off n dk) ∧ Hid (Pt (fun x => ltN x p) a b i1 j1 dk)) (fun vj _ => (intOf vj).toNat)
                     case atStart => exact ⟨j, rfl, Nat.le_refl _, hi1, HDx.out, HPu.out⟩
                     case round =>
                       obtain ⟨j1, rfl, hj1, hij1, HDv, HPv⟩ := hrel
                       clear HDx HPu
                       have hcw : ∀ t, t < n → wr.cell? ⟨g, off + t, none⟩ = some (.int .u32 (dk t)) := HDv.out.cell
                       have hfw : ∀ t, t < n → wr.frozen? ⟨g, off + t, none⟩ = false := HDv.out.free
                       by_cases hle2 : i1 ≤ j1
                       · go_wp2_with fail
                         go_big_quiet (first | (go_at_call 111; refine Calls.quiet_of_same (less_any _ _ _)))
                         go_wp2_with fail
                         · rename (!ltN (dk j1) (dk a)) = true => ht
                           go_wp2
                           go_roundw
                           case rel => exact ⟨j1 - 1, by congr 1; omega, by omega, by omega, HDv.out.drewN nq, HPv.out.down (by show ltN (dk j1) p = false; rw [← HAk.out]; simpa using ht)⟩
                           case measure => simp [intOf]; omega
                         · rename (!ltN (dk j1) (dk a)) = false => ht
                           have HV : Hid ((fun x => ltN x p) (dk j1) = true) := Lib.hid (by show ltN (dk j1) p = true; rw [← HAk.out]; simpa using ht)
                           clear ht
                           have hlt : i1 < j1 := Pt.lt (lo := (fun x => ltN x p)) (d := dk) HU.out HV.out hle2
                           obtain ⟨wy, hwy⟩ : ∃ wy, wr.drewN nq = wy := ⟨_, rfl⟩
                           have HDy : Hid (DAt w0 wy g off n dk) := hwy ▸ HDv.out.drewN nq
                           rw [hwy]
                           clear hwy hcw hfw
                           have hcw : ∀ t, t < n → wy.cell? ⟨g, off + t, none⟩ = some (.int .u32 (dk t)) := HDy.out.cell
                           have hfw : ∀ t, t < n → wy.frozen? ⟨g, off + t, none⟩ = false := HDy.out.free
                           clear HDv
                           go_wp2_with fail
                           go_region
                           all_goals go_wp2
                           go_roundw
                           case rel => exact ⟨i1 + 1, j1 - 1, swp dk i1 j1, by go_num, by congr 1; omega, by omega, by omega, by omega, HDy.out.drew.swap i1 j1, .step HSk.out (by omega) (by omega) (by omega) (by omega), HPv.out.swap HU.out HV.out hlt, (swp_other _ (by omega) (by omega)).trans HAk.out⟩
                           case measure => simp [intOf]; omega
                       · go_wp2_with fail
                         go_big_quiet (first | (go_at_call 111; refine Calls.quiet_of_same (less_any _ _ _)))
                         go_wp2_with fail
                         obtain ⟨wy, hwy⟩ : ∃ wy, wr.drewN nq = wy := ⟨_, rfl⟩
                         have HDy : Hid (DAt w0 wy g off n dk) := hwy ▸ HDv.out.drewN nq
                         rw [hwy]
                         clear hwy hcw hfw HDv
                         go_wp2_with fail
                         have hcw : ∀ t, t < n → wy.cell? ⟨g, off + t, none⟩ = some (.int .u32 (dk t)) := HDy.out.cell
                         have hfw : ∀ t, t < n → wy.frozen? ⟨g, off + t, none⟩ = false := HDy.out.free
                         obtain ⟨v2, hy2⟩ := cell_set_some (p := ⟨g, off + j1, none⟩) (x := .int .u32 (dk a)) (hcw a (by omega))
                         go_region
                         all_goals go_wp2
                         go_ret2
                         have hl := HPv.out.last (by omega) (by omega) p HAk.out
                         exact ⟨j1, _, swp dk j1 a, rfl, by omega, by omega, HDy.out.drew.swap j1 a, .step HSk.out (by omega) (by omega) (by omega) (by omega), fun k h1 h2 => by
                           rw [hl.2.1]; exact ltN_t (hl.1 k h1 h2), fun k h1 h2 => by
                           rw [hl.2.1]; exact ltN_f (hl.2.2 k h1 h2)⟩
                 · go_wp2_with fail
                   go_big_quiet (first | (go_at_call 111; refine Calls.quiet_of_same (less_any _ _ _)))
                   go_wp2_with fail
                   obtain ⟨wx, hwx⟩ : ∃ wx, wr.drewN nq = wx := ⟨_, rfl⟩
                   have HDx : Hid (DAt w0 wx g off n dk) := hwx ▸ HDu.out.drewN nq
                   rw [hwx]
                   clear hwx hcw hfw HDu
                   go_loopw [11] (fun vj w2 => ∃ (j1 : Nat), vj = .int .i64 j1 ∧ j1 ≤ j ∧ i1 ≤ j1 + 1 ∧ Hid (DAt w0 w2 g off n dk) ∧ Hid (Pt (fun x => ltN x p) a b i1 j1 dk)) (fun vj _ => (intOf vj).toNat)
                   case atStart => exact ⟨j, rfl, Nat.le_refl _, hi1, HDx.out, HPu.out⟩
                   case round =>
                     obtain ⟨j1, rfl, hj1, hij1, HDv, HPv⟩ := hrel
                     clear HDx HPu
                     have hcw : ∀ t, t < n → wr.cell? ⟨g, off + t, none⟩ = some (.int .u32 (dk t)) := HDv.out.cell
                     have hfw : ∀ t, t < n → wr.frozen? ⟨g, off + t, none⟩ = false := HDv.out.free
                     by_cases hle2 : i1 ≤ j1
                     · exact absurd hle2 (by omega)
                     · go_wp2_with fail
                       go_big_quiet (first | (go_at_call 111; refine Calls.quiet_of_same (less_any _ _ _)))
                       go_wp2_with fail
                       obtain ⟨wy, hwy⟩ : ∃ wy, wr.drewN nq = wy := ⟨_, rfl⟩
                       have HDy : Hid (DAt w0 wy g off n dk) := hwy ▸ HDv.out.drewN nq
                       rw [hwy]
                       clear hwy hcw hfw HDv
                       go_wp2_with fail
                       have hcw : ∀ t, t < n → wy.cell? ⟨g, off + t, none⟩ = some (.int .u32 (dk t)) := HDy.out.cell
                       have hfw : ∀ t, t < n → wy.frozen? ⟨g, off + t, none⟩ = false := HDy.out.free
                       obtain ⟨v2, hy2⟩ := cell_set_some (p := ⟨g, off + j1, none⟩) (x := .int .u32 (dk a)) (hcw a (by omega))
                       go_region
                       all_goals go_wp2
                       go_ret2
                       have hl := HPv.out.last (by omega) (by omega) p HAk.out
                       exact ⟨j1, _, swp dk j1 a, rfl, by omega, by omega, HDy.out.drew.swap j1 a, .step HSk.out (by omega) (by omega) (by omega) (by omega), fun k h1 h2 => by
                         rw [hl.2.1]; exact ltN_t (hl.1 k h1 h2), fun k h1 h2 => by
                         rw [hl.2.1]; exact ltN_f (hl.2.2 k h1 h2)⟩
         · go_wp2_with fail
           go_big_quiet (first | (go_at_call 111; refine Calls.quiet_of_same (less_any _ _ _)))
           go_wp2_with fail
           obtain ⟨wy, hwy⟩ : ∃ wy, wr.drewN nq = wy := ⟨_, rfl⟩
           have HDy : Hid (DAt w0 wy g off n dk) := hwy ▸ HDv.out.drewN nq
           rw [hwy]
           clear hwy hcw hfw HDv
           go_wp2_with fail
           have hcw : ∀ t, t < n → wy.cell? ⟨g, off + t, none⟩ = some (.int .u32 (dk t)) := HDy.out.cell
           have hfw : ∀ t, t < n → wy.frozen? ⟨g, off + t, none⟩ = false := HDy.out.free
           obtain ⟨v2, hy2⟩ := cell_set_some (p := ⟨g, off + j1, none⟩) (x := .int .u32 (dk a)) (hcw a (by omega))
           go_region
           all_goals go_wp2
           go_ret2
           have hl := HPv.out.last (by omega) (by omega) p HAk.out
           exact ⟨j1, _, swp dk j1 a, rfl, by omega, by omega, HDy.out.drew.swap j1 a, .step HSk.out (by omega) (by omega) (by omega) (by omega), fun k h1 h2 => by
             rw [hl.2.1]; exact ltN_t (hl.1 k h1 h2), fun k h1 h2 => by
             rw [hl.2.1]; exact ltN_f (hl.2.2 k h1 h2)⟩
   · go_wp2_with fail
     go_big_quiet (first | (go_at_call 111; refine Calls.quiet_of_same (less_any _ _ _)))
     go_wp2_with fail
     obtain ⟨wx, hwx⟩ : ∃ wx, wr.drewN nq = wx := ⟨_, rfl⟩
     have HDx : Hid (DAt w0 wx g off n dk) := hwx ▸ HDu.out.drewN nq
     rw [hwx]
     clear hwx hcw hfw HDu
     go_loopw [11] (fun vj w2 => ∃ (j1 : Nat), vj = .int .i64 j1 ∧ j1 ≤ j ∧ i1 ≤ j1 + 1 ∧ Hid (DAt w0 w2 g off n dk) ∧ Hid (Pt (fun x => ltN x p) a b i1 j1 dk)) (fun vj _ => (intOf vj).toNat)
     case atStart => exact ⟨j, rfl, Nat.le_refl _, hi1, HDx.out, HPu.out⟩
     case round =>
       obtain ⟨j1, rfl, hj1, hij1, HDv, HPv⟩ := hrel
       clear HDx HPu
       have hcw : ∀ t, t < n → wr.cell? ⟨g, off + t, none⟩ = some (.int .u32 (dk t)) := HDv.out.cell
       have hfw : ∀ t, t < n → wr.frozen? ⟨g, off + t, none⟩ = false := HDv.out.free
       by_cases hle2 : i1 ≤ j1
       · exact absurd hle2 (by omega)
       · go_wp2_with fail
         go_big_quiet (first | (go_at_call 111; refine Calls.quiet_of_same (less_any _ _ _)))
         go_wp2_with fail
         obtain ⟨wy, hwy⟩ : ∃ wy, wr.drewN nq = wy := ⟨_, rfl⟩
         have HDy : Hid (DAt w0 wy g off n dk) := hwy ▸ HDv.out.drewN nq
         rw [hwy]
         clear hwy hcw hfw HDv
         go_wp2_with fail
         have hcw : ∀ t, t < n → wy.cell? ⟨g, off + t, none⟩ = some (.int .u32 (dk t)) := HDy.out.cell
         have hfw : ∀ t, t < n → wy.frozen? ⟨g, off + t, none⟩ = false := HDy.out.free
         obtain ⟨v2, hy2⟩ := cell_set_some (p := ⟨g, off + j1, none⟩) (x := .int .u32 (dk a)) (hcw a (by omega))
         go_region
         all_goals go_wp2
         go_ret2
         have hl := HPv.out.last (by omega) (by omega) p HAk.out
         exact ⟨j1, _, swp dk j1 a, rfl, by omega, by omega, HDy.out.drew.swap j1 a, .step HSk.out (by omega) (by omega) (by omega) (by omega), fun k h1 h2 => by
           rw [hl.2.1]; exact ltN_t (hl.1 k h1 h2), fun k h1 h2 => by
           rw [hl.2.1]; exact ltN_f (hl.2.2 k h1 h2)⟩
end Go.Proofs.YtpigipgoopeeoaaGreatDoor
