import Derived.Test.YtpigipgoopeeoaaGreatDoorMOn04
import Derived.Deep.DeepCutAuto
set_option linter.unusedVariables false
set_option linter.unusedSimpArgs false
namespace Go.Proofs.YtpigipgoopeeoaaGreatDoor
open Go.RowKit
theorem Srt.snoc {a i : Nat} {d : Nat → Nat} (h : Srt a i d) (hi : a < i) (hl : d (i - 1) ≤ d i) : Srt a (i + 1) d := by
 intro p q h1 h2 h3
 by_cases e : q = i
 · subst e
   by_cases e2 : p = q
   · subst e2; exact Nat.le_refl _
   · exact Nat.le_trans (h p (q - 1) h1 (by omega) (by omega)) hl
 · exact h p q h1 h2 (by omega)
def Low (a b : Nat) (d : Nat → Nat) : Prop := 0 < a → ∀ k, a ≤ k → k < b → d (a - 1) ≤ d k
theorem Low.keep {a b : Nat} {d e : Nat → Nat} (h : Low a b d) (hs : Sw a b d e) : Low a b e := fun h0 => by
 rw [hs.out (.inl (by omega))]
 exact hs.all (h h0)
set_option maxRecDepth 100000 in
set_option maxHeartbeats 12800000 in
theorem partial_any (g off cap n a b : Nat) (d : Nat → Nat) (w0 w : World) (hD : DAt w0 w g off n d) (hab : a < b) (hb : b ≤ n) (hn : n < 999999) (hlow : Low a b d) :
   Calls Tryz.prog 110 #[.slice (some ⟨g, off, none⟩) n cap, .int .i64 a, .int .i64 b] w fun e w' =>
     ∃ (q : Bool) (d' : Nat → Nat), e = .returned (.bool q) ∧ DAt w0 w' g off n d' ∧ Sw a b d d' ∧ (q = true → Srt a b d') := by
 have HD := Lib.hid hD
 have HL := Lib.hid hlow
 clear hD hlow
 go_enter Tryz.func110, Tryz.ntmps110
 go_wp2
 go_loopw [7, 8] (fun vi vj wr => ∃ (i jo : Nat) (dk : Nat → Nat), vi = .int .i64 i ∧ vj = .int .i64 jo ∧ jo ≤ 5 ∧ a < i ∧ i ≤ b ∧ Hid (DAt w0 wr g off n dk) ∧ Hid (Sw a b d dk) ∧ Hid (Srt a i dk)) (fun _ vj _ => 5 - (intOf vj).toNat)
 case atStart => exact ⟨a + 1, 0, d, by go_num, rfl, by omega, by omega, by omega, HD.out, Sw.refl, Srt.short (by omega)⟩
 case round =>
   obtain ⟨i, jo, dk, rfl, rfl, hjo, hai, hib, HDk, HSk, HOk⟩ := hrel
   by_cases hj5 : jo < 5
   · go_wp2
     go_loopw [7] (fun vi wr => ∃ i1 : Nat, vi = .int .i64 i1 ∧ a < i1 ∧ i1 ≤ b ∧ Hid (DAt w0 wr g off n dk) ∧ Hid (Srt a i1 dk)) (fun vi _ => b - (intOf vi).toNat)
     case atStart => exact ⟨i, rfl, hai, hib, HDk.out, HOk.out⟩
     case round =>
       obtain ⟨i1, rfl, hai1, hib1, HDi, HOi⟩ := hrel
       clear HDk HOk
       have hcw : ∀ t, t < n → wr.cell? ⟨g, off + t, none⟩ = some (.int .u32 (dk t)) := HDi.out.cell
       have hfw : ∀ t, t < n → wr.frozen? ⟨g, off + t, none⟩ = false := HDi.out.free
       by_cases hlt : i1 < b
       · have e1 : ((i1 : Int) == (b : Int)) = false := by simp; omega
         go_wp2_with fail
         go_big_quiet (first | (go_at_call 111; refine Calls.quiet_of_same (less_any _ _ _)))
         go_wp2_with fail
         · rename (!ltN (dk i1) (dk (i1 - 1))) = true => ht
           have hl : ltN (dk i1) (dk (i1 - 1)) = false := by simpa using ht
           clear ht
           go_wp2
           go_roundw
           case rel => exact ⟨i1 + 1, by go_num, by omega, by omega, HDi.out.drewN nq, HOi.out.snoc hai1 (ltN_f hl)⟩
           case measure => simp [intOf]; omega
         · go_ret
           exact ⟨false, dk, rfl, HDi.out.drewN nq, HSk.out, fun h => by cases h⟩
         · rename (!ltN (dk i1) (dk (i1 - 1))) = false => ht
           clear ht
           obtain ⟨wx, hwx⟩ : ∃ wx, wr.drewN nq = wx := ⟨_, rfl⟩
           have HDx : Hid (DAt w0 wx g off n dk) := hwx ▸ HDi.out.drewN nq
           rw [hwx]
           clear hwx hcw hfw HDi
           have hcw : ∀ t, t < n → wx.cell? ⟨g, off + t, none⟩ = some (.int .u32 (dk t)) := HDx.out.cell
           have hfw : ∀ t, t < n → wx.frozen? ⟨g, off + t, none⟩ = false := HDx.out.free
           go_region
           all_goals
             go_upto_if 61 with fail
             obtain ⟨wy, dy, hwy, HDy, HSy, HOy⟩ : ∃ (wy : World) (dy : Nat → Nat), ((wx.drew.setCell ⟨g, off + i1, none⟩ (.int .u32 (dk (i1 - 1)))).setCell ⟨g, off + (i1 - 1), none⟩ (.int .u32 (dk i1))) = wy ∧ Hid (DAt w0 wy g off n dy) ∧ Hid (Sw a b d dy) ∧ Hid (Srt a (i1 - 1) dy) :=
               ⟨_, swp dk i1 (i1 - 1), rfl, HDx.out.drew.swap i1 (i1 - 1), .step HSk.out (by omega) (by omega) (by omega) (by omega), (HOi.out.less (by omega)).keep (fun k h1 h2 => swp_other _ (by omega) (by omega))⟩
             have hwy' : ((wx.setCell ⟨g, off + i1, none⟩ (.int .u32 (dk (i1 - 1)))).setCell ⟨g, off + (i1 - 1), none⟩ (.int .u32 (dk i1))).drew = wy := hwy
             first | rw [hwy] | rw [hwy']
             clear hwy hwy' hcw hfw HDx HOi HSk
             go_cut [] (fun wx => ∃ d2, Hid (DAt w0 wx g off n d2) ∧ Hid (Sw a b d d2) ∧ Hid (Srt a i1 d2))
             case first =>
               by_cases h2 : a + 2 ≤ i1
               · go_wp2
                 go_loopw [9] (fun vj wr2 => ∃ (j : Nat) (dj : Nat → Nat), vj = .int .i64 j ∧ a ≤ j ∧ j ≤ i1 - 1 ∧ Hid (DAt w0 wr2 g off n dj) ∧ Hid (Sw a b d dj) ∧ Hid (Ins a j (i1 - 1) dj)) (fun vj _ => (intOf vj).toNat)
                 case atStart => exact ⟨i1 - 1, dy, by congr 1; omega, by omega, Nat.le_refl _, HDy.out, HSy.out, Ins.start HOy.out⟩
                 case round =>
                   obtain ⟨j, dj, rfl, haj, hji, HDj, HSj, HIj⟩ := hrel
                   have hcw : ∀ t, t < n → wr.cell? ⟨g, off + t, none⟩ = some (.int .u32 (dj t)) := HDj.out.cell
                   have hfw : ∀ t, t < n → wr.frozen? ⟨g, off + t, none⟩ = false := HDj.out.free
                   have HE : Hid (i1 - 1 + 1 = i1) := Lib.hid (by omega)
                   by_cases hj1 : 1 ≤ j
                   · go_wp2_with fail
                     go_big_quiet (first | (go_at_call 111; refine Calls.quiet_of_same (less_any _ _ _)))
                     go_wp2_with fail
                     · rename (!ltN (dj j) (dj (j - 1))) = true => ht
                       have hl : ltN (dj j) (dj (j - 1)) = false := by simpa using ht
                       clear ht
                       go_wp2
                       go_meet
                       exact ⟨dj, HDj.out.drewN nq, HSj.out, HE.out ▸ HIj.out.done (.inr (ltN_f hl)) haj hji⟩
                     · rename (!ltN (dj j) (dj (j - 1))) = false => ht
                       have hl : ltN (dj j) (dj (j - 1)) = true := by simpa using ht
                       clear ht
                       have hja : a < j := by
                         rcases Nat.lt_or_ge a j with h | h
                         · exact h
                         · have e : j = a := by omega
                           subst e
                           have h3 := (HL.out.keep HSj.out) (by omega) j (Nat.le_refl _) (by omega)
                           have h4 := ltN_t hl
                           omega
                       go_region
                       all_goals go_wp2
                       go_roundw
                       case rel => exact ⟨j - 1, swp dj j (j - 1), by congr 1; omega, by omega, by omega, (HDj.out.drewN _).swap j (j - 1), .step HSj.out (by omega) (by omega) (by omega) (by omega), HIj.out.go hja hji (ltN_t hl)⟩
                       case measure => simp [intOf]; omega
                   · go_wp2
                     go_meet
                     exact ⟨dj, HDj.out, HSj.out, HE.out ▸ HIj.out.done (.inl (by omega)) haj hji⟩
               · go_wp2
                 go_meet
                 exact ⟨dy, HDy.out, HSy.out, Srt.short (by omega)⟩
             case rest =>
               obtain ⟨d2, HD2, HS2, HO2⟩ := hcut
               clear HDy HSy HOy
               by_cases h2 : i1 + 2 ≤ b
               · go_wp2
                 go_loopw [10] (fun vj wr2 => ∃ (j : Nat) (dj : Nat → Nat), vj = .int .i64 j ∧ i1 < j ∧ j ≤ b ∧ Hid (DAt w0 wr2 g off n dj) ∧ Hid (Sw i1 b d2 dj)) (fun vj _ => b - (intOf vj).toNat)
                 case atStart => exact ⟨i1 + 1, d2, by go_num, by omega, by omega, HD2.out, Sw.refl⟩
                 case round =>
                   obtain ⟨j, dj, rfl, hij, hjb, HDj, HSj⟩ := hrel
                   have hcw : ∀ t, t < n → wr.cell? ⟨g, off + t, none⟩ = some (.int .u32 (dj t)) := HDj.out.cell
                   have hfw : ∀ t, t < n → wr.frozen? ⟨g, off + t, none⟩ = false := HDj.out.free
                   have FIN : Hid (Sw a b d dj ∧ Srt a i1 dj) := ⟨HS2.out.trans (HSj.out.mono (by omega) (Nat.le_refl _)), HO2.out.keep (fun k h1 h2 => HSj.out.out (.inl h2))⟩
                   by_cases hj1 : j < b
                   · go_wp2_with fail
                     go_big_quiet (first | (go_at_call 111; refine Calls.quiet_of_same (less_any _ _ _)))
                     go_wp2_with fail
                     · rename (!ltN (dj j) (dj (j - 1))) = true => ht
                       clear ht
                       go_wp2
                       go_roundw
                       case rel => exact ⟨i1, jo + 1, dj, rfl, by go_num, by omega, by omega, by omega, HDj.out.drewN nq, FIN.out.1, FIN.out.2⟩
                       case measure => simp [intOf]; omega
                     · rename (!ltN (dj j) (dj (j - 1))) = false => ht
                       clear ht
                       go_region
                       all_goals go_wp2
                       go_roundw
                       case rel => exact ⟨j + 1, swp dj j (j - 1), by go_num, by omega, by omega, (HDj.out.drewN _).swap j (j - 1), .step HSj.out (by omega) (by omega) (by omega) (by omega)⟩
                       case measure => simp [intOf]; omega
                   · go_wp2
                     go_roundw
                     case rel => exact ⟨i1, jo + 1, dj, rfl, by go_num, by omega, by omega, by omega, HDj.out, FIN.out.1, FIN.out.2⟩
                     case measure => simp [intOf]; omega
               · go_wp2
                 go_roundw
                 case rel => exact ⟨i1, jo + 1, d2, rfl, by go_num, by omega, by omega, by omega, HD2.out, HS2.out, HO2.out⟩
                 case measure => simp [intOf]; omega
       · have e1 : ((i1 : Int) == (b : Int)) = true := by simp; omega
         go_wp2_with fail
         go_big_quiet (first | (go_at_call 111; refine Calls.quiet_of_same (less_any _ _ _)))
         go_wp2
         go_ret
         exact ⟨true, dk, rfl, HDi.out.drewN nq, HSk.out, fun _ => HOi.out.less (by omega)⟩
   · go_wp2
     go_ret
     exact ⟨false, dk, rfl, HDk.out, HSk.out, fun h => by cases h⟩
def Fin' (a b : Nat) (d0 : Nat → Nat) (a' b' : Nat) (dk : Nat → Nat) : Prop := a ≤ a' ∧ b' ≤ b ∧ Sw a b d0 dk ∧ ∀ d', Sw a' b' dk d' → Srt a' b' d' → Srt a b d'
section
variable {a b a' b' mid : Nat} {d d4 d5 d6 : Nat → Nat}
theorem Fin'.start (a b : Nat) (d : Nat → Nat) : Fin' a b d a b d := ⟨Nat.le_refl _, Nat.le_refl _, .refl, fun _ _ h => h⟩
theorem Fin'.end (h : Fin' a b d a' b' d4) (hs : Sw a' b' d4 d5) (ho : Srt a' b' d5) : Sw a b d d5 ∧ Srt a b d5 := ⟨h.2.2.1.trans (hs.mono h.1 h.2.1), h.2.2.2 _ hs ho⟩
theorem Fin'.more (h : Fin' a b d a' b' d4) (hs : Sw a' b' d4 d5) : Fin' a b d a' b' d5 := ⟨h.1, h.2.1, h.2.2.1.trans (hs.mono h.1 h.2.1), fun d' h1 h2 => h.2.2.2 d' (hs.trans h1) h2⟩
theorem Fin'.eq (h : Fin' a b d a' b' d4) (hl : Low a' b' d4) (h0 : 0 < a') {p : Nat} (hp : d4 p ≤ d4 (a' - 1)) (hm : a' < mid) (hm2 : mid ≤ b') (hs : Sw a' b' d4 d5) (h1 : ∀ k, a' ≤ k → k < mid → d5 k ≤ d4 p) (h2 : ∀ k, mid ≤ k → k < b' → d4 p < d5 k) :
   Fin' a b d mid b' d5 ∧ Low mid b' d5 := by
 refine ⟨⟨by have := h.1; omega, h.2.1, h.2.2.1.trans (hs.mono h.1 h.2.1), fun d' hs' ho' => ?_⟩, fun _ k hk1 hk2 => ?_⟩
 · refine h.2.2.2 d' (hs.trans (hs'.mono (by omega) (Nat.le_refl _))) ?_
   have low := hl.keep hs h0
   have e1 : d5 (a' - 1) = d4 (a' - 1) := hs.out (.inl (by omega))
   have keep : ∀ k, k < mid → d' k = d5 k := fun k hk => hs'.out (.inl hk)
   have up := hs'.all (p := fun x => d4 p < x) h2
   refine Srt.join (m := mid) (fun i j hi hij hj => ?_) ho' (fun i j hi him hmj hj => ?_)
   · rw [keep i (by omega), keep j hj]
     have a1 := h1 i hi (by omega)
     have a2 := low j (by omega) (by omega)
     omega
   · rw [keep i him]
     have a1 := h1 i hi him
     have a2 := up j hmj hj
     omega
 · have a1 := h1 (mid - 1) (by omega) (by omega)
   have a2 := h2 k hk1 hk2
   omega
theorem Fin'.left (h : Fin' a b d a' b' d4) (hm : a' ≤ mid) (hm2 : mid < b') (hs : Sw a' b' d4 d5) (h1 : ∀ k, a' ≤ k → k < mid → d5 k < d5 mid) (h2 : ∀ k, mid < k → k < b' → d5 mid ≤ d5 k) (hs6 : Sw a' mid d5 d6) (ho6 : Srt a' mid d6) :
   Fin' a b d (mid + 1) b' d6 ∧ Low (mid + 1) b' d6 := by
 have e1 : d6 mid = d5 mid := hs6.out (.inr (Nat.le_refl _))
 have e2 : ∀ k, mid < k → d6 k = d5 k := fun k hk => hs6.out (.inr (by omega))
 refine ⟨⟨by have := h.1; omega, h.2.1, (h.2.2.1.trans (hs.mono h.1 h.2.1)).trans (hs6.mono h.1 (by have := h.2.1; omega)), fun d' hs' ho' => ?_⟩, fun _ k hk1 hk2 => ?_⟩
 · refine h.2.2.2 d' ((hs.trans (hs6.mono (Nat.le_refl _) (by omega))).trans (hs'.mono (by omega) (Nat.le_refl _))) ?_
   have keep : ∀ k, k < mid + 1 → d' k = d6 k := fun k hk => hs'.out (.inl hk)
   have up := hs'.all (p := fun x => d5 mid ≤ x) (fun k hk1 hk2 => by rw [e2 k (by omega)]; exact h2 k (by omega) hk2)
   have lo := hs6.all (p := fun x => x < d5 mid) h1
   refine Srt.join (m := mid + 1) (fun i j hi hij hj => ?_) ho' (fun i j hi him hmj hj => ?_)
   · rw [keep i (by omega), keep j hj]
     by_cases ej : j = mid
     · subst ej
       by_cases ei : i = j
       · subst ei; exact Nat.le_refl _
       · have := lo i hi (by omega)
         omega
     · exact ho6 i j hi hij (by omega)
   · rw [keep i him]
     have a2 := up j hmj hj
     by_cases ei : i = mid
     · subst ei; omega
     · have := lo i hi (by omega)
       omega
 · rw [show mid + 1 - 1 = mid by omega, e1, e2 k (by omega)]
   exact h2 k (by omega) hk2
theorem Fin'.right (h : Fin' a b d a' b' d4) (hl : Low a' b' d4) (hm : a' ≤ mid) (hm2 : mid < b') (hs : Sw a' b' d4 d5) (h1 : ∀ k, a' ≤ k → k < mid → d5 k < d5 mid) (h2 : ∀ k, mid < k → k < b' → d5 mid ≤ d5 k) (hs6 : Sw (mid + 1) b' d5 d6) (ho6 : Srt (mid + 1) b' d6) :
   Fin' a b d a' mid d6 ∧ Low a' mid d6 := by
 have e1 : ∀ k, k ≤ mid → d6 k = d5 k := fun k hk => hs6.out (.inl (by omega))
 refine ⟨⟨h.1, by have := h.2.1; omega, (h.2.2.1.trans (hs.mono h.1 h.2.1)).trans (hs6.mono (by have := h.1; omega) h.2.1), fun d' hs' ho' => ?_⟩, fun h0 k hk1 hk2 => ?_⟩
 · refine h.2.2.2 d' ((hs.trans (hs6.mono (by omega) (Nat.le_refl _))).trans (hs'.mono (Nat.le_refl _) (by omega))) ?_
   have keep : ∀ k, mid ≤ k → d' k = d6 k := fun k hk => hs'.out (.inr hk)
   have up := hs6.all (p := fun x => d5 mid ≤ x) (fun k hk1 hk2 => h2 k (by omega) hk2)
   have lo := hs'.all (p := fun x => x < d5 mid) (fun k hk1 hk2 => by rw [e1 k (by omega)]; exact h1 k hk1 hk2)
   refine Srt.join (m := mid) ho' (fun i j hi hij hj => ?_) (fun i j hi him hmj hj => ?_)
   · rw [keep i hi, keep j (by omega)]
     by_cases ei : i = mid
     · subst ei
       by_cases ej : j = i
       · subst ej; exact Nat.le_refl _
       · rw [e1 i (Nat.le_refl _)]; exact up j (by omega) hj
     · exact ho6 i j (by omega) hij hj
   · rw [keep j hmj]
     have a1 := lo i hi him
     by_cases ej : j = mid
     · subst ej; rw [e1 j (Nat.le_refl _)]; omega
     · have := up j (by omega) hj
       omega
 · rw [e1 k (by omega), e1 (a' - 1) (by omega)]
   exact (hl.keep hs) h0 k hk1 (by omega)
theorem Low.less (h : Low a b d) {b1 : Nat} (hb : b1 ≤ b) : Low a b1 d := fun h0 k h1 h2 => h h0 k h1 (by omega)
theorem Low.behind (h2 : ∀ k, mid < k → k < b' → d5 mid ≤ d5 k) : Low (mid + 1) b' d5 := fun _ k hk1 hk2 => by
 rw [show mid + 1 - 1 = mid by omega]; exact h2 k (by omega) hk2
end
open Go.RowKit
def SortsTo (g off cap n : Nat) (w0 : World) (m : Nat) : Prop :=
 ∀ (a b lim : Nat) (d : Nat → Nat) (w : World), DAt w0 w g off n d → a ≤ b → b ≤ n → b - a < m → lim ≤ 64 → Low a b d →
   Calls Tryz.prog 92 #[.slice (some ⟨g, off, none⟩) n cap, .int .i64 a, .int .i64 b, .int .i64 lim] w fun e w' =>
     e = .returned (.tuple #[]) ∧ ∃ d', DAt w0 w' g off n d' ∧ Sw a b d d' ∧ Srt a b d'
set_option maxRecDepth 100000 in
set_option maxHeartbeats 25600000 in
theorem pdq_step (g off cap n : Nat) (w0 : World) (hn : n < 999999) (m : Nat) (IH : SortsTo g off cap n w0 m) : SortsTo g off cap n w0 (m + 1) := by
 intro a b lim d w hD hab hb hm hlim hlow
 have HI := Lib.hid IH
 have HD := Lib.hid hD
 have HL := Lib.hid hlow
 clear IH hD hlow
 go_enter Tryz.func92, Tryz.ntmps92
 go_wp2
 go_loopw [1, 2, 3, 8, 9] (fun va vb vl v8 v9 wr => ∃ (a' b' l' : Nat) (p8 p9 : Bool) (dk : Nat → Nat), va = .int .i64 a' ∧ vb = .int .i64 b' ∧ vl = .int .i64 l' ∧ v8 = .bool p8 ∧ v9 = .bool p9 ∧ a ≤ a' ∧ a' ≤ b' ∧ b' ≤ b ∧ l' ≤ 64 ∧ Hid (DAt w0 wr g off n dk) ∧ Hid (Fin' a b d a' b' dk) ∧ Hid (Low a' b' dk)) (fun va vb _ _ _ _ => (intOf vb).toNat - (intOf va).toNat)
 case atStart => exact ⟨a, b, lim, true, true, d, rfl, rfl, rfl, rfl, rfl, Nat.le_refl _, hab, Nat.le_refl _, hlim, HD.out, Fin'.start _ _ _, HL.out⟩
 case round =>
   obtain ⟨a', b', l', p8, p9, dk, rfl, rfl, rfl, rfl, rfl, ha, hab', hb', hl', HDk, HFk, HLk⟩ := hrel
   by_cases h12 : b' ≤ a' + 12
   · have HC := Lib.hid (insertion_any g off cap n a' b' dk w0 wr HDk.out hab' (by omega) hn)
     go_wp2_with (first | (go_at_call 105; refine HC.out.mono ?_; (rintro e w1 ⟨rfl, d1, hd1, hs1, ho1⟩); have HD1 := Lib.hid hd1; have HE1 := Lib.hid (HFk.out.end hs1 ho1); clear hd1 hs1 ho1))
     (try simp only [Exit.inBlock, Exit.then])
     refine bodyPost_ret (results_none rfl _ _ _) rfl ?_
     exact ⟨rfl, d1, HD1.out, HE1.out.1, HE1.out.2⟩
   · rcases Nat.eq_zero_or_pos l' with hl0 | hl0
     · subst hl0
       have HC := Lib.hid (heap_any g off cap n a' b' dk w0 wr HDk.out (by omega) (by omega) hn)
       go_wp2_with (first | (go_at_call 106; refine HC.out.mono ?_; (rintro e w1 ⟨rfl, d1, hd1, hs1, ho1⟩); have HD1 := Lib.hid hd1; have HE1 := Lib.hid (HFk.out.end hs1 ho1); clear hd1 hs1 ho1))
       (try simp only [Exit.inBlock, Exit.then])
       refine bodyPost_ret (results_none rfl _ _ _) rfl ?_
       exact ⟨rfl, d1, HD1.out, HE1.out.1, HE1.out.2⟩
     · have hlz : ((l' : Int) == 0) = false := by simp; omega
       go_upto_if 35 with fail
       go_cut [3] (fun v3 wx => ∃ (l2 : Nat) (d2 : Nat → Nat), v3 = .int .i64 l2 ∧ l2 ≤ 64 ∧ Hid (DAt w0 wx g off n d2) ∧ Hid (Sw a' b' dk d2))
       case first =>
         have HC := Lib.hid (break_any g off cap n a' b' dk w0 wr HDk.out (by omega) (by omega) hn)
         cases p8
         · go_wp2_with (first | (go_at_call 107; refine HC.out.mono ?_; (rintro e w1 ⟨rfl, d1, hd1, hs1⟩); have HD1 := Lib.hid hd1; have HS1 := Lib.hid hs1; clear hd1 hs1))
           go_meet
           exact ⟨l' - 1, d1, by congr 1; omega, by omega, HD1.out, HS1.out⟩
         · go_wp2
           go_meet
           exact ⟨l', dk, rfl, hl', HDk.out, Sw.refl⟩
       case rest =>
         obtain ⟨l2, d2, rfl, hl2, HD2, HS2⟩ := hcut
         clear hlz hl0 hl'
         have HC := Lib.hid (pivot_any g off cap n a' b' d2 w0 wc HD2.out (by omega) (by omega) hn)
         go_upto_if 50 with (first | (go_at_call 108; refine HC.out.mono ?_; (rintro e w1 ⟨p, h, rfl, hp1, hp2, hd3⟩); have HD3 := Lib.hid hd3; clear hd3))
         go_cut [11, 12] (fun v11 v12 wx => ∃ (p3 : Nat) (h3 : Int) (d3 : Nat → Nat), v11 = .int .i64 p3 ∧ v12 = .int .i64 h3 ∧ a' ≤ p3 ∧ p3 < b' ∧ Hid (DAt w0 wx g off n d3) ∧ Hid (Sw a' b' dk d3))
         case first =>
           by_cases hh : h = 2
           · subst hh
             have HR := Lib.hid (fun w1 h => reverse_any g off cap n a' b' d2 w0 w1 h (by omega) (by omega) hn)
             go_wp2_with (first | (go_at_call 109; refine (HR.out _ HD3.out).mono ?_; (rintro e w2 ⟨rfl, d4, hd4, hs4⟩); have HD4 := Lib.hid hd4; have HS4 := Lib.hid hs4; clear hd4 hs4))
             go_meet
             exact ⟨b' - 1 - (p - a'), _, d4, by congr 1; omega, rfl, by omega, by omega, HD4.out, HS2.out.trans HS4.out⟩
           · have hh2 : (h == 2) = false := by simpa using hh
             go_wp2
             go_meet
             exact ⟨p, h, d2, rfl, rfl, hp1, hp2, HD3.out, HS2.out⟩
         case rest =>
           clear HC HD3 hp1 hp2 HD2 HS2
           obtain ⟨p3, h3, d3, rfl, rfl, hp1, hp2, HD3, HS3⟩ := hcut
           go_upto_region 15 with fail
           go_cut [68] (fun v wx => ∃ q : Bool, v = .bool q ∧ Hid (DAt w0 wx g off n d3))
           case first =>
             by_cases hh : h3 = 1
             · subst hh
               cases p8 <;> cases p9 <;> (go_wp2; go_meet; exact ⟨_, rfl, HD3.out⟩)
             · have hh2 : (h3 == 1) = false := by simpa using hh
               cases p8 <;> cases p9 <;> (go_wp2; go_meet; exact ⟨_, rfl, HD3.out⟩)
           case rest =>
             clear HD3
             obtain ⟨q, rfl, HD3⟩ := hcut
             go_upto_if 68 with fail
             go_cut [] (fun wx => ∃ (d4 : Nat → Nat), Hid (DAt w0 wx g off n d4) ∧ Hid (Sw a' b' dk d4))
             case first =>
               cases q
               · go_wp2
                 go_meet
                 exact ⟨d3, HD3.out, HS3.out⟩
               · have HC := Lib.hid (partial_any g off cap n a' b' d3 w0 _ HD3.out (by omega) (by omega) hn (HLk.out.keep HS3.out))
                 go_wp2_with (first | (go_at_call 110; refine HC.out.mono ?_; (rintro e w2 ⟨q2, d4, rfl, hd4, hs4, ho4⟩); have HD4 := Lib.hid hd4; have HS4 := Lib.hid hs4; have HO4 := Lib.hid ho4; clear hd4 hs4 ho4))
                 · have HE := Lib.hid (HFk.out.end (HS3.out.trans HS4.out) (HO4.out (by assumption)))
                   (try simp only [Exit.inBlock, Exit.then])
                   refine bodyPost_ret (results_none rfl _ _ _) rfl ?_
                   exact ⟨rfl, d4, HD4.out, HE.out.1, HE.out.2⟩
                 · go_meet
                   exact ⟨d4, HD4.out, HS3.out.trans HS4.out⟩
             case rest =>
               clear HD3 HS3
               obtain ⟨d4, HD4, HS4⟩ := hcut
               go_upto_region 17 with fail
               go_cut [87] (fun v wx => ∃ q : Bool, v = .bool q ∧ (q = true → 0 < a' ∧ d4 p3 ≤ d4 (a' - 1)) ∧ Hid (DAt w0 wx g off n d4))
               case first =>
                 have hcw : ∀ t, t < n → wc.cell? ⟨g, off + t, none⟩ = some (.int .u32 (d4 t)) := HD4.out.cell
                 have hfw : ∀ t, t < n → wc.frozen? ⟨g, off + t, none⟩ = false := HD4.out.free
                 by_cases ha0 : 0 < a'
                 · go_big_quiet (first | (go_at_call 111; refine Calls.quiet_of_same (less_any _ _ _)))
                   go_wp2_with fail
                   go_meet
                   exact ⟨_, rfl, fun h => ⟨ha0, ltN_f (by simpa using h)⟩, HD4.out.drewN nq⟩
                 · go_big_quiet (first | (go_at_call 111; refine Calls.quiet_of_same (less_any _ _ _)))
                   go_wp2_with fail
                   go_meet
                   exact ⟨_, rfl, fun h => (by cases h), HD4.out.drewN nq⟩
               case rest =>
                 clear HD4
                 obtain ⟨q, rfl, hq, HD4⟩ := hcut
                 have HQ := Lib.hid hq
                 clear hq
                 have HF4 := Lib.hid (HFk.out.more HS4.out)
                 have HL4 := Lib.hid (HLk.out.keep HS4.out)
                 cases q
                 · have HC := Lib.hid (part_any g off cap n a' b' p3 d4 w0 _ HD4.out hp1 hp2 (by omega) hn)
                   go_wp2_with (first
                     | (have h := HD6; clear h; fail)
                     | (have h := HD5; clear h; go_at_call 92; first
                         | (rw [EM.out]; refine (HI.out m1 b' l2 d5 _ HD5.out hm1 (by omega) (by omega) hl2 HLR.out).mono ?_; (rintro e w6 ⟨rfl, d6, hd6, hs6, ho6⟩); have HD6 := Lib.hid hd6; have HG6 : Hid (Sw (mid + 1) b' d5 d6 ∧ Srt (mid + 1) b' d6) := Lib.hid (by rw [← HM1.out]; exact ⟨hs6, ho6⟩); clear hd6 hs6 ho6)
                         | (refine (HI.out a' mid l2 d5 _ HD5.out hmid1 (by omega) (by omega) hl2 HLL.out).mono ?_; (rintro e w6 ⟨rfl, d6, hd6, hs6, ho6⟩); have HD6 := Lib.hid hd6; have HG6 : Hid (Sw a' mid d5 d6 ∧ Srt a' mid d6) := ⟨hs6, ho6⟩; clear hd6 hs6 ho6))
                     | (go_at_call 113; refine HC.out.mono ?_; (rintro e w5 ⟨mid, q5, d5, rfl, hmid1, hmid2, hd5, hs5, hlo5, hhi5⟩); have HD5 := Lib.hid hd5; have HS5 := Lib.hid hs5; have HLO := Lib.hid hlo5; have HHI := Lib.hid hhi5; (obtain ⟨m1, hm1'⟩ : ∃ m1, m1 = mid + 1 := ⟨_, rfl⟩); have HM1 := Lib.hid hm1'; have EM : Hid ((mid : Int) + 1 = (m1 : Int)) := Lib.hid (by omega); have hm1 : m1 ≤ b' := (by omega); have hm2 : mid < m1 := (by omega); have HLR : Hid (Low m1 b' d5) := Lib.hid (by rw [hm1']; exact Low.behind hhi5); have HLL : Hid (Low a' mid d5) := Lib.hid ((HL4.out.keep hs5).less (by omega)); clear hd5 hs5 hlo5 hhi5 hm1'))
                   · have HR := Lib.hid (HF4.out.left hmid1 hmid2 HS5.out HLO.out HHI.out HG6.out.1 HG6.out.2)
                     exact ⟨⟨mid + 1, b', l2, _, _, d6, by go_num, rfl, rfl, rfl, rfl, by omega, by omega, hb', hl2, HD6.out, HR.out.1, HR.out.2⟩, by simp only [intOf]; omega⟩
                   · have HR := Lib.hid (HF4.out.right HL4.out hmid1 hmid2 HS5.out HLO.out HHI.out HG6.out.1 HG6.out.2)
                     exact ⟨⟨a', mid, l2, _, _, d6, rfl, rfl, rfl, rfl, rfl, by omega, by omega, by omega, hl2, HD6.out, HR.out.1, HR.out.2⟩, by simp only [intOf]; omega⟩
                 · have HC := Lib.hid (partEq_any g off cap n a' b' p3 d4 w0 _ HD4.out hp1 hp2 (by omega) hn)
                   go_wp2_with (first | (go_at_call 112; refine HC.out.mono ?_; (rintro e w5 ⟨mid, d5, rfl, hm1, hm2, hd5, hs5, h51, h52⟩); have HD5 := Lib.hid hd5; have HE5 := Lib.hid (HF4.out.eq HL4.out (HQ.out rfl).1 (HQ.out rfl).2 hm1 hm2 hs5 h51 h52); clear hd5 hs5 h51 h52))
                   go_roundw
                   case rel => exact ⟨mid, b', l2, p8, p9, d5, rfl, rfl, rfl, rfl, rfl, by omega, by omega, hb', hl2, HD5.out, HE5.out.1, HE5.out.2⟩
                   case measure => simp [intOf]; omega
theorem pdq_any (g off cap n : Nat) (w0 : World) (hn : n < 999999) : ∀ m, SortsTo g off cap n w0 m
 | 0 => fun a b lim d w hD hab hb hm => by omega
 | m + 1 => pdq_step g off cap n w0 hn m (pdq_any g off cap n w0 hn m)
set_option maxRecDepth 100000 in
theorem sort_any (g off cap n : Nat) (d : Nat → Nat) (w0 w : World) (hD : DAt w0 w g off n d) (hn : n < 999999) :
   Calls Tryz.prog 78 #[.slice (some ⟨g, off, none⟩) n cap] w fun e w' =>
     e = .returned (.tuple #[]) ∧ ∃ d', DAt w0 w' g off n d' ∧ Sw 0 n d d' ∧ Srt 0 n d' := by
 have HC := Lib.hid (pdq_any g off cap n w0 hn (n + 1) 0 n (Sort.bitsLen n) d w hD (Nat.zero_le _) (Nat.le_refl _) (by omega) (by have := bitsLen_small hn; omega) (fun h => by omega))
 have HL := Lib.hid (len_any n hn)
 generalize Sort.bitsLen n = L at HC HL
 clear hD
 go_enter Tryz.func78, Tryz.ntmps78
 go_wp2_with (first
   | (go_at_call 93; refine (HL.out _).mono ?_; (rintro e w1 ⟨rfl, rfl⟩))
   | (go_at_call 92; refine HC.out.mono ?_; (rintro e w2 ⟨rfl, d1, hd1, hs1, ho1⟩); have HD1 := Lib.hid hd1; have HS1 := Lib.hid hs1; have HO1 := Lib.hid ho1; clear hd1 hs1 ho1))
 go_end0
 exact ⟨rfl, d1, HD1.out, HS1.out, HO1.out⟩
end Go.Proofs.YtpigipgoopeeoaaGreatDoor
