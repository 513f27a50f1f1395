/- Is any list out of form? Is any flag down? (slices.ContainsFunc with repair.right, slices.Contains of flags.) -/
import Derived.Test.YtdblilhkojafgaaV14
namespace Go.Proofs.Ytdblilhkojafgaa
set_option linter.unusedVariables false
open Go.RowKit

def notOK (s : Ls) : Bool := !listOK none s.l
theorem cmp1_any (v : Value) (l : List Vs) (w : World) (hv : LRd w v l) (hl : l.length < 999999) :
    Calls Try.prog 35 #[v] w fun e w' => e = .returned (.bool (!listOK none l)) ∧ Mod (fun _ => False) w w' := by
  have HR := Lib.hid (rright_any v l w hv hl)
  obtain ⟨a, c, rfl, -⟩ := hv.row.shape
  clear hv
  generalize listOK none l = q at HR ⊢
  generalize l.length = n at HR ⊢
  go_enter Try.func35, Try.ntmps35
  go_wp2_with (go_at_call 36; refine HR.out.mono ?_; rintro e w3 ⟨rfl, hm⟩; have M3 := Lib.hid hm; clear hm)
  go_ret
  exact ⟨rfl, M3.out⟩

theorem take_any_succ {α : Type} {p : α → Bool} {k : Nat} {l : List α} {x : α} (h : (l.take k).any p = false) (hx : l[k]? = some x) (hn : p x = false) : (l.take (k + 1)).any p = false := by
  obtain ⟨hk, he⟩ := List.getElem?_eq_some_iff.1 hx
  rw [List.take_succ_eq_append_getElem hk, he, List.any_append, h]
  simp [hn]
theorem any_at {α : Type} {p : α → Bool} {k : Nat} {l : List α} {x : α} (hx : l[k]? = some x) (hn : p x = true) : l.any p = true :=
  List.any_eq_true.2 ⟨x, List.mem_of_getElem? hx, hn⟩

/-- A number that tells: not below nothing just if one is found. -/
def Tell (b : Bool) (e : Ending) : Prop := ∃ r : Int, e = .returned (.int .i64 r) ∧ decide (0 ≤ r) = b

set_option maxRecDepth 100000 in
set_option maxHeartbeats 1000000 in
theorem idxL_any (v : Value) (ls : List Ls) (w : World) (hv : LLRd w v ls) (hl : ∀ s ∈ ls, s.l.length < 999999) :
    Calls Try.prog 61 #[v, .func (.func 35) #[] #[]] w fun e w' => Tell (ls.any notOK) e ∧ Mod (fun _ => False) w w' := by
  have HV := Lib.hid hv
  have HL := Lib.hid hl
  obtain ⟨a, c, rfl, hc1, hc2, -⟩ := hv.row.shape
  clear hv hl
  obtain ⟨n, hn⟩ : ∃ n, n = ls.length := ⟨_, rfl⟩
  have HN := Lib.hid hn
  rw [← hn] at HV hc1 ⊢
  clear hn
  go_enter Try.func61, Try.ntmps61
  go_wp2
  go_loopw [8] (fun i wr => ∃ k : Nat, i = .int .i64 k ∧ k ≤ n ∧ (ls.take k).any notOK = false ∧ Mod (fun _ => False) w wr) (fun i _ => n - (intOf i).toNat)
  case atStart => exact ⟨0, rfl, Nat.zero_le _, by simp, Mod.refl _ _⟩
  case round =>
    obtain ⟨k, rfl, hk, hall, hm⟩ := hrel
    have HA := Lib.hid hall
    have HM := Lib.hid hm
    clear hall
    by_cases hkn : k < n
    · obtain ⟨x, hx⟩ : ∃ x, ls[k]? = some x := ⟨_, List.getElem?_eq_getElem (by rw [← HN.out]; exact hkn)⟩
      have HX := Lib.hid hx
      obtain ⟨b, off, rfl, hb, p0⟩ := HV.out.ent hx rfl
      have p0 := hm.cell p0
      have HC : Hid (Calls Try.prog 35 #[x.v] wr fun e w' => e = .returned (.bool (notOK x)) ∧ Mod (fun _ => False) wr w') := Lib.hid (cmp1_any x.v x.l wr ((HV.out.at hx).keep hm) (HL.out x (List.mem_of_getElem? hx)))
      obtain ⟨al, cl, hxv, -⟩ := (HV.out.at hx).row.shape
      clear hx hm
      obtain ⟨q, hq⟩ : ∃ q, notOK x = q := ⟨_, rfl⟩
      rw [hq] at HC
      have HQ := Lib.hid hq
      clear hq
      obtain ⟨xv, xl⟩ := x
      simp only at p0 HC hxv
      subst hxv
      cases q with
      | true =>
        have HF := Lib.hid (any_at HX.out HQ.out)
        go_wp2_with (go_at_call 35; refine HC.out.mono ?_; rintro e w3 ⟨rfl, hm⟩; have M3 := Lib.hid (HM.out.trans hm); clear hm)
        go_ret
        exact ⟨⟨_, rfl, by rw [HF.out]; simp⟩, M3.out⟩
      | false =>
        have HF := Lib.hid (take_any_succ HA.out HX.out HQ.out)
        go_wp2_with (go_at_call 35; refine HC.out.mono ?_; rintro e w3 ⟨rfl, hm⟩; have M3 := Lib.hid (HM.out.trans hm); clear hm)
        go_roundw
        case rel => exact ⟨k + 1, by go_num, by omega, HF.out, M3.out⟩
        case measure => simp [intOf]; omega
    · have HF : Hid (ls.any notOK = false) := Lib.hid (by
        have := HA.out
        rwa [List.take_of_length_le (by have := HN.out; omega)] at this)
      clear hm
      go_wp2
      go_ret
      exact ⟨⟨_, rfl, by rw [HF.out]; rfl⟩, HM.out⟩

theorem contL_any (v : Value) (ls : List Ls) (w : World) (hv : LLRd w v ls) (hl : ∀ s ∈ ls, s.l.length < 999999) :
    Calls Try.prog 34 #[v, .func (.func 35) #[] #[]] w fun e w' => e = .returned (.bool (ls.any notOK)) ∧ Mod (fun _ => False) w w' := by
  have HI := Lib.hid (idxL_any v ls w hv hl)
  obtain ⟨a, c, rfl, -⟩ := hv.row.shape
  clear hv hl
  generalize ls.any notOK = q at HI ⊢
  go_enter Try.func34, Try.ntmps34
  go_wp2_with (go_at_call 61; refine HI.out.mono ?_; rintro e w3 ⟨⟨r, rfl, hr⟩, hm⟩; have M3 := Lib.hid hm; have HR := Lib.hid hr; clear hm hr)
  go_ret
  exact ⟨ret_bool HR.out, M3.out⟩

set_option maxRecDepth 100000 in
set_option maxHeartbeats 1000000 in
theorem idxF_any (v : Value) (up : List Bool) (w : World) (hv : FRd w v up) :
    Calls Try.prog 62 #[v, .bool false] w fun e w' => Tell (up.any (!·)) e ∧ Mod (fun _ => False) w w' := by
  have HV := Lib.hid hv
  obtain ⟨a, c, rfl, hc1, hc2, -⟩ := (show RdS _ _ _ _ _ from hv).shape
  clear hv
  obtain ⟨n, hn⟩ : ∃ n, n = up.length := ⟨_, rfl⟩
  have HN := Lib.hid hn
  rw [← hn] at HV hc1 ⊢
  clear hn
  go_enter Try.func62, Try.ntmps62
  go_wp2
  go_loopw [8] (fun i wr => ∃ k : Nat, i = .int .i64 k ∧ k ≤ n ∧ (up.take k).any (!·) = false ∧ Mod (fun _ => False) w wr) (fun i _ => n - (intOf i).toNat)
  case atStart => exact ⟨0, rfl, Nat.zero_le _, by simp, Mod.refl _ _⟩
  case round =>
    obtain ⟨k, rfl, hk, hall, hm⟩ := hrel
    have HA := Lib.hid hall
    have HM := Lib.hid hm
    clear hall
    by_cases hkn : k < n
    · obtain ⟨x, hx⟩ : ∃ x, up[k]? = some x := ⟨_, List.getElem?_eq_getElem (by rw [← HN.out]; exact hkn)⟩
      have HX := Lib.hid hx
      obtain ⟨b, off, rfl, hb, p0⟩ := HV.out.ent hx rfl
      have p0 := hm.cell p0
      clear hx hm
      cases x with
      | false =>
        have HF : Hid (up.any (!·) = true) := Lib.hid (any_at HX.out rfl)
        go_wp2
        go_ret
        exact ⟨⟨_, rfl, by rw [HF.out]; simp⟩, HM.out⟩
      | true =>
        have HF : Hid ((up.take (k + 1)).any (!·) = false) := Lib.hid (take_any_succ HA.out HX.out rfl)
        go_wp2
        go_roundw
        case rel => exact ⟨k + 1, by go_num, by omega, HF.out, HM.out⟩
        case measure => simp [intOf]; omega
    · have HF : Hid (up.any (!·) = false) := Lib.hid (by
        have := HA.out
        rwa [List.take_of_length_le (by have := HN.out; omega)] at this)
      clear hm
      go_wp2
      go_ret
      exact ⟨⟨_, rfl, by rw [HF.out]; rfl⟩, HM.out⟩
theorem contF_any (v : Value) (up : List Bool) (w : World) (hv : FRd w v up) :
    Calls Try.prog 38 #[v, .bool false] w fun e w' => e = .returned (.bool (up.any (!·))) ∧ Mod (fun _ => False) w w' := by
  have HI := Lib.hid (idxF_any v up w hv)
  obtain ⟨a, c, rfl, -⟩ := (show RdS _ _ _ _ _ from hv).shape
  clear hv
  generalize up.any (!·) = q at HI ⊢
  go_enter Try.func38, Try.ntmps38
  go_wp2_with (go_at_call 62; refine HI.out.mono ?_; rintro e w3 ⟨⟨r, rfl, hr⟩, hm⟩; have M3 := Lib.hid hm; have HR := Lib.hid hr; clear hm hr)
  go_ret
  exact ⟨ret_bool HR.out, M3.out⟩
end Go.Proofs.Ytdblilhkojafgaa
