/- ghost.Cuts: who has a half that leads elsewhere. -/
import Derived.Test.YtdblilhkojafgaaG14
import Derived.Maps.RangeWalk
namespace Go.Proofs.Ytdblilhkojafgaa
set_option linter.unusedVariables false
open Go.RowKit Go.Maps

def cutB (H : Names) (f : Nat) : Bool := decide (0 < ofC H (tot H) f)
/-- A tally, and a box with a pointer to it. -/
structure PtAt (w : World) (bt g bh bn : Nat) (H : Names) (m : Nat) : Prop where
  tal : TalAt w g bh bn H m
  ptr : w.heap[bt]? = some (.cells #[.pointer (some ⟨g, 0, none⟩)] 71 (0, 0))
theorem PtAt.keep {w w' : World} {bt g bh bn : Nat} {H : Names} {m : Nat} (h : PtAt w bt g bh bn H m) (mm : Mod (fun _ => False) w w') : PtAt w' bt g bh bn H m := ⟨h.tal.keep mm, mm.heap h.ptr (fun f => f)⟩
theorem cuts1_any (bt g bh bn : Nat) (H : Names) (m f : Nat) (w : World) (hP : PtAt w bt g bh bn H m) (hf : f < 4294967296) :
    Calls Try.prog 51 #[.int .u32 (f : Int), .pointer (some ⟨bt, 0, none⟩)] w fun e w' => e = .returned (.bool (cutB H f)) ∧ Mod (fun _ => False) w w' := by
  have HO := Lib.hid (talOf g bh bn H m f w hP.tal hf)
  have c0 := cell_of_row hP.ptr 0
  simp at c0
  clear hP
  unfold cutB
  generalize ofC H (tot H) f = q at HO ⊢
  go_enter Try.func51, Try.ntmps51
  go_wp2_with (go_at_call 29; refine HO.out.mono ?_; rintro e w3 ⟨rfl, hm⟩; have M3 := Lib.hid hm; clear hm)
  go_ret
  exact ⟨ret_bool (by simp), M3.out⟩

set_option maxRecDepth 100000 in
set_option maxHeartbeats 1000000 in
theorem idxU_any (v : Value) (l : List Nat) (bt g bh bn : Nat) (H : Names) (m : Nat) (w : World) (hv : RdS w 1 v l.length (l.map (keyV .u32))) (hl : ∀ f ∈ l, f < 4294967296) (hP : PtAt w bt g bh bn H m) :
    Calls Try.prog 69 #[v, .func (.func 51) #[] #[.pointer (some ⟨bt, 0, none⟩)]] w fun e w' => Tell (l.any (cutB H)) e ∧ Mod (fun _ => False) w w' := by
  have HV := Lib.hid hv
  have HL := Lib.hid hl
  have HPT := Lib.hid hP
  obtain ⟨a, c, rfl, hc1, hc2, -⟩ := hv.shape
  clear hv hl hP
  obtain ⟨n, hn⟩ : ∃ n, n = l.length := ⟨_, rfl⟩
  have HN := Lib.hid hn
  rw [← hn] at HV hc1 ⊢
  clear hn
  go_enter Try.func69, Try.ntmps69
  go_wp2
  go_loopw [8] (fun i wr => ∃ k : Nat, i = .int .i64 k ∧ k ≤ n ∧ (l.take k).any (cutB H) = false ∧ Mod (fun _ => False) w wr) (fun i _ => n - (intOf i).toNat)
  case atStart => exact ⟨0, rfl, Nat.zero_le _, by simp, Mod.refl _ _⟩
  case round =>
    obtain ⟨k, rfl, hk, hall, hm⟩ := hrel
    have HA := Lib.hid hall
    have HM := Lib.hid hm
    clear hall
    by_cases hkn : k < n
    · obtain ⟨x, hx⟩ : ∃ x, l[k]? = some x := ⟨_, List.getElem?_eq_getElem (by rw [← HN.out]; exact hkn)⟩
      have HX := Lib.hid hx
      obtain ⟨b, off, rfl, hb, p0⟩ := num_ent HV.out hx rfl
      have p0 := hm.cell p0
      have HC := Lib.hid (cuts1_any bt g bh bn H m x wr (HPT.out.keep hm) (HL.out x (List.mem_of_getElem? hx)))
      clear hx hm
      obtain ⟨q, hq⟩ : ∃ q, cutB H x = q := ⟨_, rfl⟩
      rw [hq] at HC
      have HQ := Lib.hid hq
      clear hq
      cases q with
      | true =>
        have HF := Lib.hid (any_at HX.out HQ.out)
        go_wp2_with (go_at_call 51; refine HC.out.mono ?_; rintro e w3 ⟨rfl, hm⟩; have M3 := Lib.hid (HM.out.trans hm); clear hm)
        go_ret
        exact ⟨⟨_, rfl, by rw [HF.out]; simp⟩, M3.out⟩
      | false =>
        have HF := Lib.hid (take_any_succ HA.out HX.out HQ.out)
        go_wp2_with (go_at_call 51; refine HC.out.mono ?_; rintro e w3 ⟨rfl, hm⟩; have M3 := Lib.hid (HM.out.trans hm); clear hm)
        go_roundw
        case rel => exact ⟨k + 1, by go_num, by omega, HF.out, M3.out⟩
        case measure => simp [intOf]; omega
    · have HF : Hid (l.any (cutB H) = false) := Lib.hid (by
        have := HA.out
        rwa [List.take_of_length_le (by have := HN.out; omega)] at this)
      clear hm
      go_wp2
      go_ret
      exact ⟨⟨_, rfl, by rw [HF.out]; rfl⟩, HM.out⟩
theorem contU_any (v : Value) (l : List Nat) (bt g bh bn : Nat) (H : Names) (m : Nat) (w : World) (hv : RdS w 1 v l.length (l.map (keyV .u32))) (hl : ∀ f ∈ l, f < 4294967296) (hP : PtAt w bt g bh bn H m) :
    Calls Try.prog 50 #[v, .func (.func 51) #[] #[.pointer (some ⟨bt, 0, none⟩)]] w fun e w' => e = .returned (.bool (l.any (cutB H))) ∧ Mod (fun _ => False) w w' := by
  have HI := Lib.hid (idxU_any v l bt g bh bn H m w hv hl hP)
  obtain ⟨a, c, rfl, -⟩ := hv.shape
  clear hv hl hP
  generalize l.any (cutB H) = q at HI ⊢
  generalize l.length = n at HI ⊢
  go_enter Try.func50, Try.ntmps50
  go_wp2_with (go_at_call 69; refine HI.out.mono ?_; rintro e w3 ⟨⟨r, rfl, hr⟩, hm⟩; have M3 := Lib.hid hm; have HR := Lib.hid hr; clear hm hr)
  go_ret
  exact ⟨ret_bool HR.out, M3.out⟩
end Go.Proofs.Ytdblilhkojafgaa
