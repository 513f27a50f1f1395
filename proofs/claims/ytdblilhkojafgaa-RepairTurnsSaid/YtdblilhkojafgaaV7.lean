/- repair.half: a vertex' half to another one. -/
import Derived.Test.YtdblilhkojafgaaV6
namespace Go.Proofs.Ytdblilhkojafgaa
set_option linter.unusedVariables false
open Go.RowKit

theorem half1_any (key vk : Nat) (vn : Int) (vs : ByteArray) (bf far : Nat) (w : World) (hf : w.cell? ⟨bf, 0, none⟩ = some (.int .u32 (far : Int))) :
    Calls Try.prog 76 #[.agg #[.int .u32 (key : Int), .int .u8 (vk : Int), .int .i64 vn, .string vs], .pointer (some ⟨bf, 0, none⟩)] w fun e w' => e = .returned (.bool (decide (key = far))) ∧ Mod (fun _ => False) w w' := by
  have hlt := World.block_lt_of_cell? _ _ hf
  have hne : bf ≠ w.heap.size := by simp at hlt; omega
  have hlt2 : bf < w.heap.size := hlt
  have HB : Hid (((key : Int) == (far : Int)) = decide (key = far)) := Lib.hid (by rw [Bool.eq_iff_iff]; simp [Int.ofNat_inj])
  have HM : Hid (∀ n, Mod (fun _ => False) w ((w.alloc (.cells #[.int .u32 (key : Int), .int .u8 (vk : Int), .int .i64 vn, .string vs] 96)).drewN n)) := fun n => ((Mod.refl _ _).alloc _).drewN n
  clear hlt
  go_enter Try.func76, Try.ntmps76
  go_wp2
  go_ret
  exact ⟨ret_bool HB.out, HM.out 0⟩

def idxE (far : Nat) : List Ent → Nat → Int
  | [], _ => -1
  | x :: r, i => if x.key = far then (i : Int) else idxE far r (i + 1)
theorem idxE_none {far : Nat} : ∀ (l : List Ent) (i : Nat), (∀ x ∈ l, x.key ≠ far) → idxE far l i = -1
  | [], _, _ => rfl
  | x :: r, i, h => by rw [idxE, if_neg (h x (by simp)), idxE_none r (i + 1) (fun y hy => h y (by simp [hy]))]
theorem idxE_at {far : Nat} : ∀ (l : List Ent) (i k : Nat) (x : Ent), l[k]? = some x → x.key = far → (∀ y ∈ l.take k, y.key ≠ far) → idxE far l i = ((i + k : Nat) : Int)
  | [], _, _, _, h, _, _ => by simp at h
  | y :: r, i, 0, x, h, hx, _ => by
    simp at h; subst h
    rw [idxE, if_pos hx]; rfl
  | y :: r, i, k + 1, x, h, hx, hp => by
    rw [idxE, if_neg (hp y (by simp)), idxE_at r (i + 1) k x (by simpa using h) hx (fun z hz => hp z (by simp [hz]))]
    congr 1; omega
theorem take_all_succ {far k : Nat} {l : List Ent} {x : Ent} (h : ∀ y ∈ l.take k, y.key ≠ far) (hx : l[k]? = some x) (hne : x.key ≠ far) : ∀ y ∈ l.take (k + 1), y.key ≠ far := by
  obtain ⟨hk, he⟩ := List.getElem?_eq_some_iff.1 hx
  rw [List.take_succ_eq_append_getElem hk, he]
  intro y hy
  rcases List.mem_append.1 hy with h' | h'
  · exact h y h'
  · simp at h'; rw [h']; exact hne

set_option maxRecDepth 100000 in
set_option maxHeartbeats 1000000 in
theorem idx_any (v : Value) (l : List Ent) (bf far : Nat) (w : World) (hv : RdS w 4 v l.length (cellsOf .u32 l)) (hf : w.cell? ⟨bf, 0, none⟩ = some (.int .u32 (far : Int))) :
    Calls Try.prog 75 #[v, .func (.func 76) #[] #[.pointer (some ⟨bf, 0, none⟩)]] w fun e w' => e = .returned (.int .i64 (idxE far l 0)) ∧ Mod (fun _ => False) w w' := by
  have HV := Lib.hid hv
  have HFC := Lib.hid hf
  obtain ⟨a, c, rfl, hc1, hc2, -⟩ := hv.shape
  clear hv hf
  obtain ⟨n, hn⟩ : ∃ n, n = l.length := ⟨_, rfl⟩
  have HN := Lib.hid hn
  rw [← hn] at HV hc1 ⊢
  clear hn
  go_enter Try.func75, Try.ntmps75
  go_wp2
  go_loopw [8] (fun i wr => ∃ k : Nat, i = .int .i64 k ∧ k ≤ n ∧ (∀ y ∈ l.take k, y.key ≠ far) ∧ Mod (fun _ => False) w wr) (fun i _ => n - (intOf i).toNat)
  case atStart => exact ⟨0, rfl, Nat.zero_le _, by simp, Mod.refl _ _⟩
  case round =>
    obtain ⟨k, rfl, hk, hall, hm⟩ := hrel
    have HA := Lib.hid hall
    have HM := Lib.hid hm
    clear hall
    by_cases hkn : k < n
    · obtain ⟨x, hx⟩ : ∃ x, l[k]? = some x := ⟨_, List.getElem?_eq_getElem (by rw [← HN.out]; exact hkn)⟩
      have HX := Lib.hid hx
      obtain ⟨b, off, rfl, hb, p0, p1, p2, p3⟩ := HV.out.ent hx rfl
      have p0 := hm.cell p0
      have p1 := hm.cell p1
      have p2 := hm.cell p2
      have p3 := hm.cell p3
      have HC := Lib.hid (half1_any x.key x.val.k x.val.n x.val.s bf far wr (hm.cell HFC.out))
      clear hx hm
      obtain ⟨key, vk, vn, vs⟩ := x
      simp only at p0 p1 p2 p3 HC
      by_cases hkf : key = far
      · have HF := Lib.hid (idxE_at l 0 k ⟨key, ⟨vk, vn, vs⟩⟩ HX.out hkf HA.out)
        rw [show decide (key = far) = true by simp [hkf]] at HC
        clear hkf
        go_wp2_with (go_at_call 76; refine HC.out.mono ?_; rintro e w3 ⟨rfl, hm⟩; have M3 := Lib.hid (HM.out.trans hm); clear hm)
        go_ret
        exact ⟨ret_int (by rw [HF.out]; simp), M3.out⟩
      · have HF := Lib.hid (take_all_succ HA.out HX.out hkf)
        rw [show decide (key = far) = false by simp [hkf]] at HC
        clear hkf
        go_wp2_with (go_at_call 76; refine HC.out.mono ?_; rintro e w3 ⟨rfl, hm⟩; have M3 := Lib.hid (HM.out.trans hm); clear hm)
        go_roundw
        case rel => exact ⟨k + 1, by go_num, by omega, HF.out, M3.out⟩
        case measure => simp [intOf]; omega
    · have HF := Lib.hid (idxE_none l 0 (by
        have := HA.out
        rwa [List.take_of_length_le (by have := HN.out; omega)] at this))
      clear hm
      go_wp2
      go_ret
      exact ⟨ret_int HF.out.symm, HM.out⟩
end Go.Proofs.Ytdblilhkojafgaa
