/- Messages on their way, and what is out: the plain law. -/
import Derived.Test.YtabhddbfjfomeaaW2
import Derived.Test.YtabhddbfjfomeaaP4
namespace Go.Proofs.Ytabhddbfjfomeaa
set_option linter.unusedVariables false
open Go.Maps

structure Msg where
  num : Nat
  credit : Int
  depth : Nat

def Msg.cells (m : Msg) : List Value := [.int .u64 m.num, .int .u64 m.credit, .int .i64 m.depth]
def flat (l : List Msg) : List Value := l.flatMap Msg.cells
def total (l : List Msg) : Int := (l.map (·.credit)).sum
theorem flat_length (l : List Msg) : (flat l).length = l.length * 3 := by
  induction l with
  | nil => rfl
  | cons x r ih => simp [flat, Msg.cells] at ih ⊢; omega
theorem flat_append (a b : List Msg) : flat (a ++ b) = flat a ++ flat b := by simp [flat]
theorem flat_ones (l : List Msg) : ∀ u ∈ flat l, u.oneCell' = true := by
  intro u hu
  simp only [flat, List.mem_flatMap] at hu
  obtain ⟨m, _, hm⟩ := hu
  simp [Msg.cells] at hm
  rcases hm with rfl | rfl | rfl <;> rfl
theorem total_append (a b : List Msg) : total (a ++ b) = total a + total b := by simp [total, List.sum_append]
theorem total_cons (a : Msg) (b : List Msg) : total (a :: b) = a.credit + total b := by simp [total]

def kids (next q : Nat) (S : Int) (d : Nat) : List Msg := (List.range q).map fun j => ⟨next + j, S, d⟩
theorem kids_succ (next q : Nat) (S : Int) (d : Nat) : kids next (q + 1) S d = kids next q S d ++ [⟨next + q, S, d⟩] := by simp [kids, List.range_succ]
theorem kids_length (next q : Nat) (S : Int) (d : Nat) : (kids next q S d).length = q := by simp [kids]
theorem kids_total (next q : Nat) (S : Int) (d : Nat) : total (kids next q S d) = S * q := by
  induction q with
  | zero => simp [kids, total]
  | succ q ih => rw [kids_succ, total_append, ih]; simp [total, Int.mul_add]
theorem kids_mem {next q : Nat} {S : Int} {d : Nat} {m : Msg} (h : m ∈ kids next q S d) : next ≤ m.num ∧ m.num < next + q ∧ m.credit = S ∧ m.depth = d := by
  simp [kids] at h
  obtain ⟨j, hj, rfl⟩ := h
  simp; omega
theorem kids_nodup (next q : Nat) (S : Int) (d : Nat) : ((kids next q S d).map (·.num)).Nodup := by
  simp only [kids, List.map_map]
  refine List.Pairwise.map _ (fun a b (h : a ≠ b) => ?_) List.nodup_range
  simp; omega

structure LInv (bag : List Msg) (next : Nat) (gone : Bool) (D : DataW Unit) (L out : Int) : Prop where
  msgs : ∀ m ∈ bag, m.num < next ∧ m.depth ≤ 8 ∧ low m.depth ≤ m.credit
  nodup : (bag.map (·.num)).Nodup
  fresh : ∀ m ∈ bag, Maps.has D (noteKey 0 m.num) = false
  fresh2 : ∀ b : Nat, next ≤ b → b < 18446744073709551616 → Maps.has D (noteKey 0 b) = false
  sum : out = total bag + L
  L0 : gone = false → L = 0
  L1 : gone = true → 0 < L
  hi : out ≤ 1152921504606846976

theorem total_nonneg {bag : List Msg} (h : ∀ m ∈ bag, m.depth ≤ 8 ∧ low m.depth ≤ m.credit) : 0 ≤ total bag := by
  induction bag with
  | nil => simp [total]
  | cons x r ih =>
    rw [total_cons]
    have h1 := ih (fun m hm => h m (by simp [hm]))
    have h2 := h x (by simp)
    have := low_pos (by omega : x.depth ≤ 12)
    omega
theorem LInv.Lnn {bag : List Msg} {next : Nat} {gone : Bool} {D : DataW Unit} {L out : Int} (h : LInv bag next gone D L out) : 0 ≤ L := by
  cases hg : gone
  · rw [h.L0 hg]; exact Int.le_refl _
  · exact Int.le_of_lt (h.L1 hg)
theorem LInv.start : LInv [⟨0, 1152921504606846976, 0⟩] 1 false (.map []) 0 1152921504606846976 :=
  ⟨by simp [low], by simp, fun _ _ => rfl, fun _ _ _ => rfl, by simp [total], fun _ => rfl, by simp, Int.le_refl _⟩
theorem LInv.head {x : Msg} {rest : List Msg} {next : Nat} {gone : Bool} {D : DataW Unit} {L out : Int} (h : LInv (x :: rest) next gone D L out) : 4722366482 ≤ x.credit ∧ x.credit ≤ out ∧ x.depth ≤ 8 ∧ x.num < next ∧ low x.depth ≤ x.credit := by
  have h1 := h.msgs x (by simp)
  have h2 := low_pos (by omega : x.depth ≤ 12)
  have h3 := total_nonneg (bag := rest) (fun m hm => (h.msgs m (by simp [hm])).2)
  have h4 := h.sum
  rw [total_cons] at h4
  have h5 := h.Lnn
  refine ⟨by omega, by omega, h1.2.1, h1.1, h1.2.2⟩
theorem LInv.done {bag : List Msg} {next : Nat} {gone : Bool} {D : DataW Unit} {L out : Int} (h : LInv bag next gone D L out) : (out == 0) = (!gone && bag.length == 0) := by
  have h5 := h.Lnn
  have h4 := h.sum
  cases bag with
  | nil =>
    simp [total] at h4
    cases hg : gone
    · have := h.L0 hg; simp; omega
    · have := h.L1 hg; simp; omega
  | cons x r =>
    have := h.head
    simp; omega
theorem LInv.drop {x : Msg} {rest : List Msg} {next : Nat} {gone : Bool} {D : DataW Unit} {L out : Int} (h : LInv (x :: rest) next gone D L out) : LInv rest next true D (L + x.credit) out := by
  have h5 := h.Lnn
  have h6 := h.head
  refine ⟨fun m hm => h.msgs m (by simp [hm]), ?_, fun m hm => h.fresh m (by simp [hm]), h.fresh2, ?_, by simp, fun _ => by omega, h.hi⟩
  · have := h.nodup; simp only [List.map_cons, List.nodup_cons] at this; exact this.2
  · have := h.sum; rw [total_cons] at this; omega
theorem wf_u64 {n : Nat} (h : n < 18446744073709551616) : (Lit.int .u64 n).wf = true := by simp [Lit.wf, IntKind.min, IntKind.max, IntKind.signed, IntKind.bits]; omega
theorem LInv.step {x : Msg} {rest : List Msg} {next : Nat} {gone : Bool} {D : DataW Unit} {L out S R : Int} {m : Nat} (h : LInv (x :: rest) next gone D L out) (hm : m ≤ 4) (hd : m = 0 ∨ x.depth < 8) (hS : S = x.credit / ((m : Int) + 1)) (hR : R = x.credit - S * m)
    (hn : next < 18446744073709551616) (hn : next + m < 18446744073709551616) :
    LInv (rest ++ kids next m S (x.depth + 1)) (next + m) gone (D.put (noteKey 0 x.num) (.agg [])) L (out - R) := by
  have h6 := h.head
  have h7 := h.nodup
  have h8 := h.sum
  rw [total_cons] at h8
  simp only [List.map_cons, List.nodup_cons] at h7
  have hS2 : S * m ≤ x.credit := by
    have : S * (m + 1) ≤ x.credit := by rw [hS]; exact Int.ediv_mul_le _ (by omega)
    have hS0 : 0 ≤ S := by rw [hS]; exact Int.ediv_nonneg (by omega) (by omega)
    rw [Int.mul_add] at this; omega
  have hput : ∀ b : Nat, b ≠ x.num → b < 18446744073709551616 → Maps.has (D.put (noteKey 0 x.num) (.agg [])) (noteKey 0 b) = Maps.has D (noteKey 0 b) := fun b hb hb2 => by
    refine has_put_other (fun e => hb ?_) _
    have := (noteKey_inj (by decide) (wf_u64 hb2) (by decide) (wf_u64 (by omega)) e).2
    omega
  refine ⟨?_, ?_, ?_, ?_, ?_, h.L0, h.L1, by have := h.hi; omega⟩
  · intro y hy
    rcases List.mem_append.1 hy with hy | hy
    · have := h.msgs y (by simp [hy]); exact ⟨by omega, this.2⟩
    · obtain ⟨a, b, c, d⟩ := kids_mem hy
      have hm1 : m ≠ 0 := by omega
      refine ⟨by omega, by omega, ?_⟩
      rw [c, d, hS]
      exact low_div h6.2.2.2.2 (by omega) (by omega) (by omega)
  · rw [List.map_append]
    refine List.nodup_append.2 ⟨h7.2, kids_nodup _ _ _ _, ?_⟩
    intro a ha b hb
    obtain ⟨y, hy, rfl⟩ := List.mem_map.1 ha
    obtain ⟨z, hz, rfl⟩ := List.mem_map.1 hb
    have h1 := (h.msgs y (by simp [hy])).1
    have h2 := kids_mem hz
    omega
  · intro y hy
    rcases List.mem_append.1 hy with hy | hy
    · have h1 := (h.msgs y (by simp [hy])).1
      rw [hput _ (fun e => h7.1 (e ▸ List.mem_map_of_mem hy)) (by omega)]
      exact h.fresh y (by simp [hy])
    · have h2 := kids_mem hy
      rw [hput _ (by omega) (by omega)]
      exact h.fresh2 _ h2.1 (by omega)
  · intro b hb hb2
    rw [hput b (by omega) hb2]
    exact h.fresh2 b (by omega) hb2
  · rw [total_append, kids_total]; omega
end Go.Proofs.Ytabhddbfjfomeaa
