import Derived.Test.YtpigipgoopeeoaaGreatDoorMCBegCHolCVer00
set_option linter.unusedVariables false
set_option linter.unusedSimpArgs false
namespace Go.Proofs.YtpigipgoopeeoaaGreatDoor
open Go.ChangeShapes Go.WideShapes Go.ChangeAt Go.RowKit
section
variable {H : Type}
variable {enc : TypeId × Value → H} {W : World}
end
open Go.ChangeShapes Go.WideShapes Go.ChangeAt Go.RowKit
section
variable {H : Type} {enc : TypeId × Value → H} {W : World}
variable {base : Nat} {v : Value} {d : DataW H} {p : List MemPlace}
def InU8 (W : World) (v : Value) : Prop := ∃ t : Nat, v = .int .u8 (t : Int) ∧ t < 256
set_option maxRecDepth 100000 in
theorem in_u8 (hv : Value.okWide Tryz.prog W .any base 5 v) (h : DataW.Trod enc Tryz.prog W 0 (fun _ => true) true 5 v d p) : InU8 W v := by
 obtain ⟨a, rfl, _, _, hw⟩ := open_int Tryz.underlying5 hv h
 have b := bounds_u8 hw
 obtain ⟨m, rfl⟩ := Int.eq_ofNat_of_zero_le b.1
 exact ⟨m, rfl, by omega⟩
end
open Go.RowKit Go.Maps
theorem verdict_none {c r : List Cx} : verdict c r = none ↔ (∀ i, i < c.length → ansBad c i = false) ∧ (∀ i, i < c.length → numBad c i = false) ∧ (∀ x ∈ r, repA c x = false) ∧ ∀ x ∈ r, repB c x = false := by
 unfold verdict
 have hf : ∀ p : Cx → Bool, firstR p r = none ↔ ∀ x ∈ r, p x = false := fun p => by unfold firstR; rw [List.findIdx?_eq_none_iff]
 constructor
 · intro h
   unfold pick4 at h
   split at h
   · cases h
   · rename_i h1
     split at h
     · cases h
     · rename_i h2
       split at h
       · cases h
       · rename_i h3
         split at h
         · cases h
         · rename_i h4
           exact ⟨firstI_eq_none.1 h1, firstI_eq_none.1 h2, (hf _).1 h3, (hf _).1 h4⟩
 · rintro ⟨h1, h2, h3, h4⟩
   rw [firstI_eq_none.2 h1, firstI_eq_none.2 h2, (hf _).2 h3, (hf _).2 h4]
   rfl
theorem take_get {α : Type} {l : List α} {k i : Nat} (h : i < k) : (l.take k)[i]? = l[i]? := by rw [List.getElem?_take, if_pos h]
theorem ansBad_take {c : List Cx} {k i : Nat} (h : i < k) : ansBad (c.take k) i = ansBad c i := by
 unfold ansBad
 rw [take_get h, List.take_take, Nat.min_eq_left (by omega)]
def within (k : Nat) (x : Cx) : Bool := decide (x.to_ ≤ (k : Int)) && (!decide (x.e = 13) && !decide (x.e = 14))
end Go.Proofs.YtpigipgoopeeoaaGreatDoor
