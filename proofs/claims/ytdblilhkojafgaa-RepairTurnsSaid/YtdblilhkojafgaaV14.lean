/- repair.judge, whole. -/
import Derived.Test.YtdblilhkojafgaaV13
namespace Go.Proofs.Ytdblilhkojafgaa
set_option linter.unusedVariables false
open Go.RowKit

theorem judge_any (ps : List (Nat × Vs)) (es : Ents) (bm : Nat) (x : Vtx) (vp vh : Value) (h : Ent) (all : Bool) (w : World) (hU : UMap Try.prog 27 .u32 w bm es) (ht : Tells ps es) (hx : VRd w vp vh x) (hps : ∀ p ∈ ps, VRd w p.2.vp p.2.vh p.2.x) (hf : h.key < 4294967296) :
    Calls Try.prog 39 #[.map (some bm), vtxV x vp vh, h.v .u32, .bool all] w fun e w' => e = .returned (.int .u8 (judgeN ps x.id h all : Int)) ∧ Mod (fun _ => False) w w' := by
  cases hs : seatF ps h.key with
  | none => exact judge_miss ps es bm x vp vh h all w hU ht hx hf hs
  | some p =>
    have hp := hps p (List.mem_of_find?_eq_some hs)
    rcases idxE_find x.id p.2.x.halves with ⟨h1, h2⟩ | ⟨k, y, h1, h2, h3⟩
    · exact judge_hit_none ps es bm x vp vh h all w p hU ht hx hp hf hs h1 h2
    · exact judge_hit_some ps es bm x vp vh h all w p hU ht hx hp hf hs k y h1 h2 h3
end Go.Proofs.Ytdblilhkojafgaa
