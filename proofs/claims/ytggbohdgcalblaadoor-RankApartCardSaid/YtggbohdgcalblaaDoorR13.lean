/- The contracts of Twin, Spare and Kept. -/
import Derived.Test.YtggbohdgcalblaaDoorR11
import Derived.Test.YtggbohdgcalblaaDoorP7
namespace Go.Proofs.YtggbohdgcalblaaDoor
set_option linter.unusedVariables false
open Go.RowKit

theorem Bytes.nil (w : World) : Bytes w w (.slice none 0 0) [] := ⟨Seg.nil _ _ _, (fun b hb => absurd (show (none : Option Nat) = some b from hb) (by simp)), Mod.refl _ _⟩
theorem Src.mod {S : Nat → Prop} {w w' : World} {size m : Nat} {x : Value} {news : List Value} (h : Src w size x m news) (mo : Mod S w w') (hs : ∀ b, x.ownBlock = some b → ¬ S b) : Src w' size x m news := by
  refine ⟨h.1, h.2.1, ?_⟩
  rcases h.2.2 with hn | ⟨ad, c, rfl, hc⟩
  · exact .inl hn
  · refine .inr ⟨ad, c, rfl, fun j u hu => ?_⟩
    have h1 := hc j u hu
    have e : (ad.add j).block = ad.block := by unfold Addr.add; split <;> rfl
    have hb := World.block_lt_of_cell? _ _ h1
    rw [World.cell?_of_block (w := w) (mo.block _ hb (by rw [e]; exact hs ad.block rfl))]; exact h1
theorem Src.keep {w w' : World} {size m : Nat} {x : Value} {news : List Value} (h : Src w size x m news) (mo : Mod (fun _ => False) w w') : Src w' size x m news := h.mod mo (fun _ _ f => f)
theorem Src.shape {w : World} {size m : Nat} {x : Value} {news : List Value} (h : Src w size x m news) : ∃ a c, x = .slice a m c := by
  rcases h.2.2 with ⟨rfl, rfl⟩ | ⟨ad, c, rfl, _⟩
  · exact ⟨_, _, rfl⟩
  · exact ⟨_, _, rfl⟩

/-- append([]byte{}, a...) -/
theorem twin_mid {w w3 : World} {v3 : Value} {l : List Nat} (hs3 : Seg w3 5 1 v3 (0 + l.length) ([] ++ bs l)) (hg3 : (w.alloc (.cells #[] 5)).grownBy w3 (Value.ownBlock (.slice (some ⟨w.heap.size, 0, none⟩) 0 0)))
    (ho3 : v3.ownBlock = Value.ownBlock (.slice (some ⟨w.heap.size, 0, none⟩) 0 0) ∨ v3.ownBlock = some (w.alloc (.cells #[] 5)).heap.size) : Bytes w w3 v3 l := by
  refine ⟨by simpa using hs3, fun b hb => ?_, (((Mod.refl _ w).alloc _).grown hg3 (fun b hb hlt => ?_))⟩
  · rcases ho3 with e | e
    · rw [e] at hb; simp [Value.ownBlock] at hb; omega
    · rw [e] at hb; simp at hb; omega
  · simp [Value.ownBlock] at hb; omega
theorem empty_seg (w : World) : Seg (w.alloc (.cells #[] 5)) 5 1 (.slice (some ⟨w.heap.size, 0, none⟩) 0 0) 0 [] := by
  have := Seg.lit (e := 5) (size := 1) w #[] 0 rfl (by decide) (by simp)
  exact this
theorem twin_any (v : Value) (l : List Nat) (w : World) (hv : Src w 1 v l.length (bs l)) (hl : l.length ≤ 140737488355328) : Calls Tryd.prog 22 #[v] w (GivesBytes w l) := by
  have HS := Lib.hid (hv.keep ((Mod.refl _ w).alloc (.cells #[] 5)))
  obtain ⟨a, c, rfl⟩ := hv.shape
  have HE := Lib.hid (empty_seg w)
  obtain ⟨i0, hi, hz0, hz1, hz2⟩ := info_parts infoU8
  have HI : Hid (Tryd.prog.info? 5 = some i0 ∧ i0.zero = some (.int .u8 0) ∧ i0.size = 1 ∧ i0.bytes = 1) := ⟨hi, hz0, hz1, hz2⟩
  clear hi hz0 hz1 hz2 hv
  go_enter Tryd.func22, Tryd.ntmps22
  go_wp2_with (at_builtin; refine wpList_append_seg rfl (.tmp 3) (.tmp 4) 23 rfl i0 _ 1 1 Tryd.underlying23 HI.out.1 HI.out.2.1 HI.out.2.2.1 HI.out.2.2.2 rfl (by decide) rfl HE.out _ _ _ rfl HS.out (by unfold maxLen; omega) (by omega) ?_; intro v3 w3 hs3 hg3 ho3)
  have HF : Hid (GivesBytes w l (.returned v3) w3) := ⟨v3, rfl, twin_mid hs3 hg3 ho3⟩
  clear hs3 hg3 ho3
  go_wp2
  go_ret
  exact HF.out

theorem Bytes.more3 {w w1 w2 : World} {v v' : Value} {l m : List Nat} (h : Bytes w w1 v l) {cs : Array Value} (hcs : cs.toList = bs m)
    (hs : Seg w2 5 1 v' (l.length + m.length) (bs l ++ cs.toList)) (hg : (w1.alloc (.cells cs 5)).grownBy w2 v.ownBlock)
    (ho : v'.ownBlock = v.ownBlock ∨ v'.ownBlock = some (w1.alloc (.cells cs 5)).heap.size) : Bytes w w2 v' (l ++ m) := by
  refine ⟨by rw [List.length_append, bs_append, ← hcs]; exact hs, ?_, (h.mod.alloc _).grown hg (fun c hc hlt => by have := h.own c hc; omega)⟩
  intro c hc
  have := h.mod.size
  rcases ho with e | e
  · exact h.own c (e ▸ hc)
  · rw [e] at hc; simp at hc; omega
def mark : List Nat := [165, 90, 165]
theorem mark_src (w : World) : Src (w.alloc (.cells #[.int .u8 165, .int .u8 90, .int .u8 165] 5)) 1 (.slice (some ⟨w.heap.size, 0, none⟩) 3 3) 3 (#[.int .u8 165, .int .u8 90, .int .u8 165] : Array Value).toList :=
  Src.one (size := 1) w #[.int .u8 165, .int .u8 90, .int .u8 165] 5 3 3 rfl (by simp [Value.oneCell'])
/-- What Spare hands back. -/
def Spares (w : World) (l : List Nat) (e : Ending) (w' : World) : Prop :=
  ∃ g off cap, e = .returned (.tuple #[.slice (some ⟨g, off, none⟩) l.length cap, .slice (some ⟨g, off, none⟩) (l.length + 3) cap]) ∧ Bytes w w' (.slice (some ⟨g, off, none⟩) (l.length + 3) cap) (l ++ mark) ∧ l.length + 3 ≤ cap ∧ cap ≤ 9223372036854775807
theorem spare_open {w w5 : World} {v5 : Value} {l : List Nat} (H : Bytes w w5 v5 (l ++ mark)) : ∃ g off cap, v5 = .slice (some ⟨g, off, none⟩) (l.length + 3) cap ∧ Hid (Spares w l (.returned (.tuple #[.slice (some ⟨g, off, none⟩) l.length cap, .slice (some ⟨g, off, none⟩) (l.length + 3) cap])) w5) ∧ l.length ≤ cap ∧ cap ≤ 9223372036854775807 := by
  obtain ⟨g, off, cap, rfl, _, _, hcap, _⟩ := H.opened (by simp [mark])
  have hlen : (l ++ mark).length = l.length + 3 := by simp [mark]
  rw [hlen] at hcap H ⊢
  have hcm : cap ≤ 9223372036854775807 := by
    obtain ⟨a', c', e, h1, h2⟩ := H.seg.shape
    injection e with e1 e2 e3
    unfold maxLen at h2; omega
  exact ⟨g, off, cap, rfl, ⟨g, off, cap, rfl, H, hcap, hcm⟩, by omega, hcm⟩
theorem spare_any (v : Value) (l : List Nat) (w : World) (hv : Src w 1 v l.length (bs l)) (hl : l.length ≤ 140737488351232) : Calls Tryd.prog 16 #[v] w (Spares w l) := by
  have HS := Lib.hid (hv.keep ((Mod.refl _ w).alloc (.cells #[] 5)))
  obtain ⟨a, c, rfl⟩ := hv.shape
  have HE := Lib.hid (empty_seg w)
  obtain ⟨i0, hi, hz0, hz1, hz2⟩ := info_parts infoU8
  have HI : Hid (Tryd.prog.info? 5 = some i0 ∧ i0.zero = some (.int .u8 0) ∧ i0.size = 1 ∧ i0.bytes = 1) := ⟨hi, hz0, hz1, hz2⟩
  clear hi hz0 hz1 hz2 hv
  go_enter Tryd.func16, Tryd.ntmps16
  go_wp2_with (first
    | (at_builtin; refine wpList_append_seg rfl (.tmp 5) (.tmp 6) 23 rfl i0 _ 1 1 Tryd.underlying23 HI.out.1 HI.out.2.1 HI.out.2.2.1 HI.out.2.2.2 rfl (by decide) rfl HE.out _ _ _ rfl HS.out (by unfold maxLen; omega) (by omega) ?_; intro v3 w3 hs3 hg3 ho3; (have H3 : Hid (Bytes w w3 v3 l) := twin_mid hs3 hg3 ho3); clear hs3 hg3 ho3)
    | (at_builtin; refine wpList_append_seg rfl (.tmp 7) (.tmp 8) 23 rfl i0 _ 1 1 Tryd.underlying23 HI.out.1 HI.out.2.1 HI.out.2.2.1 HI.out.2.2.2 rfl (by decide) rfl (H3.out.seg.alloc _) _ _ _ rfl (mark_src _) (by unfold maxLen; omega) (by omega) ?_; intro v5 w5 hs5 hg5 ho5; (obtain ⟨g, off, cap, rfl, HF, hle, hcm⟩ := spare_open (H3.out.more3 (m := mark) rfl hs5 hg5 ho5)); clear hs5 hg5 ho5 H3))
  go_wp2
  go_ret2
  exact HF.out

theorem Rd.front {w : World} {ad : Addr} {l m : List Nat} {n cap : Nat} (h : Rd w (.slice (some ad) n cap) (l ++ m)) : Rd w (.slice (some ad) l.length cap) l := by
  obtain ⟨a, c, e, h1, h2, h3⟩ := h.shape
  injection e with e1 e2 e3
  subst e1 e2 e3
  have hl : l.length ≤ (l ++ m).length := by simp
  refine ⟨⟨_, _, rfl, by omega, h2, h3⟩, by have := h.big; omega, fun a c e i hi => ?_⟩
  injection e with e1 e2 e3
  subst e1 e3
  obtain ⟨b, off, ea, hb, hc⟩ := h.cell _ _ rfl i (by omega)
  refine ⟨b, off, ea, hb, ?_⟩
  rw [hc]
  simp [List.getD_eq_getElem?_getD, List.getElem?_append_left hi, hi]
set_option maxRecDepth 100000 in
set_option maxHeartbeats 4000000 in
theorem kept_any (g off cap : Nat) (v : Value) (l : List Nat) (w : World) (hf : Rd w (.slice (some ⟨g, off, none⟩) (l.length + 3) cap) (l ++ mark)) (hv : Rd w v l) :
    Calls Tryd.prog 20 #[.slice (some ⟨g, off, none⟩) (l.length + 3) cap, v] w fun e w' => e = .returned (.bool true) ∧ Mod (fun _ => False) w w' := by
  obtain ⟨a, c, rfl, -⟩ := hv.shape
  have HS := Lib.hid (same_any _ _ _ _ _ hf.front hv)
  have hlen : (l ++ mark).length = l.length + 3 := by simp [mark]
  have hcap : l.length + 3 ≤ cap ∧ cap ≤ 9223372036854775807 := by
    obtain ⟨a, c, e, h1, h2, h3⟩ := hf.shape
    injection e with e1 e2 e3
    omega
  have hc : ∀ j, j < 3 → g < w.heap.size ∧ w.cell? ⟨g, off + (l.length + j), none⟩ = some (.int .u8 ((mark.getD j 0 : Nat) : Int)) := fun j hj => by
    obtain ⟨b, o, e, hb, h⟩ := hf.cell _ _ (by rw [hlen]) (l.length + j) (by omega)
    injection e with e; injection e with e1 e2 e3
    subst e1 e2
    refine ⟨hb, ?_⟩
    rw [h]
    simp [List.getD_eq_getElem?_getD, List.getElem?_append_right]
  have hg := (hc 0 (by omega)).1
  have HC : Hid (∀ w' : World, Mod (fun _ => False) w w' → w'.cell? ⟨g, off + l.length, none⟩ = some (.int .u8 165) ∧ w'.cell? ⟨g, off + (l.length + 1), none⟩ = some (.int .u8 90) ∧ w'.cell? ⟨g, off + (l.length + 2), none⟩ = some (.int .u8 165)) := fun w' m => by
    have e : ∀ j, w'.cell? ⟨g, j, none⟩ = w.cell? ⟨g, j, none⟩ := fun j => World.cell?_of_block (w := w) (m.block g hg (fun f => f))
    exact ⟨(e _).trans (by have := (hc 0 (by omega)).2; rw [Nat.add_zero] at this; exact this), (e _).trans (hc 1 (by omega)).2, (e _).trans (hc 2 (by omega)).2⟩
  have hb := hv.big
  have hn : l.length ≤ cap := by omega
  have hl0 : (l.length : Int) < ((l.length + 3 : Nat) : Int) := by omega
  have ht : (((l.length + 3 : Nat) : Int) == (l.length : Int) + 3) = true := by simp
  have hs : sameB l l = true := by simp [sameB]
  have HT := Lib.hid hs
  have hbig : l.length + 3 ≤ 9223372036854775807 := by omega
  clear hf hv hc hlen hs
  go_enter Tryd.func20, Tryd.ntmps20
  go_wp2_with fail
  refine HS.out.mono ?_
  rintro e w1 ⟨rfl, hm⟩
  rw [HT.out]
  have M := Lib.hid hm
  obtain ⟨q0, q1, q2⟩ := HC.out w1 hm
  clear hm
  go_wp2
  go_ret
  exact ⟨rfl, M.out⟩
end Go.Proofs.YtggbohdgcalblaaDoor
