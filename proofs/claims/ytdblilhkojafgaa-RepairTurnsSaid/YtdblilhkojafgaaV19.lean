/- gussetlaw23.reports, gussetref23.Same. -/
import Derived.Test.YtdblilhkojafgaaV18
namespace Go.Proofs.Ytdblilhkojafgaa
set_option linter.unusedVariables false
open Go.RowKit

theorem rep_ent {w : World} {v : Value} {l : List Rep} {n : Nat} (h : RdS w 4 v n (rcells l)) {i : Nat} {x : Rep} (hi : l[i]? = some x) {a : Option Addr} {m c : Nat} (e : v = .slice a m c) :
    ∃ b off, a = some ⟨b, off, none⟩ ∧ b < w.heap.size ∧ w.cell? ⟨b, off + i * 4, none⟩ = some (.int .u8 (x.kind : Int)) ∧ w.cell? ⟨b, off + i * 4 + 1, none⟩ = some (.int .i64 (x.node : Int)) ∧ w.cell? ⟨b, off + i * 4 + 2, none⟩ = some (.int .u32 (x.id : Int)) ∧ w.cell? ⟨b, off + i * 4 + 3, none⟩ = some (.int .u32 (x.far : Int)) := by
  have g := fun j hj => rcells_get l i j x hi hj
  obtain ⟨a', c', e', -⟩ := h.shape
  rw [e] at e'
  injection e' with e1 e2 e3
  rw [e2] at e
  obtain ⟨b, off, ea, hb, h0⟩ := h.cell a c e (i * 4 + 0) (.int .u8 (x.kind : Int)) (by rw [g 0 (by omega)]; rfl)
  obtain ⟨b1, off1, ea1, _, h1⟩ := h.cell a c e (i * 4 + 1) (.int .i64 (x.node : Int)) (by rw [g 1 (by omega)]; rfl)
  obtain ⟨b2, off2, ea2, _, h2⟩ := h.cell a c e (i * 4 + 2) (.int .u32 (x.id : Int)) (by rw [g 2 (by omega)]; rfl)
  obtain ⟨b3, off3, ea3, _, h3⟩ := h.cell a c e (i * 4 + 3) (.int .u32 (x.far : Int)) (by rw [g 3 (by omega)]; rfl)
  rw [ea] at ea1 ea2 ea3
  injection ea1 with e1; injection e1 with e1 e1'
  injection ea2 with e2; injection e2 with e2 e2'
  injection ea3 with e3; injection e3 with e3 e3'
  subst e1 e1' e2 e2' e3 e3'
  exact ⟨b, off, ea, hb, h0, by rw [Nat.add_assoc]; exact h1, by rw [Nat.add_assoc]; exact h2, by rw [Nat.add_assoc]; exact h3⟩

/-- A list that is being made anew. -/
structure Grow (w : World) (t : TypeId) (size : Nat) (v : Value) (n : Nat) (xs : List Value) (wr : World) : Prop where
  mod : Mod (fun _ => False) w wr
  seg : Seg wr t size v n xs
  own : ∀ b, v.ownBlock = some b → w.heap.size ≤ b
theorem Grow.begin (w : World) (t : TypeId) (size : Nat) : Grow w t size (.slice none 0 0) 0 [] w := ⟨Mod.refl _ _, Seg.nil _ _ _, fun b hb => by simp [Value.ownBlock] at hb⟩
theorem Grow.more {w wr wy : World} {t : TypeId} {size n : Nat} {v : Value} {xs : List Value} (h : Grow w t size v n xs wr) (m : Mod (fun _ => False) wr wy) : Grow w t size v n xs wy := ⟨h.mod.trans m, h.seg.mod m (fun _ _ f => f), h.own⟩
theorem Grow.app {w wr wy : World} {t : TypeId} {size n m : Nat} {v v' : Value} {xs ys : List Value} (h : Grow w t size v n xs wr) (hs : Seg wy t size v' (n + m) (xs ++ ys)) (hg : wr.grownBy wy v.ownBlock) (ho : v'.ownBlock = v.ownBlock ∨ v'.ownBlock = some wr.heap.size) : Grow w t size v' (n + m) (xs ++ ys) wy :=
  ⟨h.mod.grown hg (fun b hb hlt => by have := h.own b hb; omega), hs, fun b hb => by
    rcases ho with e | e
    · exact h.own b (by rw [← e]; exact hb)
    · rw [e] at hb; injection hb with hb; have := h.mod.size; omega⟩
theorem infoRR : (Try.prog.info? 86).map (fun i => (i.zero, i.size, i.bytes)) = some (some (.agg #[.int .u8 0, .int .i64 0, .int .u32 0, .int .u32 0]), 4, 24) := by kernel_rfl

set_option maxRecDepth 100000 in
set_option maxHeartbeats 1000000 in
theorem reports_any (v : Value) (l : List Rep) (w : World) (hv : RdS w 4 v l.length (rcells l)) (hn : l.length ≤ 1000000) :
    Calls Try.prog 33 #[v] w fun e w' => ∃ vo, e = .returned vo ∧ Grow w 86 4 vo l.length (rcells l) w' := by
  have HV := Lib.hid hv
  obtain ⟨a, c, rfl, hc1, hc2, -⟩ := hv.shape
  clear hv
  obtain ⟨n, hl⟩ : ∃ n, n = l.length := ⟨_, rfl⟩
  have HN := Lib.hid hl
  rw [← hl] at HV hc1 hn ⊢
  clear hl
  obtain ⟨i0, hi, hz0, hz1, hz2⟩ := info_parts infoRR
  have HI : Hid (Try.prog.info? 86 = some i0 ∧ i0.zero = some (.agg #[.int .u8 0, .int .i64 0, .int .u32 0, .int .u32 0]) ∧ i0.size = 4 ∧ i0.bytes = 24) := ⟨hi, hz0, hz1, hz2⟩
  clear hi hz0 hz1 hz2
  go_enter Try.func33, Try.ntmps33
  go_wp2
  go_loopw [8, 3] (fun i o wr => ∃ k : Nat, i = .int .i64 k ∧ k ≤ n ∧ Grow w 86 4 o k (rcells (l.take k)) wr) (fun i _ _ => n - (intOf i).toNat)
  case atStart => exact ⟨0, rfl, Nat.zero_le _, Grow.begin _ _ _⟩
  case round =>
    obtain ⟨k, rfl, hk, hm⟩ := hrel
    have HM := Lib.hid hm
    clear hm
    obtain ⟨av, cv, nv, hvv⟩ : ∃ ao co no, u3 = .slice ao no co := by
      obtain ⟨a, c, e, _⟩ := HM.out.seg.shape
      exact ⟨_, _, _, e⟩
    subst hvv
    by_cases hkn : k < n
    · obtain ⟨x, hx⟩ : ∃ x, l[k]? = some x := ⟨_, List.getElem?_eq_getElem (by rw [← HN.out]; exact hkn)⟩
      obtain ⟨b, off, rfl, hb, p0, p1, p2, p3⟩ := rep_ent HV.out hx rfl
      have p0 := HM.out.mod.cell p0
      have p1 := HM.out.mod.cell p1
      have p2 := HM.out.mod.cell p2
      have p3 := HM.out.mod.cell p3
      have HT : Hid (rcells (l.take (k + 1)) = rcells (l.take k) ++ x.cells) := Lib.hid (by
        obtain ⟨h1, h2⟩ := List.getElem?_eq_some_iff.1 hx
        rw [List.take_succ_eq_append_getElem h1, h2, rcells_snoc])
      have HX1 := Lib.hid (Rep.ones x)
      obtain ⟨rk, rn, ri, rf⟩ := x
      simp only at p0 p1 p2 p3
      have HJ := Lib.hid ((HM.out.more ((Mod.refl (fun _ => False) wr).alloc (.cells #[.int .u8 (rk : Int), .int .i64 (rn : Int), .int .u32 (ri : Int), .int .u32 (rf : Int)] 39))).more ((Mod.refl (fun _ => False) _).alloc (.cells #[.int .u8 (rk : Int), .int .i64 (rn : Int), .int .u32 (ri : Int), .int .u32 (rf : Int)] 86)))
      have HS := Lib.hid (src_cells (w := wr.alloc (.cells #[.int .u8 (rk : Int), .int .i64 (rn : Int), .int .u32 (ri : Int), .int .u32 (rf : Int)] 39)) (n0 := wr.heap.size + 1) (size := 4) (by simp) 86 #[.int .u8 (rk : Int), .int .i64 (rn : Int), .int .u32 (ri : Int), .int .u32 (rf : Int)] rfl HX1.out)
      have HK : Hid (k + 1 ≤ 1000000) := Lib.hid (by omega)
      clear hx
      go_wp2_with (at_builtin; refine wpList_append_seg rfl (.tmp 12) (.tmp 14) 84 rfl i0 _ 4 24 Try.underlying84 HI.out.1 HI.out.2.1 HI.out.2.2.1 HI.out.2.2.2 rfl (by decide) rfl HJ.out.seg _ 1 _ rfl HS.out (by have := HK.out; unfold maxLen; omega) (by have := HK.out; omega) ?_; intro v3 w3 hs3 hg3 ho3; have H3 := Lib.hid (HJ.out.app hs3 hg3 ho3); (obtain ⟨a3, c3, n3, rfl⟩ : ∃ a c n, v3 = .slice a n c := (by obtain ⟨a, c, e, _⟩ := hs3.shape; exact ⟨_, _, _, e⟩)); clear hs3 hg3 ho3)
      go_roundw
      case rel => exact ⟨k + 1, by go_num, by omega, by rw [HT.out]; exact H3.out⟩
      case measure => simp [intOf]; omega
    · have HT : Hid (l.take k = l ∧ k = n) := Lib.hid ⟨by rw [List.take_of_length_le (by have := HN.out; omega)], by omega⟩
      rw [HT.out.1, HT.out.2] at HM
      go_wp2
      go_ret
      exact ⟨_, rfl, HM.out⟩

deriving instance DecidableEq for Rep
set_option maxRecDepth 100000 in
set_option maxHeartbeats 1000000 in
theorem same_no (v u : Value) (l m : List Rep) (w : World) (hv : RdS w 4 v l.length (rcells l)) (hu : RdS w 4 u m.length (rcells m)) (hne : l.length ≠ m.length) :
    Calls Try.prog 32 #[v, u] w fun e w' => e = .returned (.bool false) ∧ Mod (fun _ => False) w w' := by
  obtain ⟨a, c, rfl, hc1, hc2, -⟩ := hv.shape
  obtain ⟨a', c', rfl, hc1', hc2', -⟩ := hu.shape
  clear hv hu
  have t1 : ¬ ((l.length : Int) = (m.length : Int)) := by omega
  generalize l.length = n at *
  generalize m.length = k at *
  clear hne
  go_enter Try.func32, Try.ntmps32
  go_wp2
  go_ret
  exact ⟨rfl, Mod.refl _ _⟩

set_option maxRecDepth 100000 in
set_option maxHeartbeats 1000000 in
theorem same_yes (v u : Value) (l : List Rep) (w : World) (hv : RdS w 4 v l.length (rcells l)) (hu : RdS w 4 u l.length (rcells l)) :
    Calls Try.prog 32 #[v, u] w fun e w' => e = .returned (.bool true) ∧ Mod (fun _ => False) w w' := by
  have HV := Lib.hid hv
  have HU := Lib.hid hu
  obtain ⟨a, c, rfl, hc1, hc2, -⟩ := hv.shape
  obtain ⟨a', c', rfl, hc1', hc2', -⟩ := hu.shape
  clear hv hu
  obtain ⟨n, hl⟩ : ∃ n, n = l.length := ⟨_, rfl⟩
  have HN := Lib.hid hl
  rw [← hl] at HV HU hc1 hc1' ⊢
  clear hl
  go_enter Try.func32, Try.ntmps32
  go_wp2
  go_loopw [13] (fun i wr => ∃ k : Nat, i = .int .i64 k ∧ k ≤ n ∧ Mod (fun _ => False) w wr) (fun i _ => n - (intOf i).toNat)
  case atStart => exact ⟨0, rfl, Nat.zero_le _, Mod.refl _ _⟩
  case round =>
    obtain ⟨k, rfl, hk, hm⟩ := hrel
    have HM := Lib.hid hm
    clear hm
    by_cases hkn : k < n
    · obtain ⟨x, hx⟩ : ∃ x, l[k]? = some x := ⟨_, List.getElem?_eq_getElem (by rw [← HN.out]; exact hkn)⟩
      obtain ⟨b, off, rfl, hb, p0, p1, p2, p3⟩ := rep_ent HV.out hx rfl
      obtain ⟨b', off', rfl, hb', q0, q1, q2, q3⟩ := rep_ent HU.out hx rfl
      have p0 : ∀ x : MW wr, x.w.cell? _ = some _ := fun x => x.cell (HM.out.cell p0)
      have p1 : ∀ x : MW wr, x.w.cell? _ = some _ := fun x => x.cell (HM.out.cell p1)
      have p2 : ∀ x : MW wr, x.w.cell? _ = some _ := fun x => x.cell (HM.out.cell p2)
      have p3 : ∀ x : MW wr, x.w.cell? _ = some _ := fun x => x.cell (HM.out.cell p3)
      have q0 : ∀ x : MW wr, x.w.cell? _ = some _ := fun x => x.cell (HM.out.cell q0)
      have q1 : ∀ x : MW wr, x.w.cell? _ = some _ := fun x => x.cell (HM.out.cell q1)
      have q2 : ∀ x : MW wr, x.w.cell? _ = some _ := fun x => x.cell (HM.out.cell q2)
      have q3 : ∀ x : MW wr, x.w.cell? _ = some _ := fun x => x.cell (HM.out.cell q3)
      clear hx
      go_wp2_with fail
      refine wp_region_quietM (by kernel_rfl) (by kernel_rfl) ?_
      repeat (go_big_quiet_step (fail))
      refine wpQuiet_nil ?_
      intro w3 hm3
      have M3 : Hid (Mod (fun _ => False) w w3) := Lib.hid (HM.out.trans (MW.mod_of hm3))
      clear hm3 p0 p1 p2 p3 q0 q1 q2 q3
      go_wp2
      go_roundw
      case rel => exact ⟨k + 1, by go_num, by omega, M3.out⟩
      case measure => simp [intOf]; omega
    · go_wp2
      go_ret
      exact ⟨rfl, HM.out⟩
end Go.Proofs.Ytdblilhkojafgaa
