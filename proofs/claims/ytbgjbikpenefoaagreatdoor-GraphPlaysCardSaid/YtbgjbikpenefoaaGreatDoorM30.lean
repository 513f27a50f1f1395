/- Lemmas for the claim, in one text: YH, Y7. -/
import Derived.Test.YtbgjbikpenefoaaGreatDoorM26
import Derived.Test.YtbgjbikpenefoaaGreatDoorM27
import Derived.Test.YtbgjbikpenefoaaGreatDoorM28
import Derived.Test.YtbgjbikpenefoaaGreatDoorM29
import Derived.Test.YtbgjbikpenefoaaGreatDoorM17
import Derived.Test.YtbgjbikpenefoaaGreatDoorM02

/- YH: what is needed of it (by shake.py). -/

/- YH, as far as the seat goes. -/
/- graph.run, at any operation that is well formed. -/
namespace Go.Proofs.YtbgjbikpenefoaaGreatDoor
set_option linter.unusedVariables false
set_option linter.unusedSimpArgs false
open Go.RowKit Go.Maps
theorem pairN {ns : List Node} (hL : Good (ns.map Node.x)) {n : Node} (hn : n ∈ ns) {b : Nat} {v : Val} (h : entX n.x.halves b = some v) : ∃ u, findN ns b = some u := by
  obtain ⟨t, ht, e1, _⟩ := hL.pair n.x (List.mem_map_of_mem hn) _ (entX_mem h)
  cases hf : findN ns b with
  | some u => exact ⟨u, rfl⟩
  | none =>
    have : findV (ns.map Node.x) b = none := by rw [findN_map, hf]; rfl
    exact absurd e1 (findV_none.1 this t ht)
theorem run_any (o : Opr) (hok : opOK o = true) (ho : o.Fits) (g bm : Nat) (ns : List Node) (pos : Int) (w : World) (hp : PG w g bm ns) (hL : Good (ns.map Node.x)) :
    Calls Tryz.prog 53 #[.pointer (some ⟨g, 0, none⟩), .int .i64 pos, o.v] w (RunP g bm ns o pos w) := by
  obtain ⟨⟨k1, k9⟩, ha, htwo, hkey, hval⟩ := opOK_parts hok
  obtain ⟨kind, a, b, key, ⟨vk, vn, vs⟩⟩ := o
  simp only at k1 k9 ha htwo hkey
  cases hf : findN ns a with
  | none =>
    by_cases h1 : kind = 1
    · subst h1
      exact run_1b g bm ns a b key vk vn vs pos w hp hL ho hf
    · exact run_none g bm ns kind a b key vk vn vs pos w hp hL ho h1 hf
  | some n =>
    have hn := (findN_mem hf).1
    have hk : kind = 1 ∨ kind = 2 ∨ kind = 3 ∨ kind = 4 ∨ kind = 5 ∨ kind = 6 ∨ kind = 7 ∨ kind = 8 ∨ kind = 9 := by omega
    rcases hk with rfl | rfl | rfl | rfl | rfl | rfl | rfl | rfl | rfl
    · exact run_1a g bm ns a b key vk vn vs pos w hp hL ho n hf
    · have hx := b0_2 hL hok hn
      by_cases hd : 0 < n.x.halves.length
      · exact run_2a g bm ns a b key vk vn vs pos w hp hL ho n hf hx hd
      · exact run_2b g bm ns a b key vk vn vs pos w hp hL ho n hf hx (by omega)
    · have hx := b0_3 hL hok hn
      by_cases hz : vk = 0
      · exact run_3b g bm ns a b key vk vn vs pos w hp hL ho n hf hx hkey hz
      · exact run_3a g bm ns a b key vk vn vs pos w hp hL ho n hf hx hkey hz
    · exact run_4 g bm ns a b key vk vn vs pos w hp hL ho n hf (b0_4 hL hok hn)
    · cases hx : entX n.x.halves b with
      | some v =>
        obtain ⟨u, hfb⟩ := pairN hL hn hx
        obtain ⟨ek, en, es⟩ := v
        exact run_5b g bm ns a b key vk vn vs pos w hp hL ho n u ek en es hf hfb hx
      | none =>
        cases hfb : findN ns b with
        | none => exact run_5a g bm ns a b key vk vn vs pos w hp hL ho n hf hfb hx
        | some u =>
          by_cases hd : 16 ≤ n.x.halves.length
          · exact run_5c g bm ns a b key vk vn vs pos w hp hL ho n u hf hfb hx hd
          · by_cases hd2 : 16 ≤ u.x.halves.length
            · exact run_5e g bm ns a b key vk vn vs pos w hp hL ho n u hf hfb hx hd hd2
            · exact run_5d g bm ns a b key vk vn vs pos w hp hL ho n u hf hfb hx hd hd2 (fun e => (htwo rfl).2 e.symm)
    · cases hx : entX n.x.halves b with
      | none => exact run_6a g bm ns a b key vk vn vs pos w hp hL ho n hf hx
      | some v =>
        obtain ⟨u, hfb⟩ := pairN hL hn hx
        obtain ⟨ek, en, es⟩ := v
        exact run_6b g bm ns a b key vk vn vs pos w hp hL ho n u ek en es hf hfb hx (fun e => (htwo rfl).2 e.symm)
    · cases hx : entX n.x.halves b with
      | none => exact run_7a g bm ns a b key vk vn vs pos w hp hL ho n hf hx
      | some v =>
        obtain ⟨ek, en, es⟩ := v
        exact run_7b g bm ns a b key vk vn vs pos w hp hL ho n ek en es hf hx
    · exact run_8 g bm ns a b key vk vn vs pos w hp hL ho n hf (b0_8 hL hok hn)
    · exact run_9 g bm ns a b key vk vn vs pos w hp hL ho n hf (b0_9 hL hok hn)
end Go.Proofs.YtbgjbikpenefoaaGreatDoor

/- Y7: what is needed of it (by shake.py). -/

/- Y7, as far as the seat goes. -/
/- fault.Code, first, chains, Links of an error with its place. -/
namespace Go.Proofs.YtbgjbikpenefoaaGreatDoor
set_option linter.unusedVariables false
set_option linter.unusedSimpArgs false
open Go.RowKit
set_option maxRecDepth 100000 in
set_option maxHeartbeats 2000000 in
theorem code_any (c : Nat) (code pos : Int) (v : Nat) (w : World) (hg : ErrT w) (hc : w.heap[c]? = some (chainO code pos v)) :
    Calls Tryz.prog 55 #[chainV c] w fun e w' => e = .returned (.int .i64 code) ∧ Mod (fun _ => False) w w' := by
  have hm : Mod (fun _ => False) w (w.alloc (.cells #[.int .i64 0] 30)) := (Mod.refl _ _).alloc _
  have HA := Lib.hid (asE_hit c code pos v w.heap.size (.int .i64 0) (w.alloc (.cells #[.int .i64 0] 30)) (hg.keep hm (fun f => f)) (hm.heap hc (fun f => f)) (heap_alloc_new' _ _))
  have HM := Lib.hid hm
  clear hg hc hm
  unfold chainV at *
  go_enter Tryz.func55, Tryz.ntmps55
  go_wp2_with (go_at_call 75; refine HA.out.mono ?_; (rintro e w1 ⟨rfl, hm1, hb1⟩); have HM1 : Hid (Mod (fun _ => False) w w1) := Lib.hid (HM.out.trans' hm1 (fun i hi e => by omega)); have c0 := cell_of_row hb1 0; have z0 := lt_of_block hb1; simp at c0; clear hm1 hb1)
  go_ret
  exact ⟨rfl, HM1.out⟩
theorem first_any (t : TypeId) (v : Value) (w : World) (h : t = 140 ∨ t = 30) : Calls Tryz.prog 93 #[.iface t v] w fun e w' => e = .returned .nilIface ∧ w = w' := by
  have t8 := noUsE
  have t9 := noUsC
  rcases h with rfl | rfl
  all_goals
    go_enter Tryz.func93, Tryz.ntmps93
    go_wp2
    go_ret
    exact ⟨rfl, rfl⟩
theorem infoCh : (Tryz.prog.info? 140).map (fun i => (i.zero, i.size, i.bytes)) = some (some (.pointer none), 1, 8) := by kernel_rfl
theorem infoLk : (Tryz.prog.info? 118).map (fun i => (i.zero, i.size, i.bytes)) = some (some (.agg #[.int .i64 0, .int .u32 0]), 2, 16) := by kernel_rfl
set_option maxRecDepth 100000 in
set_option maxHeartbeats 4000000 in
theorem chains_any (c : Nat) (code pos : Int) (v : Nat) (w : World) (hg : ErrT w) (hc : w.heap[c]? = some (chainO code pos v)) :
    Calls Tryz.prog 76 #[chainV c] w fun e w' => ∃ vo, e = .returned vo ∧ Mod (fun _ => False) w w' ∧ RdS w' 1 vo 1 [.pointer (some ⟨c, 0, none⟩)] := by
  have HG := Lib.hid hg
  have HC := Lib.hid hc
  have HF1 := Lib.hid (fun v w => first_any 140 v w (.inl rfl))
  have HF2 := Lib.hid (fun v w => first_any 30 v w (.inr rfl))
  have HA1 : Hid (∀ w1, Mod (fun _ => False) w w1 → ∀ tb, w1.heap[tb]? = some (.cells #[.pointer none] 140 (0, 0)) → Calls Tryz.prog 75 #[.iface 140 (.pointer (some ⟨c, 0, none⟩)), .iface 166 (.pointer (some ⟨tb, 0, none⟩))] w1 fun e w' => e = .returned (.bool true) ∧ Mod (fun k => k = tb) w1 w' ∧ w'.heap[tb]? = some (.cells #[.pointer (some ⟨c, 0, none⟩)] 140 (0, 0))) := Lib.hid (fun w1 m tb ht => asC_hit c tb _ w1 (hg.keep m (fun f => f)) ht)
  have HA2 : Hid (∀ w1, Mod (fun _ => False) w w1 → ∀ tb, w1.heap[tb]? = some (.cells #[.pointer none] 140 (0, 0)) → Calls Tryz.prog 75 #[.iface 30 (.int .i64 code), .iface 166 (.pointer (some ⟨tb, 0, none⟩))] w1 fun e w' => e = .returned (.bool false) ∧ Mod (fun _ => False) w1 w') := Lib.hid (fun w1 m tb ht => asC_miss code tb _ w1 (hg.keep m (fun f => f)) ht)
  obtain ⟨i0, hi, hz0, hz1, hz2⟩ := info_parts infoCh
  have HI : Hid (Tryz.prog.info? 140 = some i0 ∧ i0.zero = some (.pointer none) ∧ i0.size = 1 ∧ i0.bytes = 8) := ⟨hi, hz0, hz1, hz2⟩
  clear hi hz0 hz1 hz2 hg hc
  unfold chainV
  go_enter Tryz.func76, Tryz.ntmps76
  go_wp2
  refine wp_loop_rounds 2 ?_
  rw [rounds_succ]
  have HM0 : Hid (Mod (fun _ => False) w (w.alloc (.cells #[.pointer none] 140))) := Lib.hid ((Mod.refl _ _).alloc _)
  have HAA := Lib.hid (HA1.out _ HM0.out w.heap.size (heap_alloc_new' _ _))
  go_wp2_with (first
    | (go_at_call 93; refine (HF1.out _ _).mono ?_; (rintro e w1 ⟨rfl, rfl⟩))
    | (go_at_call 75; refine HAA.out.mono ?_; (rintro e w1 ⟨rfl, hm1, hb1⟩); have HM1 : Hid (Mod (fun _ => False) w w1) := Lib.hid (HM0.out.trans' hm1 (fun i hi e => by omega)); have HB1 := Lib.hid hb1; have c0 := cell_of_row hb1 0; have z0 := lt_of_block hb1; simp at c0; have HSR := Lib.hid (src_cells (w := w1) rfl (size := 1) 140 #[.pointer (some ⟨c, 0, none⟩)] rfl (by simp [Value.oneCell'])); have HSG : Hid (Seg (w1.alloc (.cells #[.pointer (some ⟨c, 0, none⟩)] 140)) 140 1 (.slice none 0 0) 0 []) := Lib.hid (Seg.nil _ _ _); clear hm1 hb1)
    | (at_builtin; refine wpList_append_seg rfl (.tmp 17) (.tmp 19) 138 rfl i0 _ 1 8 Tryz.underlying138 HI.out.1 HI.out.2.1 HI.out.2.2.1 HI.out.2.2.2 rfl (by decide) rfl HSG.out _ 1 _ rfl HSR.out (by unfold maxLen; omega) (by omega) ?_; intro v3 w3 hs3 hg3 ho3; have HM3 : Hid (Mod (fun _ => False) w w3) := Lib.hid ((HM1.out.alloc _).grown hg3 (fun b hb _ => by cases hb)); have HS3 := Lib.hid hs3; have hb3 := (mod_grown hg3).heap (heap_alloc_old HB1.out) (fun e => by cases e); have d0 := cell_of_row hb3 0; have z3 := lt_of_block hb3; simp at d0; have e2 := cell_of_row (HM3.out.heap HC.out (fun f => f)) 2; have ze := lt_of_block (HM3.out.heap HC.out (fun f => f)); simp at e2; (obtain ⟨a3, c3, hv3, -⟩ := hs3.shape); subst hv3; clear hs3 hg3 ho3 hb3))
  rw [rounds_succ]
  have HM4 : Hid (Mod (fun _ => False) w (w3.alloc (.cells #[.pointer none] 140))) := Lib.hid (HM3.out.alloc _)
  have HAB := Lib.hid (HA2.out _ HM4.out w3.heap.size (heap_alloc_new' _ _))
  go_wp2_with (first
    | (go_at_call 93; refine (HF2.out _ _).mono ?_; (rintro e w4 ⟨rfl, rfl⟩))
    | (go_at_call 75; refine HAB.out.mono ?_; (rintro e w4 ⟨rfl, hm4⟩); have HM5 := Lib.hid (HM4.out.trans hm4); have HS5 := Lib.hid ((HS3.out.alloc (.cells #[.pointer none] 140)).mod hm4 (fun _ _ f => f)); clear hm4))
  go_ret
  exact ⟨_, rfl, HM5.out, HS5.out.rdS⟩
set_option maxRecDepth 100000 in
set_option maxHeartbeats 4000000 in
theorem links_any (c : Nat) (code pos : Int) (v : Nat) (w : World) (hg : ErrT w) (hc : w.heap[c]? = some (chainO code pos v)) :
    Calls Tryz.prog 56 #[chainV c] w fun e w' => ∃ vo, e = .returned vo ∧ Mod (fun _ => False) w w' ∧ RdS w' 2 vo 1 [.int .i64 pos, .int .u32 (v : Int)] := by
  have HC := Lib.hid hc
  have HCH := Lib.hid (chains_any c code pos v w hg hc)
  obtain ⟨i0, hi, hz0, hz1, hz2⟩ := info_parts infoLk
  have HI : Hid (Tryz.prog.info? 118 = some i0 ∧ i0.zero = some (.agg #[.int .i64 0, .int .u32 0]) ∧ i0.size = 2 ∧ i0.bytes = 16) := ⟨hi, hz0, hz1, hz2⟩
  clear hi hz0 hz1 hz2 hg hc
  unfold chainV at *
  go_enter Tryz.func56, Tryz.ntmps56
  go_wp2_with (go_at_call 76; refine HCH.out.mono ?_; (rintro e w1 ⟨vo, rfl, hm1, hr1⟩); have HM1 := Lib.hid hm1; (obtain ⟨a1, c1, rfl, h1, h2, -⟩ := hr1.shape); (obtain ⟨b1, o1, e1, hb1, p0⟩ := RdS.one hr1 (i := 0) (x := .pointer (some ⟨c, 0, none⟩)) rfl rfl); subst e1; simp only [Nat.add_zero] at p0; have q0 := cell_of_row (hm1.heap HC.out (fun f => f)) 0; have q1 := cell_of_row (hm1.heap HC.out (fun f => f)) 1; have zq := lt_of_block (hm1.heap HC.out (fun f => f)); simp at q0 q1; have HSR := Lib.hid (src_cells (w := w1) rfl (size := 2) 118 #[.int .i64 pos, .int .u32 (v : Int)] rfl (by simp [Value.oneCell'])); have HSG : Hid (Seg (w1.alloc (.cells #[.int .i64 pos, .int .u32 (v : Int)] 118)) 118 2 (.slice none 0 0) 0 []) := Lib.hid (Seg.nil _ _ _); clear hm1 hr1)
  refine wp_loop_rounds 2 ?_
  rw [rounds_succ]
  go_wp2_with (at_builtin; refine wpList_append_seg rfl (.tmp 13) (.tmp 18) 119 rfl i0 _ 2 16 Tryz.underlying119 HI.out.1 HI.out.2.1 HI.out.2.2.1 HI.out.2.2.2 rfl (by decide) rfl HSG.out _ 1 _ rfl HSR.out (by unfold maxLen; omega) (by omega) ?_; intro v3 w3 hs3 hg3 ho3; have HM3 : Hid (Mod (fun _ => False) w w3) := Lib.hid ((HM1.out.alloc _).grown hg3 (fun b hb _ => by cases hb)); have HS3 := Lib.hid hs3; (obtain ⟨a3, c3, hv3, -⟩ := hs3.shape); subst hv3; clear hs3 hg3 ho3)
  rw [rounds_succ]
  go_wp2
  go_ret
  exact ⟨_, rfl, HM3.out, HS3.out.rdS⟩
end Go.Proofs.YtbgjbikpenefoaaGreatDoor
