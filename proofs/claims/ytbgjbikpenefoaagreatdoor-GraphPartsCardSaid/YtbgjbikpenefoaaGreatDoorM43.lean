/- Lemmas for the claim, in one text: YAD, YBI. -/
import Derived.Test.YtbgjbikpenefoaaGreatDoorM42
import Derived.Test.YtbgjbikpenefoaaGreatDoorM41
import Derived.Test.YtbgjbikpenefoaaGreatDoorM13

/- YAD: what is needed of it (by shake.py). -/

/- YAD, as far as the seat goes. -/
/- gussetlaw03.awake, walked. -/
namespace Go.Proofs.YtbgjbikpenefoaaGreatDoor
set_option linter.unusedVariables false
set_option linter.unusedSimpArgs false
open Go.RowKit
def aC1 : Array Value := (ocells aOps1).toArray
def aC2 : Array Value := (ocells aOps2).toArray
theorem lit_ops (cs : Array Value) (l : List Opr) (w : World) (hc : cs.toList = ocells l) (hs : cs.size = l.length * 7) (h1 : l.length ≤ maxLen) (hf : ∀ o ∈ l, o.Fits) : ORd (w.alloc (.cells cs 71)) (.slice (some ⟨w.heap.size, 0, none⟩) l.length l.length) l := by
  have h := Seg.lit (e := 71) (size := 7) w cs l.length hs h1 (by rw [hc]; exact ocells_ones l)
  rw [hc] at h
  exact ⟨h.rdS, hf⟩
theorem aFits1 : ∀ o ∈ aOps1, o.Fits := by
  intro o ho
  simp only [aOps1, List.mem_cons, List.mem_nil_iff, or_false] at ho
  rcases ho with rfl | rfl | rfl | rfl <;> exact ⟨by decide, by decide, by decide, by decide, ⟨by decide, by decide, by decide⟩⟩
theorem aFits2 : ∀ o ∈ aOps2, o.Fits := by
  intro o ho
  simp only [aOps2, List.mem_cons, List.mem_nil_iff, or_false] at ho
  rcases ho with rfl | rfl <;> exact ⟨by decide, by decide, by decide, by decide, ⟨by decide, by decide, by decide⟩⟩
theorem ado1 (g bm n0 : Nat) (W : World) (hp : PG W g bm []) (hg : ErrT W) (hn : W.heap.size = n0) : Calls Tryz.prog 13 #[.pointer (some ⟨g, 0, none⟩), .agg #[.int .u8 1, .slice (some ⟨n0, 0, none⟩) 4 4, .int .u32 0, .int .i64 0, .int .i64 0]] (W.alloc (.cells aC1 71)) (DoA g bm [] ⟨1, aOps1, 0, 0, 0⟩ (W.alloc (.cells aC1 71))) := by
  subst hn
  have ho := lit_ops aC1 aOps1 W rfl rfl (by decide) aFits1
  exact gdo_any g bm [] ⟨1, aOps1, 0, 0, 0⟩ _ _ (hp.keep ((Mod.refl _ _).alloc _)) Good.nil ho (by decide) (hg.keep ((Mod.refl (fun _ => False) _).alloc _) (fun f => f))
theorem ado2 (g bm n0 : Nat) (ns : List Node) (hns : ns.map Node.x = (doG [] ⟨1, aOps1, 0, 0, 0⟩).1) (hG : Good (ns.map Node.x)) (W : World) (hp : PG W g bm ns) (hg : ErrT W) (hn : W.heap.size = n0) : Calls Tryz.prog 13 #[.pointer (some ⟨g, 0, none⟩), .agg #[.int .u8 1, .slice (some ⟨n0, 0, none⟩) 2 2, .int .u32 0, .int .i64 0, .int .i64 0]] (W.alloc (.cells aC2 71)) (DoA g bm ns ⟨1, aOps2, 0, 0, 0⟩ (W.alloc (.cells aC2 71))) := by
  subst hn
  have ho := lit_ops aC2 aOps2 W rfl rfl (by decide) aFits2
  exact gdo_any g bm ns ⟨1, aOps2, 0, 0, 0⟩ _ _ (hp.keep ((Mod.refl _ _).alloc _)) hG ho (by decide) (hg.keep ((Mod.refl (fun _ => False) _).alloc _) (fun f => f))
theorem ado1' (g bm n0 : Nat) (W : World) (hp : PG W g bm []) (hg : ErrT W) (hn : W.heap.size = n0) : Calls Tryz.prog 13 #[.pointer (some ⟨g, 0, none⟩), .agg #[.int .u8 1, .slice (some ⟨n0, 0, none⟩) 4 4, .int .u32 0, .int .i64 0, .int .i64 0]] (W.alloc (.cells aC1 71)) (fun e w' => ∃ vv vl ns', e = .returned (.agg #[.int .i64 0, .int .i64 0, vv, vl]) ∧ Turned g bm [] (doG [] ⟨1, aOps1, 0, 0, 0⟩).1 (fun _ => False) (W.alloc (.cells aC1 71)) w' ns' ∧ Seg w' 44 3 vv 0 [] ∧ Seg w' 23 1 vl 0 []) := by
  refine (ado1 g bm n0 W hp hg hn).mono ?_
  rintro e w' ⟨vv, vl, ns', rfl, h1, h2, h3, -, -⟩
  have e1 : (doG (([] : List Node).map Node.x) ⟨1, aOps1, 0, 0, 0⟩).2 = ⟨0, 0, [], []⟩ := awake1
  rw [e1] at h2 h3 ⊢
  exact ⟨vv, vl, ns', rfl, h1, h2, h3⟩
theorem ado2' (g bm n0 : Nat) (ns : List Node) (hns : ns.map Node.x = (doG [] ⟨1, aOps1, 0, 0, 0⟩).1) (hG : Good (ns.map Node.x)) (W : World) (hp : PG W g bm ns) (hg : ErrT W) (hn : W.heap.size = n0) : Calls Tryz.prog 13 #[.pointer (some ⟨g, 0, none⟩), .agg #[.int .u8 1, .slice (some ⟨n0, 0, none⟩) 2 2, .int .u32 0, .int .i64 0, .int .i64 0]] (W.alloc (.cells aC2 71)) (fun e w' => ∃ bv ov cv vl ns', e = .returned (.agg #[.int .i64 0, .int .i64 0, .slice (some ⟨bv, ov, none⟩) 2 cv, vl]) ∧ Turned g bm ns (doG (ns.map Node.x) ⟨1, aOps2, 0, 0, 0⟩).1 (fun _ => False) (W.alloc (.cells aC2 71)) w' ns' ∧ bv < w'.heap.size ∧ (∀ (j : Nat) (u : Value), (vvcells [aFive, aX])[j]? = some u → w'.cell? ⟨bv, ov + j, none⟩ = some u) ∧ Seg w' 23 1 vl 0 [] ∧ 2 ≤ cv) := by
  refine (ado2 g bm n0 ns hns hG W hp hg hn).mono ?_
  rintro e w' ⟨vv, vl, ns', rfl, h1, h2, h3, -, -⟩
  have e1 : (doG (ns.map Node.x) ⟨1, aOps2, 0, 0, 0⟩).2 = ⟨0, 0, [aFive, aX], []⟩ := by rw [hns]; exact awake2
  rw [e1] at h2 h3 ⊢
  obtain ⟨a, c, hv, hc1, hc2, -⟩ := h2.rdS.shape
  obtain ⟨bv, ov, ea, hb, -⟩ := h2.rdS.cell a c hv 0 _ rfl
  subst ea
  refine ⟨bv, ov, c, vl, ns', by rw [hv]; rfl, h1, hb, fun j u hu => ?_, h3, hc1⟩
  obtain ⟨b', o', ea, -, h4⟩ := h2.rdS.cell _ c hv j u hu
  injection ea with ea
  injection ea with e1 e2 _
  rw [e1, e2]
  exact h4
set_option maxRecDepth 100000 in
set_option maxHeartbeats 4000000 in
theorem awake_any (w : World) (hg : ErrT w) : Calls Tryz.prog 10 #[] w fun e w' => e = .returned (.bool true) ∧ Mod (fun _ => False) w w' := by
  have HE := Lib.hid hg
  clear hg
  go_enter Tryz.func10, Tryz.ntmps10
  go_upto_region 7 with (first
    | (go_at_call 11; refine (new_pg _).mono ?_; (rintro e w1 ⟨rfl, hm, hp, hz⟩); have HM1 := Lib.hid hm; have HP1 := Lib.hid hp; clear hm hp)
    | (go_at_call 13; go_loud (refine (ado1' (w.heap.size + 1) w.heap.size (w1.heap.size + 1 + 1) _ (HP1.out.keep (((Mod.refl _ w1).alloc _).alloc _)) (HE.out.keep ((HM1.out.alloc _).alloc _) (fun f => f)) (by simp)).mono ?_; (rintro e w3 ⟨vv, vl, ns3, rfl, ht, hv, hl⟩); have HT3 := Lib.hid (And.intro ht (And.intro hv hl)); (obtain ⟨a3, c3, n3, rfl⟩ : ∃ a c n, vv = .slice a n c := (by obtain ⟨a, c, e, _⟩ := hv.shape; exact ⟨_, _, _, e⟩)); (obtain ⟨a4, c4, n4, rfl⟩ : ∃ a c n, vl = .slice a n c := (by obtain ⟨a, c, e, _⟩ := hl.shape; exact ⟨_, _, _, e⟩)); clear ht hv hl)))
  have e1 := awake1
  have HG3 : Hid (Good (ns3.map Node.x)) := Lib.hid (by rw [HT3.out.1.is]; exact Good.do Good.nil _)
  obtain ⟨W5, hW5⟩ : ∃ W5, W5 = ((w1.alloc (.cells #[.int .u8 2, .int .i64 0, .string ⟨#[120]⟩] 44)).alloc (.cells #[.int .u8 1, .int .i64 5, .string ⟨#[]⟩] 44)).alloc (.cells aC1 71) := ⟨_, rfl⟩
  have hx0 : W5.heap[w1.heap.size]? = some (.cells #[.int .u8 2, .int .i64 0, .string ⟨#[120]⟩] 44 (0, 0)) := by rw [hW5]; exact heap_alloc_old (heap_alloc_old (heap_alloc_new' w1 _))
  have hf0 : W5.heap[w1.heap.size + 1]? = some (.cells #[.int .u8 1, .int .i64 5, .string ⟨#[]⟩] 44 (0, 0)) := by
    rw [hW5]
    have h := heap_alloc_new' (w1.alloc (.cells #[.int .u8 2, .int .i64 0, .string ⟨#[120]⟩] 44)) (.cells #[.int .u8 1, .int .i64 5, .string ⟨#[]⟩] 44)
    exact heap_alloc_old (by simpa using h)
  have hp5 : PG W5 (w.heap.size + 1) w.heap.size [] := by rw [hW5]; exact HP1.out.keep ((((Mod.refl _ w1).alloc _).alloc _).alloc _)
  have hm5 : Mod (fun _ => False) w W5 := by rw [hW5]; exact ((HM1.out.alloc _).alloc _).alloc _
  have ht3 := HT3.out.1
  rw [show ((w1.alloc (.cells #[.int .u8 2, .int .i64 0, .string ⟨#[120]⟩] 44)).alloc (.cells #[.int .u8 1, .int .i64 5, .string ⟨#[]⟩] 44)).alloc (.cells aC1 71) = W5 from hW5.symm] at ht3
  have hx3 := hp5.nm.box ht3.mod hx0
  have hf3 := hp5.nm.box ht3.mod hf0
  have HX3 := Lib.hid (And.intro hx3 (And.intro hf3 hm5))
  have hE5 : ErrT W5 := HE.out.keep hm5 (fun f => f)
  have HE3 : Hid (ErrT w3) := Lib.hid (hp5.nm.cell ht3.mod hE5)
  have HP3 := Lib.hid ht3.pg
  have HIS := Lib.hid ht3.is
  clear ht3 hx3 hf3 hE5 hx0 hf0 hp5 hm5 e1
  go_upto_region 8 with (go_at_call 13; go_loud (refine (ado2' (w.heap.size + 1) w.heap.size (w3.heap.size + 1) ns3 HIS.out HG3.out _ (HP3.out.keep ((Mod.refl _ w3).alloc _)) (HE3.out.keep ((Mod.refl (fun _ => False) w3).alloc _) (fun f => f)) (by simp)).mono ?_; (rintro e w7 ⟨bv, ov, cv, vl, ns7, rfl, ht, hbv, hv, hl, hcv⟩); have HT7 := Lib.hid ht; have HV7 := Lib.hid hv; (obtain ⟨a6, c6, n6, rfl⟩ : ∃ a c n, vl = .slice a n c := (by obtain ⟨a, c, e, _⟩ := hl.shape; exact ⟨_, _, _, e⟩)); clear ht hv hl))
  obtain ⟨W6, hW6⟩ : ∃ W6, W6 = (w3.alloc (.cells #[.int .i64 0, .int .i64 0, .slice a3 n3 c3, .slice a4 n4 c4] 34)).alloc (.cells aC2 71) := ⟨_, rfl⟩
  have ht7 := HT7.out
  rw [show (w3.alloc (.cells #[.int .i64 0, .int .i64 0, .slice a3 n3 c3, .slice a4 n4 c4] 34)).alloc (.cells aC2 71) = W6 from hW6.symm] at ht7
  have m36 : Mod (fun _ => False) w3 W6 := by rw [hW6]; exact ((Mod.refl _ _).alloc _).alloc _
  have ha6 : W6.heap[w3.heap.size]? = some (.cells #[.int .i64 0, .int .i64 0, .slice a3 n3 c3, .slice a4 n4 c4] 34 (0, 0)) := by rw [hW6]; exact heap_alloc_old (heap_alloc_new' w3 _)
  have hp6 := HP3.out.keep m36
  have ha7 := hp6.nm.box ht7.mod ha6
  have hx7 := hp6.nm.box ht7.mod (m36.heap HX3.out.1 (fun f => f))
  have hf7 := hp6.nm.box ht7.mod (m36.heap HX3.out.2.1 (fun f => f))
  have q0 := cell_of_row ha7 0
  have q1 := cell_of_row ha7 1
  have q2 := cell_of_row ha7 2
  have q3 := cell_of_row ha7 3
  have x0 := cell_of_row hx7 0
  have x1 := cell_of_row hx7 1
  have x2 := cell_of_row hx7 2
  have y0 := cell_of_row hf7 0
  have y1 := cell_of_row hf7 1
  have y2 := cell_of_row hf7 2
  have zq := lt_of_block ha7
  have zx := lt_of_block hx7
  have zy := lt_of_block hf7
  have v0 := HV7.out 0 _ rfl
  have v1 := HV7.out 1 _ rfl
  have v2 := HV7.out 2 _ rfl
  have v3 := HV7.out 3 _ rfl
  have v4 := HV7.out 4 _ rfl
  have v5 := HV7.out 5 _ rfl
  simp at q0 q1 q2 q3 x0 x1 x2 y0 y1 y2
  simp [aFive, aX] at v0 v1 v2 v3 v4 v5
  have HM7 : Hid (Mod (fun _ => False) w w7) := Lib.hid (by
    have mA := HP1.out.lt
    have m57 : Mod (fun b => w.heap.size ≤ b) w3 w7 := (m36.mono (fun _ _ f => f.elim)).trans (ht7.mod.mono (fun b _ f => by
      rcases HT3.out.1.newM b (by exact f) with h | h
      · rcases h with rfl | ⟨n, hn, _⟩
        · exact Nat.le_refl _
        · simp at hn
      · have := hW5 ▸ HX3.out.2.2.size
        exact Nat.le_trans this h))
    have m35 : Mod (fun b => w.heap.size ≤ b) W5 w3 := by
      have h := HT3.out.1.mod
      rw [← hW5] at h
      exact h.mono (fun b _ f => by
        rcases f with rfl | ⟨n, hn, _⟩
        · exact Nat.le_refl _
        · simp at hn)
    exact ((HX3.out.2.2.mono (T := fun b => w.heap.size ≤ b) (fun _ _ f => f.elim)).trans (m35.trans m57)).mono (fun i hi s => by omega))
  clear ha7 hx7 hf7 ha6 hp6 ht7 m36 hW5 hW6 hz
  go_wp2_with fail
  go_big_region
  all_goals
    go_wp2
    go_ret
    exact ⟨rfl, (HM7.out.alloc _).drew⟩
end Go.Proofs.YtbgjbikpenefoaaGreatDoor

/- YBI: what is needed of it (by shake.py). -/

/- YBI, as far as the seat goes. -/
/- Transactions of one operation: what comes and goes; GraphBack's closure. (Printed by gen_gback.py.) -/
namespace Go.Proofs.YtbgjbikpenefoaaGreatDoor
set_option linter.unusedVariables false
set_option linter.unusedSimpArgs false
open Go.RowKit Go.Maps
theorem do_one_ok {L : Gr} {o : Opr} (ho : opOK o = true) (he : (oneG L o).e = 0) : doG L (txR [o]) = ((oneG L o).g, ⟨0, 0, (oneG L o).vals, []⟩) := by
  have hc : checkR (txR [o]) = 0 := tx_good (by simp) (by simp) (fun x hx => by rw [List.mem_singleton.1 hx]; exact ho)
  exact doG_tx_ok hc (by rw [run_one, if_pos he])
/-- A literal list of one operation, in new memory. -/
theorem lit_one (o : Opr) (hf : o.Fits) (w : World) : ORd (w.alloc (.cells #[.int .u8 (o.kind : Int), .int .u32 (o.a : Int), .int .u32 (o.b : Int), .int .u8 (o.key : Int), .int .u8 (o.val.k : Int), .int .i64 o.val.n, .string o.val.s] 71)) (.slice (some ⟨w.heap.size, 0, none⟩) 1 1) [o] :=
  lit_ops _ [o] w rfl rfl (show 1 ≤ maxLen by decide) (fun x hx => by rw [List.mem_singleton.1 hx]; exact hf)
end Go.Proofs.YtbgjbikpenefoaaGreatDoor
