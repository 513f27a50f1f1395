/- Lemmas for the claim, in one text: YL, K5, KB. -/
import Derived.Test.YtbgjbikpenefoaaGreatDoorM16
import Derived.Test.YtbgjbikpenefoaaGreatDoorIA
import Derived.Test.YtbgjbikpenefoaaGreatDoorM10
import Derived.Maps.RangeWalk
import Derived.Deep.RegionHeld3

/- YL: what is needed of it (by shake.py). -/

/- YL, as far as the seat goes. -/
/- maps.Copy at the graph's maps. -/
namespace Go.Proofs.YtbgjbikpenefoaaGreatDoor
set_option linter.unusedVariables false
set_option linter.unusedSimpArgs false
open Go.RowKit Go.Maps
theorem Mod.oneGrown {w w' : World} {b : Nat} (m : Mod (fun i => i = b) w w') : w.grownBy w' (some b) := ⟨m.os, m.tape, m.output, m.size, fun i hi h => m.block i hi (fun e => h (by rw [e]))⟩
theorem atKey_valU {es : Ents} {x : Nat} {c : Value} (h : ∀ zd, (entsD .u32 es).atKey (.int .u32 (x : Int)) zd = .held c) (hs : (getL x es).isSome = true) : getL x es = some c := by
  obtain ⟨d, hd⟩ := Option.isSome_iff_exists.1 hs
  have := h (.held c)
  rw [entsD_at, hd] at this
  simp only [Option.getD_some] at this
  injection this with this
  rw [hd, this]
/-- A graph, and copies some of which have been laid into it. -/
structure Mixed (g bm bw : Nat) (nsi cs : List Node) (B : Nat) (w : World) (ss : List Nat) (wr : World) (nsk : List Node) : Prop where
  mod : Mod (fun b => b = bm) w wr
  pg : PG wr g bm nsk
  mem : ∀ n : Node, n ∈ nsk ↔ (n ∈ nsi ∧ n.x.id ∉ ss) ∨ (n ∈ cs ∧ n.x.id ∈ ss)
theorem Mixed.low {g bm bw B : Nat} {nsi cs nsk : List Node} {w wr : World} {ss : List Nat} (h : Mixed g bm bw nsi cs B w ss wr nsk) (hp : PG w g bm nsi) (hc : NM w bw cs) (b : Nat) (hb : Foot g bm nsk b) : Foot g bm nsi b ∨ ∃ n ∈ cs, b ∈ n.blocks ∧ n.x.id ∈ ss := by
  rcases hb with hb | hb | ⟨n, hn, hb⟩
  · exact .inl (.inl hb)
  · exact .inl (.inr (.inl hb))
  · rcases (h.mem n).1 hn with ⟨h1, _⟩ | ⟨h1, h2⟩
    · exact .inl (.inr (.inr ⟨n, h1, hb⟩))
    · exact .inr ⟨n, h1, hb, h2⟩
theorem Mixed.lt {g bm bw B : Nat} {nsi cs nsk : List Node} {w wr : World} {ss : List Nat} (h : Mixed g bm bw nsi cs B w ss wr nsk) (hp : PG w g bm nsi) (hc : NM w bw cs) (b : Nat) (hb : Foot g bm nsk b) : b < w.heap.size := by
  rcases h.low hp hc b hb with f | ⟨n, h1, h2, _⟩
  · exact hp.lt b f
  · exact hc.lt b (.inr ⟨n, h1, h2⟩)
theorem Mixed.grown {g bm bw B : Nat} {nsi cs nsk : List Node} {w wr wx : World} {ss : List Nat} (h : Mixed g bm bw nsi cs B w ss wr nsk) (hp : PG w g bm nsi) (hc : NM w bw cs) {r : Nat} (hr : w.heap.size ≤ r) (hg : wr.grownBy wx (some r)) : Mixed g bm bw nsi cs B w ss wx nsk := by
  have m1 : Mod (fun i => i = r) wr wx := (Mod.refl _ wr).grown hg (fun b hb _ => by injection hb with hb; exact hb.symm)
  exact ⟨h.mod.trans' m1 (fun i hi e => by omega), h.pg.mod m1 (fun b hb e => by have := h.lt hp hc b hb; omega), h.mem⟩
theorem Mixed.next {g bm bw B : Nat} {nsi cs nsk : List Node} {w wr w5 : World} {ss : List Nat} (h : Mixed g bm bw nsi cs B w ss wr nsk) (hp : PG w g bm nsi) (hc : NM w bw cs) (hd : ∀ b, FootN bw cs b → ¬ Foot g bm nsi b)
    {c : Node} (hcc : c ∈ cs) (hs : c.x.id ∉ ss) (hM : Mod (fun b => b = bm) wr w5) (hU : UMap Tryz.prog 23 .u32 w5 bm (putL c.x.id (.pointer (some ⟨c.p, 0, none⟩)) (nsk.map Node.f))) : ∃ nsk', Mixed g bm bw nsi cs B w (ss ++ [c.x.id]) w5 nsk' := by
  have hbl : ∀ b ∈ c.blocks, ¬ Foot g bm nsk b := fun b hb f => by
    rcases h.low hp hc b f with f | ⟨n, h1, h2, h3⟩
    · exact hd b (.inr ⟨c, hcc, hb⟩) f
    · have := hc.sep c hcc n h1 b hb h2
      subst this
      exact hs h3
  have hbm : bm ∉ c.blocks := fun hb => hd bm (.inr ⟨c, hcc, hb⟩) (.inr (.inl rfl))
  have hn : NAt w5 c := (hc.each c hcc).mod (h.mod.trans hM) (fun b hb e => hbm (e ▸ hb))
  refine ⟨layG keyN c false nsk, h.mod.trans hM, h.pg.add hM hU hn hbl (hc.own c hcc), fun n => ?_⟩
  rw [layG_mem h.pg.nm.rising, h.mem]
  simp only [List.mem_append, List.mem_singleton, keyN, true_and]
  constructor
  · rintro (⟨(⟨h1, h2⟩ | ⟨h1, h2⟩), hne⟩ | rfl)
    · exact .inl ⟨h1, fun e => e.elim h2 hne⟩
    · exact .inr ⟨h1, .inl h2⟩
    · exact .inr ⟨hcc, .inr rfl⟩
  · rintro (⟨h1, h2⟩ | ⟨h1, h2 | h2⟩)
    · exact .inl ⟨.inl ⟨h1, fun e => h2 (.inl e)⟩, fun e => h2 (.inr e)⟩
    · by_cases e : n.x.id = c.x.id
      · exact absurd (e ▸ h2) hs
      · exact .inl ⟨.inr ⟨h1, h2⟩, e⟩
    · exact .inr (hc.rising.uniq h1 hcc h2)
set_option maxRecDepth 100000 in
set_option maxHeartbeats 4000000 in
theorem mcopy_any (g bm bw : Nat) (nsi cs : List Node) (w : World) (hp : PG w g bm nsi) (hc : NM w bw cs) (hd : ∀ b, FootN bw cs b → ¬ Foot g bm nsi b) :
    Calls Tryz.prog 54 #[.map (some bm), .map (some bw)] w fun e w' => e = .returned (.tuple #[]) ∧ Mod (fun b => b = bm) w w' ∧ ∃ nsf, PG w' g bm nsf ∧ ∀ n : Node, n ∈ nsf ↔ (n ∈ nsi ∧ ∀ c ∈ cs, c.x.id ≠ n.x.id) ∨ n ∈ cs := by
  have HP := Lib.hid hp
  have HC := Lib.hid hc
  have HD := Lib.hid hd
  have hown := hc.map.own
  have HRI := Lib.hid (UMap.rising hc.map (int_keyed Tryz.underlying23))
  clear hp hc hd
  go_enter Tryz.func54, Tryz.ntmps54
  go_wp2_with (first
    | (at_range; refine wpList_range_own _ rfl _ 79 rfl 23 83 (int_keyed Tryz.underlying23) Tryz.underlying79 _ bw (cs.map Node.f).length _ rfl hown ?_; intro w0 hrg0 hg0 hs0)
    | go_in)
  go_frame
  go_loopw [4] (fun _ wr => ∃ (left : Lit → Bool) (cnt : Nat) (ss : List Nat) (nsk : List Node), wr.ranges Tryz.prog 23 rawE bw w.heap.size (cs.map Node.f).length (entsD .u32 (cs.map Node.f)) left cnt ∧ CollU .u32 (cs.map Node.f) left ss ∧ Mixed g bm bw nsi cs 0 w ss wr nsk)
    (fun _ wr => wr.rangeLeft bw w.heap.size)
  case atStart =>
    have hl : Mixed g bm bw nsi cs 0 w [] w nsi := ⟨Mod.refl _ _, HP.out, fun n => by simp⟩
    have m0 : Mod (fun b => b = bm) w w0 := (Mod.refl _ _).grown hg0 (fun b hb _ => by cases hb)
    exact ⟨_, _, [], nsi, hrg0, CollU.start _ _, ⟨m0, HP.out.mod ((Mod.refl (fun _ => False) w).grown hg0 (fun b hb _ => by cases hb)) (fun _ _ f => f), hl.mem⟩⟩
  case round =>
    obtain ⟨left, cnt, ss, nsk, hrg, hC, hL⟩ := hrel
    go_wp2_with (first
      | (at_next; refine wpList_next_ranges _ rfl _ rfl 23 (int_keyed Tryz.underlying23) rawE (keyV .u32) id (fun key kl hk => by obtain ⟨x, hx, _⟩ := key_nat (by simp) Tryz.underlying23 hk; exact ⟨x, hx⟩) (fun v _ _ => ⟨v, rfl⟩) bw w.heap.size (cs.map Node.f).length _ _ _ rfl hrg ?_ ?_)
      | go_in)
    · intro hc0 hl0
      have HR : Hid (∃ nsf, PG wr g bm nsf ∧ ∀ n : Node, n ∈ nsf ↔ (n ∈ nsi ∧ ∀ c ∈ cs, c.x.id ≠ n.x.id) ∨ n ∈ cs) := Lib.hid (by
        have hperm := hC.perm HRI.out hl0
        have key : ∀ i, i ∈ ss ↔ ∃ c ∈ cs, c.x.id = i := fun i => by
          rw [hperm.mem_iff]
          simp [Node.f]
        refine ⟨nsk, hL.pg, fun n => ?_⟩
        rw [hL.mem, key]
        constructor
        · rintro (⟨h1, h2⟩ | ⟨h1, _⟩)
          · exact .inl ⟨h1, fun c hc e => h2 ⟨c, hc, e⟩⟩
          · exact .inr h1
        · rintro (⟨h1, h2⟩ | h1)
          · exact .inl ⟨h1, fun ⟨c, hc, e⟩ => h2 c hc e⟩
          · exact .inr ⟨h1, n, h1, rfl⟩)
      have HML := Lib.hid hL.mod
      clear hrg hC hL hown hrg0 hc0 hl0
      go_wp2
      go_end0
      exact ⟨rfl, HML.out, HR.out⟩
    · intro x c kl yd yp w2 cnt2 hkey hlk hv hat hrg2 hlt hg2 hs2 hen
      obtain ⟨x', ex, rfl, _⟩ := key_nat (by simp) Tryz.underlying23 hkey
      obtain rfl : x = x' := keyV_inj ex
      have hy : yd = DataW.held c := by
        have h : some ((DataW.held c, []) : DataW Value × List MemPlace) = some (yd, yp) := hv
        injection h with h
        injection h with h1 h2
        exact h1.symm
      subst hy
      have hC2 := hC.step hlk hat
      have hhas : (getL x (cs.map Node.f)).isSome = true := by rw [← entsD_has .u32]; exact has_true_of_atKey hat
      have hgc := atKey_valU hat hhas
      rw [getL_nodes] at hgc
      obtain ⟨nc, hnc, hcv⟩ := Option.map_eq_some_iff.1 hgc
      subst hcv
      obtain ⟨hcc, hci⟩ := findN_mem hnc
      subst hci
      have hns : nc.x.id ∉ ss := fun h => by
        have := ((hC.2 nc.x.id).1 h).2
        rw [this] at hlk; cases hlk
      have hL2 := hL.grown HP.out HC.out (Nat.le_refl _) hg2
      have hlen : (nsk.map Node.f).length < maxLen := by
        have h1 := hL2.pg.nm.rising
        have h2 := Rising.short h1 (b := 0) (m := 4294967296) (fun n hn => ⟨Nat.zero_le _, (hL2.pg.nm.each n hn).fit.id⟩)
        rw [List.length_map]
        unfold maxLen; omega
      obtain ⟨w5, hrun, hU, hM⟩ := hL2.pg.nm.map.store Tryz.underlying23 Tryz.underlying79 hlen (u32key (HC.out.each nc hcc).fit.id) (.pointer (some ⟨nc.p, 0, none⟩))
      obtain ⟨nsk', hL5⟩ := hL2.next HP.out HC.out HD.out hcc hns hM hU
      have hbmw : some bm ≠ some bw := fun e => by
        injection e with e
        exact HD.out bw (.inl rfl) (.inr (.inl e.symm))
      have HRG5 := Lib.hid (hrg2.kept hM.oneGrown (fun e => hbmw e.symm) (fun e => by injection e with e; have := HP.out.lt bm (.inr (.inl rfl)); omega))
      have HL5 := Lib.hid hL5
      have HC2 := Lib.hid hC2
      have HLT : Hid (cnt2 < wr.rangeLeft bw w.heap.size) := Lib.hid (by rw [hrg.left_eq]; exact hlt)
      clear hrg hC hL hown hrg0 hg2 hg0 hs0 hs2 hC2 hrg2 hkey hlk hv hat hhas hgc hnc hlt hlen ex hL2 hL5 hns hcc hU hM hbmw
      simp only [keyV] at hen
      go_wp2
      go_roundw
      case rel => exact ⟨_, cnt2, _, nsk', by rw [List.length_map]; exact HRG5.out, HC2.out, HL5.out⟩
      case measure => rw [HRG5.out.left_eq]; exact HLT.out
end Go.Proofs.YtbgjbikpenefoaaGreatDoor

/- K5: what is needed of it (by shake.py). -/

/- K5, as far as the seat goes. -/
/- gussetref03.one: kind 5 (printed by gen_one.py). -/
namespace Go.Proofs.YtbgjbikpenefoaaGreatDoor
set_option linter.unusedVariables false
set_option linter.unusedSimpArgs false
open Go.RowKit
theorem RdS.off4 {w w' : World} {kk : IntKind} {g : Nat} {c0 c1 c2 u : Value} {t : TypeId} {v : Value} {l : List Ent} (hg : w.heap[g]? = some (.cells #[c0, c1, c2, u] t (0, 0))) (hu : ∀ s, u ≠ .string s) (h : RdS w 4 v l.length (cellsOf kk l)) (m : Mod (fun k => k = g) w w') : RdS w' 4 v l.length (cellsOf kk l) := by
  refine ⟨h.len, h.shape, fun a c e j u' hu' => ?_⟩
  obtain ⟨b, off, ea, hb, hc⟩ := h.cell a c e j u' hu'
  refine ⟨b, off, ea, Nat.lt_of_lt_of_le hb m.size, m.cellS hc (fun hbg => ?_)⟩
  have hbg : b = g := hbg
  have hj : 0 < l.length := by
    rcases Nat.eq_zero_or_pos l.length with h0 | h0
    · have := List.length_eq_zero_iff.1 h0
      subst this
      simp [cellsOf] at hu'
    · exact h0
  obtain ⟨x, hx⟩ : ∃ x, l[0]? = some x := ⟨_, List.getElem?_eq_getElem hj⟩
  obtain ⟨b1, off1, ea1, _, _, _, _, h3⟩ := h.ent hx (a := a) (c := c) e
  rw [ea] at ea1
  injection ea1 with e1
  injection e1 with e1 e2
  subst e1 e2 hbg
  rw [cell_of_row hg] at h3
  rcases Nat.eq_zero_or_pos off with h0 | h0
  · subst h0
    simp at h3
    exact hu _ h3
  · rw [Array.getElem?_eq_none (by simp; omega)] at h3
    cases h3
theorem VRd.off4 {w w' : World} {g : Nat} {c0 c1 c2 u : Value} {t : TypeId} {vp vh : Value} {x : Vtx} (h : VRd w vp vh x) (hg : w.heap[g]? = some (.cells #[c0, c1, c2, u] t (0, 0))) (hu : ∀ s, u ≠ .string s) (m : Mod (fun k => k = g) w w') : VRd w' vp vh x :=
  ⟨h.fits, h.props.off4 hg hu m, h.halves.off4 hg hu m⟩
end Go.Proofs.YtbgjbikpenefoaaGreatDoor

/- KB: what is needed of it (by shake.py). -/

/- KB, as far as the seat goes. -/
/- K7, K8, K9 in one. -/
/- gussetref03.one: kind 7 (printed by gen_one.py). -/
namespace Go.Proofs.YtbgjbikpenefoaaGreatDoor
set_option linter.unusedVariables false
set_option linter.unusedSimpArgs false
open Go.RowKit
end Go.Proofs.YtbgjbikpenefoaaGreatDoor
/- gussetref03.one: kind 8 (printed by gen_one.py). -/
namespace Go.Proofs.YtbgjbikpenefoaaGreatDoor
set_option linter.unusedVariables false
set_option linter.unusedSimpArgs false
open Go.RowKit
end Go.Proofs.YtbgjbikpenefoaaGreatDoor
/- gussetref03.one: kind 9 (printed by gen_one.py). -/
namespace Go.Proofs.YtbgjbikpenefoaaGreatDoor
set_option linter.unusedVariables false
set_option linter.unusedSimpArgs false
open Go.RowKit
theorem toList_inj {a b : ByteArray} (h : a.toList = b.toList) : a = b := by
  rw [ByteArray.toList_eq, ByteArray.toList_eq] at h
  obtain ⟨⟨a⟩⟩ := a
  obtain ⟨⟨b⟩⟩ := b
  simp at h
  rw [h]
end Go.Proofs.YtbgjbikpenefoaaGreatDoor
