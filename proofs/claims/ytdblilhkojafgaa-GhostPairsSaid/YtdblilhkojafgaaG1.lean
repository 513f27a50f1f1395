/- Two tallies, each of its own; a vertex that lies at the bottom. -/
import Derived.Test.YtdblilhkojafgaaTC
import Derived.Test.YtdblilhkojafgaaT13
import Derived.Test.YtdblilhkojafgaaVI
namespace Go.Proofs.Ytdblilhkojafgaa
set_option linter.unusedVariables false
open Go.RowKit Go.Maps

def MapAt (w : World) (k : Nat) : Prop := ∃ (P : Program) (kt : TypeId) (q : IntKind) (es : Ents), UMap P kt q w k es
theorem MapAt.cell {w : World} {k : Nat} (h : MapAt w k) {a : Addr} {v : Value} (hc : w.cell? a = some v) : a.block ≠ k := by
  obtain ⟨P, kt, q, es, hU⟩ := h
  exact cell_ne_map hU hc
theorem MapAt.box {w : World} {k g : Nat} (h : MapAt w k) {cs : Array Value} {t : TypeId} {f : Nat × Nat} (hb : w.heap[g]? = some (.cells cs t f)) : g ≠ k := by
  obtain ⟨P, kt, q, es, hU⟩ := h
  exact map_ne_cells hU hb
/-- What is read stays as it is where nothing but maps is written. -/
theorem RdS.offMaps {S : Nat → Prop} {w w' : World} {size : Nat} {v : Value} {n : Nat} {us : List Value} (h : RdS w size v n us) (m : Mod S w w') (hS : ∀ k, S k → MapAt w k) : RdS w' size v n us := by
  refine ⟨h.len, h.shape, fun a c e j u hu => ?_⟩
  obtain ⟨b, off, rfl, hb, hc⟩ := h.cell a c e j u hu
  exact ⟨b, off, rfl, Nat.lt_of_lt_of_le hb m.size, m.cellS hc (fun hs => (hS _ hs).cell hc rfl)⟩
theorem TAt.off {S : Nat → Prop} {w w' : World} {g bh bn : Nat} {Z : Zs} {en : Ents} {c : Nat → Nat} {m : Nat} (h : TAt w g bh bn Z en c m) (mm : Mod S w w') (hS : ∀ k, S k → MapAt w k ∧ k ≠ bh ∧ k ≠ bn) : TAt w' g bh bn Z en c m :=
  ⟨mm.heap h.box (fun hs => (hS _ hs).1.box h.box rfl), h.held.mod mm (fun hs => (hS _ hs).2.1 rfl), h.named.mod mm (fun hs => (hS _ hs).2.2 rfl), h.ne,
   fun z hz => let s := h.seg z hz; ⟨s.rd.offMaps mm (fun k hk => (hS k hk).1), s.apart, s.fit, s.key, fun b hb => Nat.lt_of_lt_of_le (s.lt b hb) mm.size⟩, h.cnt, h.len, h.zlen, h.top⟩
theorem TAt.maps {w : World} {g bh bn : Nat} {Z : Zs} {en : Ents} {c : Nat → Nat} {m : Nat} (h : TAt w g bh bn Z en c m) : MapAt w bh ∧ MapAt w bn := ⟨⟨_, _, _, _, h.held⟩, ⟨_, _, _, _, h.named⟩⟩

def TalAt (w : World) (g bh bn : Nat) (H : Names) (m : Nat) : Prop := ∃ Z en, TAt w g bh bn Z en (tot (namesZ Z)) m ∧ namesZ Z = H
theorem TalAt.keep {w w' : World} {g bh bn : Nat} {H : Names} {m : Nat} (h : TalAt w g bh bn H m) (mm : Mod (fun _ => False) w w') : TalAt w' g bh bn H m := by
  obtain ⟨Z, en, h1, h2⟩ := h
  exact ⟨Z, en, h1.keep mm, h2⟩
theorem TalAt.up {w : World} {g bh bn : Nat} {H : Names} {m m' : Nat} (h : TalAt w g bh bn H m) (hm : m ≤ m') : TalAt w g bh bn H m' := by
  obtain ⟨Z, en, h1, h2⟩ := h
  exact ⟨Z, en, h1.up hm, h2⟩
theorem TalAt.off {S : Nat → Prop} {w w' : World} {g bh bn : Nat} {H : Names} {m : Nat} (h : TalAt w g bh bn H m) (mm : Mod S w w') (hS : ∀ k, S k → MapAt w k ∧ k ≠ bh ∧ k ≠ bn) : TalAt w' g bh bn H m := by
  obtain ⟨Z, en, h1, h2⟩ := h
  exact ⟨Z, en, h1.off mm hS, h2⟩
theorem TalAt.maps {w : World} {g bh bn : Nat} {H : Names} {m : Nat} (h : TalAt w g bh bn H m) : MapAt w bh ∧ MapAt w bn := by
  obtain ⟨Z, en, h1, h2⟩ := h
  exact h1.maps
theorem TalAt.new {w : World} {g bh bn : Nat} (h : TAt w g bh bn [] [] (fun _ => 0) 0) : TalAt w g bh bn [] 0 := ⟨[], [], h.alike (fun k => by simp [tot, namesZ, mapG]), rfl⟩
theorem right_len {x : Vtx} (h : x.right = true) : x.halves.length ≤ 16 := by
  unfold Vtx.right at h
  simp only [Bool.and_eq_true, decide_eq_true_eq] at h
  exact h.1.2
/-- The names when a vertex was put. -/
def putH (x : Vtx) (H : Names) : Names := if x.right then turnH x.id x.there (x.halves.map Ent.key) H else H
theorem talPut (x : Vtx) (vp vh : Value) (g bh bn : Nat) (H : Names) (m : Nat) (w : World) (hx : VRd w vp vh x) (hT : TalAt w g bh bn H m) (hm : m < 990000) :
    Calls Try.prog 26 #[.pointer (some ⟨g, 0, none⟩), vtxV x vp vh] w fun e w' => e = .returned (.int .i64 (errB x.right)) ∧ TalAt w' g bh bn (putH x H) (m + 17) ∧ Mod (fun k => k = bh ∨ k = bn) w w' := by
  cases hr : x.right with
  | false =>
    refine (tput_bad x vp vh _ w hx hr).mono ?_
    rintro e w' ⟨rfl, mm⟩
    refine ⟨rfl, ?_, mm.mono (fun _ _ f => f.elim)⟩
    have : putH x H = H := by unfold putH; rw [hr]; rfl
    rw [this]
    exact (hT.keep mm).up (by omega)
  | true =>
    obtain ⟨Z, en, h1, h2⟩ := hT
    have hl := right_len hr
    refine (tput_ok x vp vh g bh bn Z en m w hx hr h1 (by omega)).mono ?_
    rintro e w' ⟨rfl, Z', en', h3, h4, mm⟩
    refine ⟨rfl, TalAt.up ⟨Z', en', h3, ?_⟩ (by omega), mm⟩
    unfold putH
    rw [hr, h4, h2]
    rfl
theorem talOf (g bh bn : Nat) (H : Names) (m v : Nat) (w : World) (hT : TalAt w g bh bn H m) (hv : v < 4294967296) :
    Calls Try.prog 29 #[.pointer (some ⟨g, 0, none⟩), .int .u32 (v : Int)] w fun e w' => e = .returned (.int .i64 (ofC H (tot H) v : Nat)) ∧ Mod (fun _ => False) w w' := by
  obtain ⟨Z, en, h1, rfl⟩ := hT
  exact of_any g bh bn Z en _ m v w h1 hv

structure TalW (w : World) (g bh bn : Nat) (H : Names) (m : Nat) (wx : World) : Prop where
  lo : w.heap.size ≤ g ∧ w.heap.size ≤ bh ∧ w.heap.size ≤ bn
  tal : TalAt wx g bh bn H m
/-- Two tallies in new memory. -/
structure TwoT (w : World) (g1 h1 n1 g2 h2 n2 : Nat) (H1 H2 : Names) (m : Nat) (wx : World) : Prop where
  mod : Mod (fun _ => False) w wx
  one : TalW w g1 h1 n1 H1 m wx
  two : TalW w g2 h2 n2 H2 m wx
  ne : h1 ≠ h2 ∧ h1 ≠ n2 ∧ n1 ≠ h2 ∧ n1 ≠ n2
section
variable {w wx wy : World} {g1 h1 n1 g2 h2 n2 : Nat} {H1 H2 H' : Names} {m m' : Nat}
theorem TwoT.keep (h : TwoT w g1 h1 n1 g2 h2 n2 H1 H2 m wx) (mm : Mod (fun _ => False) wx wy) : TwoT w g1 h1 n1 g2 h2 n2 H1 H2 m wy :=
  ⟨h.mod.trans mm, ⟨h.one.lo, h.one.tal.keep mm⟩, ⟨h.two.lo, h.two.tal.keep mm⟩, h.ne⟩
theorem TwoT.swap (h : TwoT w g1 h1 n1 g2 h2 n2 H1 H2 m wx) : TwoT w g2 h2 n2 g1 h1 n1 H2 H1 m wx := ⟨h.mod, h.two, h.one, Ne.symm h.ne.1, Ne.symm h.ne.2.2.1, Ne.symm h.ne.2.1, Ne.symm h.ne.2.2.2⟩
theorem TwoT.up (h : TwoT w g1 h1 n1 g2 h2 n2 H1 H2 m wx) (hm : m ≤ m') : TwoT w g1 h1 n1 g2 h2 n2 H1 H2 m' wx := ⟨h.mod, ⟨h.one.lo, h.one.tal.up hm⟩, ⟨h.two.lo, h.two.tal.up hm⟩, h.ne⟩
theorem TwoT.step (h : TwoT w g1 h1 n1 g2 h2 n2 H1 H2 m wx) (hT : TalAt wy g1 h1 n1 H' m') (hm : m ≤ m') (mm : Mod (fun k => k = h1 ∨ k = n1) wx wy) : TwoT w g1 h1 n1 g2 h2 n2 H' H2 m' wy := by
  have l := h.one.lo
  refine ⟨h.mod.trans' mm (fun i hi e => by omega), ⟨h.one.lo, hT⟩, ⟨h.two.lo, (h.two.tal.off mm ?_).up hm⟩, h.ne⟩
  have t := h.one.tal.maps
  rintro k (rfl | rfl)
  · exact ⟨t.1, h.ne.1, h.ne.2.1⟩
  · exact ⟨t.2, h.ne.2.2.1, h.ne.2.2.2⟩
theorem TwoT.put1 (h : TwoT w g1 h1 n1 g2 h2 n2 H1 H2 m wx) (x : Vtx) (vp vh : Value) (hx : VRd wx vp vh x) (hm : m < 990000) :
    Calls Try.prog 26 #[.pointer (some ⟨g1, 0, none⟩), vtxV x vp vh] wx fun e w' => e = .returned (.int .i64 (errB x.right)) ∧ TwoT w g1 h1 n1 g2 h2 n2 (putH x H1) H2 (m + 17) w' ∧ Mod (fun k => k = h1 ∨ k = n1) wx w' := by
  refine (talPut x vp vh g1 h1 n1 H1 m wx hx h.one.tal hm).mono ?_
  rintro e w' ⟨rfl, hT, mm⟩
  exact ⟨rfl, h.step hT (by omega) mm, mm⟩
theorem TwoT.put2 (h : TwoT w g1 h1 n1 g2 h2 n2 H1 H2 m wx) (x : Vtx) (vp vh : Value) (hx : VRd wx vp vh x) (hm : m < 990000) :
    Calls Try.prog 26 #[.pointer (some ⟨g2, 0, none⟩), vtxV x vp vh] wx fun e w' => e = .returned (.int .i64 (errB x.right)) ∧ TwoT w g1 h1 n1 g2 h2 n2 H1 (putH x H2) (m + 17) w' ∧ Mod (fun k => k = h2 ∨ k = n2) wx w' := by
  refine (h.swap.put1 x vp vh hx hm).mono ?_
  rintro e w' ⟨rfl, hT, mm⟩
  exact ⟨rfl, hT.swap, mm⟩
theorem TwoT.of1 (h : TwoT w g1 h1 n1 g2 h2 n2 H1 H2 m wx) (v : Nat) (hv : v < 4294967296) :
    Calls Try.prog 29 #[.pointer (some ⟨g1, 0, none⟩), .int .u32 (v : Int)] wx fun e w' => e = .returned (.int .i64 (ofC H1 (tot H1) v : Nat)) ∧ TwoT w g1 h1 n1 g2 h2 n2 H1 H2 m w' ∧ Mod (fun _ => False) wx w' := by
  refine (talOf g1 h1 n1 H1 m v wx h.one.tal hv).mono ?_
  rintro e w' ⟨rfl, mm⟩
  exact ⟨rfl, h.keep mm, mm⟩
theorem two_new {w1 w2 w3 : World} (m0 : w.heap.size ≤ w1.heap.size) (mw : Mod (fun _ => False) w w1) (m1 : Mod (fun _ => False) w1 w2) (t1 : TAt w2 (w1.heap.size + 2) w1.heap.size (w1.heap.size + 1) [] [] (fun _ => 0) 0)
    (m2 : Mod (fun _ => False) w2 w3) (t2 : TAt w3 (w2.heap.size + 2) w2.heap.size (w2.heap.size + 1) [] [] (fun _ => 0) 0) :
    TwoT w (w1.heap.size + 2) w1.heap.size (w1.heap.size + 1) (w2.heap.size + 2) w2.heap.size (w2.heap.size + 1) [] [] 0 w3 := by
  have s2 : w1.heap.size + 2 < w2.heap.size := (Array.getElem?_eq_some_iff.1 t1.box).1
  exact ⟨(mw.trans m1).trans m2, ⟨⟨by omega, by omega, by omega⟩, (TalAt.new t1).keep m2⟩, ⟨⟨by omega, by omega, by omega⟩, TalAt.new t2⟩, by omega, by omega, by omega, by omega⟩
end
/-- Two tallies in new memory, behind a box that stays. -/
structure MvAt (w : World) (o : Array Value) (g1 h1 n1 g2 h2 n2 : Nat) (H1 H2 : Names) (m : Nat) (wx : World) : Prop where
  two : TwoT w g1 h1 n1 g2 h2 n2 H1 H2 m wx
  box : wx.heap[w.heap.size]? = some (.cells o 31 (0, 0))
section
variable {w wx wy : World} {o : Array Value} {g1 h1 n1 g2 h2 n2 : Nat} {H1 H2 H' : Names} {m m' : Nat}
theorem MvAt.mod (h : MvAt w o g1 h1 n1 g2 h2 n2 H1 H2 m wx) : Mod (fun _ => False) w wx := h.two.mod
theorem MvAt.keep (h : MvAt w o g1 h1 n1 g2 h2 n2 H1 H2 m wx) (mm : Mod (fun _ => False) wx wy) : MvAt w o g1 h1 n1 g2 h2 n2 H1 H2 m wy :=
  ⟨h.two.keep mm, mm.heap h.box (fun f => f)⟩
theorem MvAt.swap (h : MvAt w o g1 h1 n1 g2 h2 n2 H1 H2 m wx) : MvAt w o g2 h2 n2 g1 h1 n1 H2 H1 m wx := ⟨h.two.swap, h.box⟩
theorem MvAt.up (h : MvAt w o g1 h1 n1 g2 h2 n2 H1 H2 m wx) (hm : m ≤ m') : MvAt w o g1 h1 n1 g2 h2 n2 H1 H2 m' wx := ⟨h.two.up hm, h.box⟩
theorem MvAt.put1 (h : MvAt w o g1 h1 n1 g2 h2 n2 H1 H2 m wx) (x : Vtx) (vp vh : Value) (hx : VRd wx vp vh x) (hm : m < 990000) :
    Calls Try.prog 26 #[.pointer (some ⟨g1, 0, none⟩), vtxV x vp vh] wx fun e w' => e = .returned (.int .i64 (errB x.right)) ∧ MvAt w o g1 h1 n1 g2 h2 n2 (putH x H1) H2 (m + 17) w' := by
  refine (h.two.put1 x vp vh hx hm).mono ?_
  rintro e w' ⟨rfl, hT, mm⟩
  have t := h.two.one.tal.maps
  exact ⟨rfl, hT, mm.heap h.box (fun hs => hs.elim (t.1.box h.box) (t.2.box h.box))⟩
theorem MvAt.put2 (h : MvAt w o g1 h1 n1 g2 h2 n2 H1 H2 m wx) (x : Vtx) (vp vh : Value) (hx : VRd wx vp vh x) (hm : m < 990000) :
    Calls Try.prog 26 #[.pointer (some ⟨g2, 0, none⟩), vtxV x vp vh] wx fun e w' => e = .returned (.int .i64 (errB x.right)) ∧ MvAt w o g1 h1 n1 g2 h2 n2 H1 (putH x H2) (m + 17) w' := by
  refine (h.swap.put1 x vp vh hx hm).mono ?_
  rintro e w' ⟨rfl, hT⟩
  exact ⟨rfl, hT.swap⟩
theorem MvAt.of1 (h : MvAt w o g1 h1 n1 g2 h2 n2 H1 H2 m wx) (v : Nat) (hv : v < 4294967296) :
    Calls Try.prog 29 #[.pointer (some ⟨g1, 0, none⟩), .int .u32 (v : Int)] wx fun e w' => e = .returned (.int .i64 (ofC H1 (tot H1) v : Nat)) ∧ MvAt w o g1 h1 n1 g2 h2 n2 H1 H2 m w' := by
  refine (h.two.of1 v hv).mono ?_
  rintro e w' ⟨rfl, _, mm⟩
  exact ⟨rfl, h.keep mm⟩
theorem MvAt.of2 (h : MvAt w o g1 h1 n1 g2 h2 n2 H1 H2 m wx) (v : Nat) (hv : v < 4294967296) :
    Calls Try.prog 29 #[.pointer (some ⟨g2, 0, none⟩), .int .u32 (v : Int)] wx fun e w' => e = .returned (.int .i64 (ofC H2 (tot H2) v : Nat)) ∧ MvAt w o g1 h1 n1 g2 h2 n2 H1 H2 m w' := by
  refine (h.swap.of1 v hv).mono ?_
  rintro e w' ⟨rfl, hT⟩
  exact ⟨rfl, hT.swap⟩
end
theorem getG_insG {β : Type} (k : Nat) (b : β) : ∀ l : List (Nat × β), (∀ p ∈ l, p.1 ≠ k) → getG k (insG (k, b) l) = some b
  | [], _ => by simp [insG, getG]
  | p :: r, h => by
    have hp : p.1 ≠ k := h p (by simp)
    unfold insG
    split
    · simp [getG]
    · have ih := getG_insG k b r (fun q hq => h q (by simp [hq]))
      unfold getG at ih ⊢
      rw [List.find?_cons_of_neg (by simpa using hp)]
      exact ih
theorem getG_putG {β : Type} (k : Nat) (b : β) (l : List (Nat × β)) : getG k (putG k b l) = some b := getG_insG k b _ (fun p hp => (mem_delG.1 hp).2)
/-- Who is held is no ghost. -/
theorem of_held {x : Vtx} {H : Names} (hr : x.right = true) (ht : x.there = true) (c : Nat → Nat) : ofC (putH x H) c x.id = 0 := by
  unfold ofC putH turnH
  rw [hr, ht, if_pos rfl, if_pos rfl, getG_putG]
  rfl
def gone (id : Nat) : Vtx := ⟨id, false, [], []⟩
theorem gone_right {x : Vtx} (hr : x.right = true) : (gone x.id).right = true := by
  unfold Vtx.right at hr
  simp only [Bool.and_eq_true] at hr
  unfold Vtx.right
  have h : numB (gone x.id).id = true := hr.1.1.1
  rw [h]
  rfl
end Go.Proofs.Ytdblilhkojafgaa
