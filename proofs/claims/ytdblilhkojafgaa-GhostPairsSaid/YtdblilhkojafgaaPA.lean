/- P1, P2 in one. -/
import Derived.Test.YtdblilhkojafgaaR14
import Derived.Test.YtdblilhkojafgaaG10
import Derived.Test.YtdblilhkojafgaaRF
import Derived.Test.YtdblilhkojafgaaVI

/- GhostPairs: both sides' counts come to the same (plain). -/
namespace Go.Proofs.Ytdblilhkojafgaa
set_option linter.unusedVariables false
set_option linter.unusedSimpArgs false

theorem sum_perm {a b : List Nat} (h : a.Perm b) : a.sum = b.sum := by
  induction h with
  | nil => rfl
  | cons x _ ih => simp [ih]
  | swap x y l => simp; omega
  | trans _ _ h1 h2 => exact h1.trans h2
theorem sum_add {α : Type} (f g : α → Nat) : ∀ l : List α, (l.map fun x => f x + g x).sum = (l.map f).sum + (l.map g).sum
  | [] => rfl
  | x :: r => by simp [sum_add f g r]; omega
theorem sum_zero {α : Type} : ∀ l : List α, (l.map fun _ => 0).sum = 0
  | [] => rfl
  | x :: r => by simp [sum_zero r]
theorem sum_swap {α β : Type} (f : α → β → Nat) (b : List β) : ∀ a : List α, (a.map fun x => (b.map fun y => f x y).sum).sum = (b.map fun y => (a.map fun x => f x y).sum).sum
  | [] => by simp [sum_zero]
  | x :: r => by
    rw [List.map_cons, List.sum_cons, sum_swap f b r, ← sum_add]
    simp
theorem sum_same {α : Type} {f g : α → Nat} : ∀ {l : List α}, (∀ x ∈ l, f x = g x) → (l.map f).sum = (l.map g).sum
  | [], _ => rfl
  | x :: r, h => by rw [List.map_cons, List.map_cons, List.sum_cons, List.sum_cons, h x (by simp), sum_same (fun y hy => h y (by simp [hy]))]
theorem sum_filter {α : Type} (f : α → Nat) : ∀ l : List α, ((l.filter fun x => decide (0 < f x)).map f).sum = (l.map f).sum
  | [] => rfl
  | x :: r => by
    rw [List.filter_cons]
    by_cases h : 0 < f x
    · simp [h, sum_filter f r]
    · have h0 : f x = 0 := by omega
      simp [h0, sum_filter f r]
theorem rising_nodup {L : Gr} (h : Rising Vtx.id L) : (L.map Vtx.id).Nodup := by
  unfold Rising at h
  rw [List.nodup_iff_pairwise_ne, List.pairwise_map]
  exact h.imp (fun h e => by omega)
theorem keys_nodup {x : Vtx} (h : Rising Ent.key x.halves) : (keysX x).Nodup := by
  unfold Rising at h
  unfold keysX
  rw [List.nodup_iff_pairwise_ne, List.pairwise_map]
  exact h.imp (fun h e => by omega)
theorem turnX_perm_map {A : List Vtx} (hd : (A.map Vtx.id).Nodup) (ht : ∀ x ∈ A, x.there = true) : (turnX A).Perm (A.map fun x => (x.id, keysX x)) := by
  have h1 : (turnX A).Nodup := nodup_of_map _ (turnX_ris A).nodup
  have h2 : (A.map fun x => (x.id, keysX x)).Nodup := by
    refine nodup_of_map (fun p : Nat × List Nat => p.1) ?_
    rw [List.map_map]
    exact hd
  rw [List.perm_ext_iff_of_nodup h1 h2]
  intro p
  rw [turnX_mem A hd, List.mem_map]
  constructor
  · rintro ⟨x, hx, -, rfl⟩; exact ⟨x, hx, rfl⟩
  · rintro ⟨x, hx, rfl⟩; exact ⟨x, hx, ht x hx, rfl⟩
theorem tot_turnX {A : List Vtx} (hd : (A.map Vtx.id).Nodup) (ht : ∀ x ∈ A, x.there = true) (k : Nat) : tot (turnX A) k = (A.map fun x => (keysX x).count k).sum := by
  rw [tot_perm (turnX_perm_map hd ht)]
  unfold tot
  rw [List.flatMap_map, List.count_flatMap]
  rfl
theorem get_turnX {A : List Vtx} (hd : (A.map Vtx.id).Nodup) (ht : ∀ x ∈ A, x.there = true) (k : Nat) : getG k (turnX A) = none ↔ ∀ x ∈ A, x.id ≠ k := by
  constructor
  · intro h x hx e
    have := getG_of_mem (turnX_ris A) ((turnX_mem A hd _).2 ⟨x, hx, ht x hx, rfl⟩)
    rw [e, h] at this
    cases this
  · intro h
    cases hg : getG k (turnX A) with
    | none => rfl
    | some b =>
      obtain ⟨x, hx, -, e⟩ := (turnX_mem A hd _).1 (getG_mem hg)
      injection e with e1 e2
      exact absurd e1.symm (h x hx)
/-- What a part's ghosts come to. -/
theorem part_ghosts {L A B : List Vtx} (hL : Good L) (hp : (A ++ B).Perm L) {ga : List (Nat × Nat)} (hg : GhostsOf (turnX A) ga) :
    (∀ p ∈ ga, ∃ y ∈ B, y.id = p.1) ∧ (ga.map fun p => p.2).sum = (B.map fun y => (A.map fun x => (keysX x).count y.id).sum).sum := by
  have hdL : ((A ++ B).map Vtx.id).Nodup := ((hp.map Vtx.id).nodup_iff).2 (rising_nodup hL.rise)
  rw [List.map_append, List.nodup_append] at hdL
  obtain ⟨dA, dB, dAB⟩ := hdL
  have mA : ∀ x ∈ A, x ∈ L := fun x hx => hp.mem_iff.1 (by simp [hx])
  have mB : ∀ x ∈ B, x ∈ L := fun x hx => hp.mem_iff.1 (by simp [hx])
  have tA : ∀ x ∈ A, x.there = true := fun x hx => (hL.each x (mA x hx)).there
  have far : ∀ p ∈ ga, ∃ y ∈ B, y.id = p.1 := by
    intro p hpm
    obtain ⟨k, n⟩ := p
    obtain ⟨h1, h2, h3⟩ := (hg.2 k n).1 hpm
    rw [h3, tot_turnX dA tA] at h2
    have : ∃ x ∈ A, k ∈ keysX x := by
      apply Classical.byContradiction
      intro hc
      have : (A.map fun x => (keysX x).count k).sum = 0 := by
        rw [sum_same (g := fun _ => 0) (fun x hx => List.count_eq_zero.2 (fun h => hc ⟨x, hx, h⟩)), sum_zero]
      omega
    obtain ⟨x, hx, hk⟩ := this
    unfold keysX at hk
    obtain ⟨h, hh, rfl⟩ := List.mem_map.1 hk
    obtain ⟨y, hy, hyi, -⟩ := hL.pair x (mA x hx) h hh
    have : y ∈ A ∨ y ∈ B := List.mem_append.1 (hp.mem_iff.2 hy)
    rcases this with c | c
    · exact absurd hyi ((get_turnX dA tA _).1 h1 y c)
    · exact ⟨y, c, hyi⟩
  refine ⟨far, ?_⟩
  have perm : ga.Perm ((B.filter fun y => decide (0 < (A.map fun x => (keysX x).count y.id).sum)).map fun y => (y.id, (A.map fun x => (keysX x).count y.id).sum)) := by
    have n1 : ga.Nodup := by
      rw [List.nodup_iff_pairwise_ne]
      exact hg.1.imp (fun h e => by rw [e] at h; omega)
    have n2 : ((B.filter fun y => decide (0 < (A.map fun x => (keysX x).count y.id).sum)).map fun y => (y.id, (A.map fun x => (keysX x).count y.id).sum)).Nodup := by
      refine nodup_of_map (fun p : Nat × Nat => p.1) ?_
      rw [List.map_map]
      exact dB.sublist ((List.filter_sublist).map _)
    rw [List.perm_ext_iff_of_nodup n1 n2]
    rintro ⟨k, n⟩
    rw [List.mem_map]
    constructor
    · intro h
      obtain ⟨y, hy, e⟩ := far _ h
      simp only at e
      subst e
      obtain ⟨-, h2, h3⟩ := (hg.2 _ n).1 h
      rw [tot_turnX dA tA] at h3
      exact ⟨y, List.mem_filter.2 ⟨hy, by simp only [decide_eq_true_eq]; omega⟩, by rw [h3]⟩
    · rintro ⟨y, hy, e⟩
      rw [List.mem_filter] at hy
      injection e with e1 e2
      subst e1
      refine (hg.2 _ n).2 ⟨(get_turnX dA tA _).2 (fun x hx e => ?_), ?_, ?_⟩
      · exact dAB x.id (List.mem_map_of_mem hx) y.id (List.mem_map_of_mem hy.1) e
      · rw [← e2]; simpa using hy.2
      · rw [tot_turnX dA tA, e2]
  rw [sum_perm (perm.map fun p => p.2), List.map_map]
  exact sum_filter (fun y : Vtx => (A.map fun x => (keysX x).count y.id).sum) B
theorem half_count {L : List Vtx} (hL : Good L) {x y : Vtx} (hx : x ∈ L) (hy : y ∈ L) : (keysX x).count y.id = (keysX y).count x.id := by
  have one : ∀ x ∈ L, ∀ k, (keysX x).count k = if k ∈ keysX x then 1 else 0 := fun x hx k => (keys_nodup (hL.each x hx).hrise).count
  have twin : ∀ x ∈ L, ∀ y ∈ L, y.id ∈ keysX x → x.id ∈ keysX y := by
    intro x hx y hy h
    unfold keysX at h
    obtain ⟨e, he, h2⟩ := List.mem_map.1 h
    obtain ⟨z, hz, hzi, hm⟩ := hL.pair x hx e he
    have : z = y := hL.rise.uniq hz hy (hzi.trans h2)
    subst this
    exact List.mem_map.2 ⟨_, hm, rfl⟩
  rw [one x hx, one y hy]
  by_cases h : y.id ∈ keysX x
  · rw [if_pos h, if_pos (twin x hx y hy h)]
  · rw [if_neg h, if_neg (fun c => h (twin y hy x hx c))]
/-- Both sides' counts come to the same. -/
theorem parts_even {L A B : List Vtx} (hL : Good L) (hp : (A ++ B).Perm L) {ga gb : List (Nat × Nat)} (ha : GhostsOf (turnX A) ga) (hb : GhostsOf (turnX B) gb) :
    (∀ p ∈ ga, ∃ y ∈ B, y.id = p.1) ∧ (∀ p ∈ gb, ∃ y ∈ A, y.id = p.1) ∧ (ga.map fun p => p.2).sum = (gb.map fun p => p.2).sum := by
  obtain ⟨a1, a2⟩ := part_ghosts hL hp ha
  obtain ⟨b1, b2⟩ := part_ghosts hL (List.perm_append_comm.trans hp) hb
  refine ⟨a1, b1, ?_⟩
  rw [a2, b2, sum_swap]
  refine sum_same fun x hx => sum_same fun y hy => ?_
  exact half_count hL (hp.mem_iff.1 (by simp [hx])) (hp.mem_iff.1 (by simp [hy]))
end Go.Proofs.Ytdblilhkojafgaa

/- GhostPairs: what comes in; requests one behind the other; a graph's vertices in two parts. -/
namespace Go.Proofs.Ytdblilhkojafgaa
set_option linter.unusedVariables false
set_option linter.unusedSimpArgs false
open Go.RowKit Go.ChangeShapes Go.WideShapes Go.ChangeAt

theorem do_any (g : Nat) (gv : Value) (l : List Vs) (r : Rqt) (vo : Value) (w : World) (hg : GrAt w g gv l) (hgood : Good (l.map Vs.x)) (ho : ORd w vo r.ops) :
    Calls Try.prog 14 #[.pointer (some ⟨g, 0, none⟩), rqV r vo] w (DoP g l r w) := by
  by_cases hc : checkR r = 0
  · by_cases hk : r.kind = 1
    · exact do_1 g gv l r vo w hg hgood ho hc hk
    · cases hf : findV (l.map Vs.x) r.v with
      | none => exact do_none g gv l r vo w hg ho hc hk hf
      | some x =>
        by_cases h2 : r.kind = 2
        · exact do_2 g gv l r vo w hg hgood.tame ho hc h2 x hf
        · have h3 : r.kind = 3 := by
            unfold checkR at hc
            split at hc
            · cases hc
            · omega
          exact do_3 g gv l r vo w hg ho hc h3 x hf
  · refine (do_bad (.pointer (some ⟨g, 0, none⟩)) r vo w ho hc).mono ?_
    rintro e w' ⟨rfl, m⟩
    exact DoP.stay hg m (by unfold doG; rw [if_pos hc]) (RdS.none _ _)

/-- A request as it lies in a list. -/
structure Qs where
  r : Rqt
  vo : Value
def Qs.cells (q : Qs) : List Value := [.int .u8 (q.r.kind : Int), q.vo, .int .u32 (q.r.v : Int), .int .i64 q.r.k, .int .i64 q.r.dest]
structure QRd (w : World) (v : Value) (l : List Qs) : Prop where
  row : RdS w 5 v l.length (l.flatMap Qs.cells)
  each : ∀ q ∈ l, ORd w q.vo q.r.ops
theorem QRd.keep {w w' : World} {v : Value} {l : List Qs} (h : QRd w v l) (m : Mod (fun _ => False) w w') : QRd w' v l := ⟨h.row.keep m, fun q hq => (h.each q hq).keep m⟩
theorem QRd.ent {w : World} {v : Value} {l : List Qs} (h : QRd w v l) {i : Nat} {x : Qs} (hi : l[i]? = some x) {a : Option Addr} {n c : Nat} (e : v = .slice a n c) :
    ∃ b off, a = some ⟨b, off, none⟩ ∧ b < w.heap.size ∧ w.cell? ⟨b, off + i * 5, none⟩ = some (.int .u8 (x.r.kind : Int)) ∧ w.cell? ⟨b, off + i * 5 + 1, none⟩ = some x.vo ∧ w.cell? ⟨b, off + i * 5 + 2, none⟩ = some (.int .u32 (x.r.v : Int)) ∧ w.cell? ⟨b, off + i * 5 + 3, none⟩ = some (.int .i64 x.r.k) ∧ w.cell? ⟨b, off + i * 5 + 4, none⟩ = some (.int .i64 x.r.dest) := by
  have g := fun j hj => flat_get Qs.cells (fun _ => rfl) l i j x hi (show j < 5 from hj)
  obtain ⟨a', c', e', -⟩ := h.row.shape
  rw [e] at e'
  injection e' with e1 e2 e3
  rw [e2] at e
  have k : ∀ j u, j < 5 → x.cells[j]? = some u → ∃ b off, a = some ⟨b, off, none⟩ ∧ b < w.heap.size ∧ w.cell? ⟨b, off + (i * 5 + j), none⟩ = some u := fun j u hj hu => h.row.cell a c e (i * 5 + j) u (by rw [g j hj]; exact hu)
  obtain ⟨b, off, ea, hb, h0⟩ := k 0 _ (by omega) rfl
  have r : ∀ j u, j < 5 → x.cells[j]? = some u → w.cell? ⟨b, off + (i * 5 + j), none⟩ = some u := fun j u hj hu => by
    obtain ⟨b1, off1, ea1, _, h1⟩ := k j u hj hu
    rw [ea] at ea1
    injection ea1 with e1; injection e1 with e1 e2
    subst e1 e2
    exact h1
  refine ⟨b, off, ea, hb, h0, ?_, ?_, ?_, ?_⟩
  · rw [Nat.add_assoc]; exact r 1 _ (by omega) rfl
  · rw [Nat.add_assoc]; exact r 2 _ (by omega) rfl
  · rw [Nat.add_assoc]; exact r 3 _ (by omega) rfl
  · rw [Nat.add_assoc]; exact r 4 _ (by omega) rfl

instance : Inhabited Opr := ⟨⟨0, 0, 0, 0, noVal⟩⟩
instance : Inhabited Qs := ⟨⟨⟨0, [], 0, 0, 0⟩, .slice none 0 0⟩⟩
section
variable {H : Type} {enc : TypeId × Value → H} {W : World} {base : Nat} {v : Value} {d : DataW H} {p : List MemPlace}

set_option maxRecDepth 100000 in
theorem in_op (n : Nat) (cs : List Value) (y : DataW H × List MemPlace) (hl : cs.length = 7) (h : DataW.trod enc Try.prog W 0 (fun _ => true) true n 103 cs = some y) (hw : okW 103 y.1) : ∃ x : Opr, cs = x.cells ∧ x.Fits := by
  obtain ⟨xs, n', _, _, _, hlen, hf⟩ := DataW.trod_struct Try.underlying103 h
  match cs, hl with
  | [c0, c1, c2, c3, c4, c5, c6], _ =>
    have c8 : Try.prog.cellsOf 5 = 1 := by kernel_rfl
    have cu : Try.prog.cellsOf 27 = 1 := by kernel_rfl
    have cv : Try.prog.cellsOf 94 = 3 := by kernel_rfl
    match xs, hlen with
    | [y0, y1, y2, y3, y4], _ =>
      have h0 : DataW.trod enc Try.prog W 0 (fun _ => true) true n' 5 ((List.drop 0 [c0, c1, c2, c3, c4, c5, c6]).take (Try.prog.cellsOf 5)) = some y0 := hf 0 _ rfl
      have h1 : DataW.trod enc Try.prog W 0 (fun _ => true) true n' 27 ((List.drop 1 [c0, c1, c2, c3, c4, c5, c6]).take (Try.prog.cellsOf 27)) = some y1 := hf 1 _ rfl
      have h2 : DataW.trod enc Try.prog W 0 (fun _ => true) true n' 27 ((List.drop 2 [c0, c1, c2, c3, c4, c5, c6]).take (Try.prog.cellsOf 27)) = some y2 := hf 2 _ rfl
      have h3 : DataW.trod enc Try.prog W 0 (fun _ => true) true n' 5 ((List.drop 3 [c0, c1, c2, c3, c4, c5, c6]).take (Try.prog.cellsOf 5)) = some y3 := hf 3 _ rfl
      have h4 : DataW.trod enc Try.prog W 0 (fun _ => true) true n' 94 ((List.drop 4 [c0, c1, c2, c3, c4, c5, c6]).take (Try.prog.cellsOf 94)) = some y4 := hf 4 _ rfl
      simp only [c8, cu, cv, List.drop_zero, List.take_succ_cons, List.take_zero, List.drop_succ_cons] at h0 h1 h2 h3 h4
      obtain ⟨a0, e0, _, w0⟩ := DataW.trod_int Try.underlying5 h0
      obtain ⟨a1, e1, _, w1⟩ := DataW.trod_int Try.underlying27 h1
      obtain ⟨a2, e2, _, w2⟩ := DataW.trod_int Try.underlying27 h2
      obtain ⟨a3, e3, _, w3⟩ := DataW.trod_int Try.underlying5 h3
      obtain ⟨v, e4, hv⟩ := in_val n' _ _ rfl h4
      simp only [List.cons.injEq, and_true] at e0 e1 e2 e3 e4
      have b0 := bounds_u8 w0
      have b1 := bounds_u32 w1
      have b2 := bounds_u32 w2
      have b3 := bounds_u8 w3
      obtain ⟨k0, rfl⟩ := Int.eq_ofNat_of_zero_le b0.1
      obtain ⟨k1, rfl⟩ := Int.eq_ofNat_of_zero_le b1.1
      obtain ⟨k2, rfl⟩ := Int.eq_ofNat_of_zero_le b2.1
      obtain ⟨k3, rfl⟩ := Int.eq_ofNat_of_zero_le b3.1
      obtain ⟨rfl, rfl, rfl⟩ := e4
      subst e0 e1 e2 e3
      exact ⟨⟨k0, k1, k2, k3, v⟩, rfl, by simp only; omega, by simp only; omega, by simp only; omega, by simp only; omega, hv⟩
set_option maxRecDepth 100000 in
theorem in_req (n : Nat) (cs : List Value) (y : DataW H × List MemPlace) (hl : cs.length = 5) (h : DataW.trod enc Try.prog W 0 (fun _ => true) true n 48 cs = some y) (hw : okW 48 y.1) : ∃ q : Qs, cs = q.cells ∧ ORd W q.vo q.r.ops := by
  obtain ⟨xs, n', _, hx, _, hlen, hf⟩ := DataW.trod_struct Try.underlying48 h
  match cs, hl with
  | [c0, c1, c2, c3, c4], _ =>
    have c8 : Try.prog.cellsOf 5 = 1 := by kernel_rfl
    have co : Try.prog.cellsOf 46 = 1 := by kernel_rfl
    have cu : Try.prog.cellsOf 27 = 1 := by kernel_rfl
    have ci : Try.prog.cellsOf 3 = 1 := by kernel_rfl
    match xs, hlen with
    | [y0, y1, y2, y3, y4], _ =>
      have h0 : DataW.trod enc Try.prog W 0 (fun _ => true) true n' 5 ((List.drop 0 [c0, c1, c2, c3, c4]).take (Try.prog.cellsOf 5)) = some y0 := hf 0 _ rfl
      have h1 : DataW.trod enc Try.prog W 0 (fun _ => true) true n' 46 ((List.drop 1 [c0, c1, c2, c3, c4]).take (Try.prog.cellsOf 46)) = some y1 := hf 1 _ rfl
      have h2 : DataW.trod enc Try.prog W 0 (fun _ => true) true n' 27 ((List.drop 2 [c0, c1, c2, c3, c4]).take (Try.prog.cellsOf 27)) = some y2 := hf 2 _ rfl
      have h3 : DataW.trod enc Try.prog W 0 (fun _ => true) true n' 3 ((List.drop 3 [c0, c1, c2, c3, c4]).take (Try.prog.cellsOf 3)) = some y3 := hf 3 _ rfl
      have h4 : DataW.trod enc Try.prog W 0 (fun _ => true) true n' 3 ((List.drop 4 [c0, c1, c2, c3, c4]).take (Try.prog.cellsOf 3)) = some y4 := hf 4 _ rfl
      simp only [c8, co, cu, ci, List.drop_zero, List.take_succ_cons, List.take_zero, List.drop_succ_cons] at h0 h1 h2 h3 h4
      have hy : y.1 = .agg ([y0, y1, y2, y3, y4].map (·.1)) := by rw [hx]
      rw [hy] at hw
      have w1 : okW 46 y1.1 := okW_part Try.underlying48 hw (j := 1) rfl rfl
      obtain ⟨a0, e0, _, u0⟩ := DataW.trod_int Try.underlying5 h0
      obtain ⟨a2, e2, _, u2⟩ := DataW.trod_int Try.underlying27 h2
      obtain ⟨a3, e3, _, u3⟩ := DataW.trod_int Try.underlying3 h3
      obtain ⟨a4, e4, _, u4⟩ := DataW.trod_int Try.underlying3 h4
      obtain ⟨os, ro, go, _⟩ := in_slice Try.underlying46 (size := 7) (by kernel_rfl) (by omega) Opr.cells opr_cells Opr.Fits in_op h1 w1
      simp only [List.cons.injEq, and_true] at e0 e2 e3 e4
      have b0 := bounds_u8 u0
      have b2 := bounds_u32 u2
      obtain ⟨k0, rfl⟩ := Int.eq_ofNat_of_zero_le b0.1
      obtain ⟨k2, rfl⟩ := Int.eq_ofNat_of_zero_le b2.1
      subst e0 e2 e3 e4
      exact ⟨⟨⟨k0, os, k2, a3, a4⟩, c1⟩, rfl, ⟨ro, go⟩⟩
def InReqs (W : World) (v : Value) : Prop := ∃ l, QRd W v l
set_option maxRecDepth 100000 in
theorem in_reqs (hv : Value.okWide Try.prog W .any base 41 v) (h : DataW.Trod enc Try.prog W 0 (fun _ => true) true 41 v d p) (hs : okW 41 d) : InReqs W v := by
  obtain ⟨a0, len0, cap0, rfl⟩ := okWide_slice Try.underlying41 hv
  obtain ⟨fuel, hf⟩ := h
  obtain ⟨l, rl, gl, _⟩ := in_slice Try.underlying41 (size := 5) (by kernel_rfl) (by omega) Qs.cells (fun _ => rfl) (fun q => ORd W q.vo q.r.ops) in_req (u := .slice a0 len0 cap0) (y := (d, p)) (by simpa [Value.cells] using hf) hs
  exact ⟨l, rl, gl⟩
def InBytes (W : World) (v : Value) : Prop := ∃ l : List Nat, RdS W 1 v l.length (l.map (keyV .u8)) ∧ ∀ x ∈ l, x < 256
set_option maxRecDepth 100000 in
theorem in_bytes (hv : Value.okWide Try.prog W .any base 42 v) (h : DataW.Trod enc Try.prog W 0 (fun _ => true) true 42 v d p) (hs : okW 42 d) : InBytes W v := by
  obtain ⟨a0, len0, cap0, rfl⟩ := okWide_slice Try.underlying42 hv
  obtain ⟨fuel, hf⟩ := h
  obtain ⟨l, rl, gl, _⟩ := in_slice Try.underlying42 (size := 1) (by kernel_rfl) (by omega) (fun x : Nat => [keyV .u8 x]) (fun _ => rfl) (fun x => x < 256) (fun n cs y hl h _ => by
    obtain ⟨a, e, _, w⟩ := DataW.trod_int Try.underlying5 h
    have b := bounds_u8 w
    obtain ⟨k, rfl⟩ := Int.eq_ofNat_of_zero_le b.1
    exact ⟨k, e, by omega⟩) (u := .slice a0 len0 cap0) (y := (d, p)) (by simpa [Value.cells] using hf) hs
  rw [flat_one] at rl
  exact ⟨l, rl, gl⟩
end

/-- A vertex' slices lie in no block of vertices. -/
theorem VOwn.off_seg {w : World} {s : Vs} (h : VOwn w s) {v : Value} {size n : Nat} {xs : List Value} (hs : Seg w 31 size v n xs) : VOff (fun k => v.ownBlock = some k) s := by
  have key : ∀ b, v.ownBlock = some b → ∃ cur, w.heap[b]? = some (.cells cur 31 (0, 0)) := by
    intro b hb
    rcases hs.2.2 with ⟨rfl, _⟩ | ⟨g, off, cap, cur, rfl, hg, _⟩
    · simp [Value.ownBlock] at hb
    · simp [Value.ownBlock] at hb; subst hb; exact ⟨_, hg⟩
  have two : ∀ {t : TypeId} {u : Value} {m : Nat} {ys : List Value}, Seg w t 4 u m ys → t ≠ 31 → ∀ b, u.ownBlock = some b → ¬ v.ownBlock = some b := by
    intro t u m ys hu ht b hb e
    obtain ⟨cur, hc⟩ := key b e
    rcases hu.2.2 with ⟨rfl, _⟩ | ⟨g, off, cap, cur2, rfl, hg, _⟩
    · simp [Value.ownBlock] at hb
    · simp [Value.ownBlock] at hb
      subst hb
      rw [hc] at hg
      injection hg with hg
      injection hg with _ h2
      exact ht h2.symm
  exact ⟨two h.props (by decide), two h.halves (by decide)⟩
theorem VOwn.off_box {w : World} {s : Vs} (h : VOwn w s) {g : Nat} {cs : Array Value} {t : TypeId} (hg : w.heap[g]? = some (.cells cs t (0, 0))) (h1 : 116 ≠ t) (h2 : 96 ≠ t) : VOff (fun k => k = g) s := ⟨h.props.off_box hg h1, h.halves.off_box hg h2⟩
theorem LOwn.off_box {w : World} {v : Value} {l : List Vs} (h : LOwn w v l) {g : Nat} {cs : Array Value} {t : TypeId} (hg : w.heap[g]? = some (.cells cs t (0, 0))) (h0 : 31 ≠ t) (h1 : 116 ≠ t) (h2 : 96 ≠ t) : LOff (fun k => k = g) v l := ⟨h.row.off_box hg h0, fun s hs => (h.each s hs).off_box hg h1 h2⟩

/-- The two parts so far. -/
structure PtsAt (w : World) (va : Value) (A : List Vs) (vb : Value) (B : List Vs) (wr : World) : Prop where
  mod : Mod (fun _ => False) w wr
  box : wr.heap[w.heap.size]? = some (.cells #[va, vb] 54 (0, 0))
  la : LOwn wr va A
  lb : LOwn wr vb B
  oa : ∀ b, va.ownBlock = some b → w.heap.size ≤ b
  ob : ∀ b, vb.ownBlock = some b → w.heap.size ≤ b
  ne : ∀ b, va.ownBlock = some b → ¬ vb.ownBlock = some b
theorem PtsAt.keep {w wr wy : World} {va vb : Value} {A B : List Vs} (h : PtsAt w va A vb B wr) (m : Mod (fun _ => False) wr wy) : PtsAt w va A vb B wy :=
  ⟨h.mod.trans m, m.heap h.box (fun f => f), h.la.mod m off_false_l, h.lb.mod m off_false_l, h.oa, h.ob, h.ne⟩
theorem own_snoc {w wy : World} {v v' : Value} {l : List Vs} {s : Vs} (h : LOwn w v l) (hv : VOwn w s) (hs : Seg wy 31 4 v' (l.length + 1) (vcells l ++ s.cells)) (hg : w.grownBy wy v.ownBlock) : LOwn wy v' (l ++ [s]) := by
  have hm := mod_grown hg
  have he : ∀ t ∈ l ++ [s], VOwn wy t := fun t ht => by
    rcases List.mem_append.1 ht with ht | ht
    · exact (h.each t ht).mod hm (h.apart t ht)
    · rw [List.mem_singleton] at ht; subst ht; exact hv.mod hm (hv.off_seg h.row)
  have hs' : Seg wy 31 4 v' (l ++ [s]).length (vcells (l ++ [s])) := by rw [vcells_snoc, List.length_append]; exact hs
  exact ⟨hs', he, fun t ht => (he t ht).off_seg hs'⟩
end Go.Proofs.Ytdblilhkojafgaa
