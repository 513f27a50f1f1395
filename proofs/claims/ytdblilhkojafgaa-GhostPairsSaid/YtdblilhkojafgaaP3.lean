/- gussetlaw12.GhostPairs, walked. -/
import Derived.Test.YtdblilhkojafgaaPA
import Derived.Test.YtdblilhkojafgaaG17
namespace Go.Proofs.Ytdblilhkojafgaa
set_option linter.unusedVariables false
set_option linter.unusedSimpArgs false
open Go.RowKit

theorem PtsAt.offB {w wr : World} {va vb : Value} {A B : List Vs} (h : PtsAt w va A vb B wr) : LOff (fun k => va.ownBlock = some k) vb B :=
  ⟨fun b hb e => h.ne b e hb, fun s hs => (h.lb.each s hs).off_seg h.la.row⟩
theorem PtsAt.offA {w wr : World} {va vb : Value} {A B : List Vs} (h : PtsAt w va A vb B wr) : LOff (fun k => vb.ownBlock = some k) va A :=
  ⟨fun b hb e => h.ne b hb e, fun s hs => (h.la.each s hs).off_seg h.lb.row⟩
theorem PtsAt.left {w wr w3 : World} {va vb v3 : Value} {A B : List Vs} (h : PtsAt w va A vb B wr) {s : Vs} (hv : VOwn wr s) (hs : Seg w3 31 4 v3 (A.length + 1) (vcells A ++ s.cells)) (hg : wr.grownBy w3 va.ownBlock) (ho : v3.ownBlock = va.ownBlock ∨ v3.ownBlock = some wr.heap.size) :
    w3.heap[w.heap.size]? = some (.cells #[va, vb] 54 (0, 0)) ∧ PtsAt w v3 (A ++ [s]) vb B (w3.setCell ⟨w.heap.size, 0, none⟩ v3) := by
  have mg := mod_grown hg
  have hbx := h.la.row.off_box h.box (by decide)
  have box3 := mg.heap h.box (fun e => hbx _ e rfl)
  have m7 : Mod (fun k => k = w.heap.size) w3 (w3.setCell ⟨w.heap.size, 0, none⟩ v3) := (Mod.refl (fun k => k = w.heap.size) w3).setCell (p := ⟨w.heap.size, 0, none⟩) (fun _ => rfl) v3
  have la3 := own_snoc h.la hv hs hg
  have lb3 := h.lb.mod mg h.offB
  have hsz := h.mod.size
  refine ⟨box3, (h.mod.trans' mg (fun i hi e => by have := h.oa i e; omega)).trans' m7 (fun i hi e => by omega), by simpa using row_setCell box3 0 v3, la3.mod m7 (la3.off_box box3 (by decide) (by decide) (by decide)), lb3.mod m7 (lb3.off_box box3 (by decide) (by decide) (by decide)), fun b hb => ?_, h.ob, fun b hb hb2 => ?_⟩
  · rcases ho with e | e
    · exact h.oa b (e ▸ hb)
    · rw [e] at hb; injection hb with hb; omega
  · rcases ho with e | e
    · exact h.ne b (e ▸ hb) hb2
    · rw [e] at hb; injection hb with hb
      have := h.lb.row.lt b hb2; omega
theorem PtsAt.right {w wr w3 : World} {va vb v3 : Value} {A B : List Vs} (h : PtsAt w va A vb B wr) {s : Vs} (hv : VOwn wr s) (hs : Seg w3 31 4 v3 (B.length + 1) (vcells B ++ s.cells)) (hg : wr.grownBy w3 vb.ownBlock) (ho : v3.ownBlock = vb.ownBlock ∨ v3.ownBlock = some wr.heap.size) :
    w3.heap[w.heap.size]? = some (.cells #[va, vb] 54 (0, 0)) ∧ PtsAt w va A v3 (B ++ [s]) (w3.setCell ⟨w.heap.size, 1, none⟩ v3) := by
  have mg := mod_grown hg
  have hbx := h.lb.row.off_box h.box (by decide)
  have box3 := mg.heap h.box (fun e => hbx _ e rfl)
  have m7 : Mod (fun k => k = w.heap.size) w3 (w3.setCell ⟨w.heap.size, 1, none⟩ v3) := (Mod.refl (fun k => k = w.heap.size) w3).setCell (p := ⟨w.heap.size, 1, none⟩) (fun _ => rfl) v3
  have lb3 := own_snoc h.lb hv hs hg
  have la3 := h.la.mod mg h.offA
  have hsz := h.mod.size
  refine ⟨box3, (h.mod.trans' mg (fun i hi e => by have := h.ob i e; omega)).trans' m7 (fun i hi e => by omega), by simpa using row_setCell box3 1 v3, la3.mod m7 (la3.off_box box3 (by decide) (by decide) (by decide)), lb3.mod m7 (lb3.off_box box3 (by decide) (by decide) (by decide)), h.oa, fun b hb => ?_, fun b hb hb2 => ?_⟩
  · rcases ho with e | e
    · exact h.ob b (e ▸ hb)
    · rw [e] at hb; injection hb with hb; omega
  · rcases ho with e | e
    · exact h.ne b hb (e ▸ hb2)
    · rw [e] at hb2; injection hb2 with hb2
      have := h.la.row.lt b hb; omega
theorem sum_le_const {α : Type} {f : α → Nat} {c : Nat} : ∀ {l : List α}, (∀ x ∈ l, f x ≤ c) → (l.map f).sum ≤ l.length * c
  | [], _ => by simp
  | x :: r, h => by
    have h1 := h x (by simp)
    have h2 := sum_le_const (l := r) (fun y hy => h y (by simp [hy]))
    simp only [List.map_cons, List.sum_cons, List.length_cons]
    rw [Nat.add_mul]
    omega
theorem sum_take_le (l : List Nat) (k : Nat) : (l.take k).sum ≤ l.sum := by
  have h := congrArg List.sum (List.take_append_drop k l)
  rw [List.sum_append] at h
  omega
/-- What the parts' ghosts come to is small. -/
theorem part_small {L A B : List Vtx} (hL : Good L) (hp : (A ++ B).Perm L) {ga : List (Nat × Nat)} (hg : GhostsOf (turnX A) ga) : (ga.map fun p => p.2).sum ≤ 25600 := by
  rw [(part_ghosts hL hp hg).2]
  have hl := hp.length_eq
  rw [List.length_append] at hl
  have h40 := hL.short
  refine Nat.le_trans (sum_le_const (c := 640) (fun y _ => ?_)) (by have : B.length ≤ 40 := by omega
                                                                    omega)
  refine Nat.le_trans (sum_le_const (c := 16) (fun x hx => ?_)) (by have : A.length ≤ 40 := by omega
                                                                    omega)
  refine Nat.le_trans List.count_le_length ?_
  unfold keysX
  rw [List.length_map]
  exact (hL.each x (hp.mem_iff.1 (by simp [hx]))).few
theorem perm_left {A B : List Vs} {t : List Vtx} (h : ((A ++ B).map Vs.x).Perm t) (s : Vs) : (((A ++ [s]) ++ B).map Vs.x).Perm (t ++ [s.x]) := by
  have h1 : (((A ++ [s]) ++ B).map Vs.x).Perm (((A ++ B) ++ [s]).map Vs.x) := by
    refine List.Perm.map _ ?_
    rw [List.append_assoc, List.append_assoc]
    exact List.Perm.append_left A List.perm_append_comm
  refine h1.trans ?_
  rw [List.map_append]
  exact h.append_right _
theorem perm_right {A B : List Vs} {t : List Vtx} (h : ((A ++ B).map Vs.x).Perm t) (s : Vs) : ((A ++ (B ++ [s])).map Vs.x).Perm (t ++ [s.x]) := by
  rw [← List.append_assoc, List.map_append]
  exact h.append_right _
theorem idx_parts0 (a b : Option Addr) (n m c d : Nat) (w : World) : (Instr.index 54 (.agg #[.slice a n c, .slice b m d]) (.int .i64 0)).run Try.prog w = .ok (.slice a n c) w := by kernel_rfl
theorem idx_parts1 (a b : Option Addr) (n m c d : Nat) (w : World) : (Instr.index 54 (.agg #[.slice a n c, .slice b m d]) (.int .i64 1)).run Try.prog w = .ok (.slice b m d) w := by kernel_rfl
theorem beq_cast (a b : Nat) : ((a : Int) == (b : Int)) = (a == b) := by
  rw [Bool.eq_iff_iff]; simp; omega
/-- What a part's ghosts come to. -/
def IsSum (A : List Vs) (s : Nat) : Prop := ∃ g, GhostsOf (turnAll A) g ∧ s = (g.map fun p => p.2).sum
/-- The sums, while a list of ghosts is gone through. -/
structure Sum4 (w3 w6 : World) (x y : Nat) (wr : World) : Prop where
  mod3 : Mod (fun _ => False) w3 wr
  mod6 : Mod (fun k => k = w3.heap.size) w6 wr
  box : wr.heap[w3.heap.size]? = some (.cells #[.int .i64 (x : Int), .int .i64 (y : Int)] 56 (0, 0))
structure Sum5 (w3 w6 : World) (b pv pn : Nat) (x y : Nat) (wr : World) : Prop where
  mod3 : Mod (fun _ => False) w3 wr
  mod6 : Mod (fun k => k = w3.heap.size) w6 wr
  box : wr.heap[w3.heap.size]? = some (.cells #[.int .i64 (x : Int), .int .i64 (y : Int)] 56 (0, 0))
  ghost : wr.heap[b]? = some (.cells #[.int .u32 (pv : Int), .int .i64 (pn : Int)] 60 (0, 0))
theorem Sum5.sum4 {w3 w6 wr : World} {b pv pn x y : Nat} (h : Sum5 w3 w6 b pv pn x y wr) : Sum4 w3 w6 x y wr := ⟨h.mod3, h.mod6, h.box⟩
theorem Sum5.keep {w3 w6 wr wx : World} {b pv pn x y : Nat} (h : Sum5 w3 w6 b pv pn x y wr) (m : Mod (fun _ => False) wr wx) : Sum5 w3 w6 b pv pn x y wx :=
  ⟨h.mod3.trans m, h.mod6.trans' m (fun _ _ f => f.elim), m.heap h.box (fun f => f), m.heap h.ghost (fun f => f)⟩
theorem Sum4.next0 {w3 w6 wr : World} {pv pn x y : Nat} (h : Sum4 w3 w6 x y wr) :
    Sum5 w3 w6 wr.heap.size pv pn (x + pn) (y) (((wr.setCell ⟨w3.heap.size, 0, none⟩ (.int .i64 ((x : Int) + (pn : Int)))).alloc (.cells #[.int .u32 (pv : Int), .int .i64 (pn : Int)] 60)).drew) := by
  have ms : Mod (fun k => k = w3.heap.size) wr (wr.setCell ⟨w3.heap.size, 0, none⟩ (.int .i64 ((x : Int) + (pn : Int)))) := (Mod.refl (fun k => k = w3.heap.size) wr).setCell (p := ⟨w3.heap.size, 0, none⟩) (fun _ => rfl) _
  have ma : Mod (fun _ => False) (wr.setCell ⟨w3.heap.size, 0, none⟩ (.int .i64 ((x : Int) + (pn : Int)))) ((wr.setCell ⟨w3.heap.size, 0, none⟩ (.int .i64 ((x : Int) + (pn : Int)))).alloc (.cells #[.int .u32 (pv : Int), .int .i64 (pn : Int)] 60)).drew := ((Mod.refl _ _).alloc _).drew
  have hn := heap_alloc_new' (wr.setCell ⟨w3.heap.size, 0, none⟩ (.int .i64 ((x : Int) + (pn : Int)))) (.cells #[.int .u32 (pv : Int), .int .i64 (pn : Int)] 60)
  have hz : (wr.setCell ⟨w3.heap.size, 0, none⟩ (.int .i64 ((x : Int) + (pn : Int)))).heap.size = wr.heap.size := by simp
  rw [hz] at hn
  have hb := row_setCell h.box 0 (.int .i64 ((x : Int) + (pn : Int)))
  refine ⟨(h.mod3.trans' ms (fun i hi e => by omega)).trans ma, (h.mod6.trans ms).trans' ma (fun _ _ f => f.elim), ?_, hn⟩
  have := ma.heap hb (fun f => f)
  simpa using this
theorem Sum4.next1 {w3 w6 wr : World} {pv pn x y : Nat} (h : Sum4 w3 w6 x y wr) :
    Sum5 w3 w6 wr.heap.size pv pn (x) (y + pn) (((wr.setCell ⟨w3.heap.size, 1, none⟩ (.int .i64 ((y : Int) + (pn : Int)))).alloc (.cells #[.int .u32 (pv : Int), .int .i64 (pn : Int)] 60)).drew) := by
  have ms : Mod (fun k => k = w3.heap.size) wr (wr.setCell ⟨w3.heap.size, 1, none⟩ (.int .i64 ((y : Int) + (pn : Int)))) := (Mod.refl (fun k => k = w3.heap.size) wr).setCell (p := ⟨w3.heap.size, 1, none⟩) (fun _ => rfl) _
  have ma : Mod (fun _ => False) (wr.setCell ⟨w3.heap.size, 1, none⟩ (.int .i64 ((y : Int) + (pn : Int)))) ((wr.setCell ⟨w3.heap.size, 1, none⟩ (.int .i64 ((y : Int) + (pn : Int)))).alloc (.cells #[.int .u32 (pv : Int), .int .i64 (pn : Int)] 60)).drew := ((Mod.refl _ _).alloc _).drew
  have hn := heap_alloc_new' (wr.setCell ⟨w3.heap.size, 1, none⟩ (.int .i64 ((y : Int) + (pn : Int)))) (.cells #[.int .u32 (pv : Int), .int .i64 (pn : Int)] 60)
  have hz : (wr.setCell ⟨w3.heap.size, 1, none⟩ (.int .i64 ((y : Int) + (pn : Int)))).heap.size = wr.heap.size := by simp
  rw [hz] at hn
  have hb := row_setCell h.box 1 (.int .i64 ((y : Int) + (pn : Int)))
  refine ⟨(h.mod3.trans' ms (fun i hi e => by omega)).trans ma, (h.mod6.trans ms).trans' ma (fun _ _ f => f.elim), ?_, hn⟩
  have := ma.heap hb (fun f => f)
  simpa using this

set_option maxRecDepth 100000 in
set_option maxHeartbeats 4000000 in
theorem pairs_main (vs vo : Value) (rs : List Qs) (os : List Nat) (w : World) (hs : QRd w vs rs) (hos : RdS w 1 vo os.length (os.map (keyV .u8))) (h256 : ∀ x ∈ os, x < 256) :
    Calls Try.prog 4 #[vs, vo] w fun e w' => e = .returned (.bool true) ∧ Mod (fun _ => False) w w' := by
  have HAW := Lib.hid (awake12_any)
  have HRS := Lib.hid hs
  have HOS := Lib.hid hos
  obtain ⟨as_, cs_, rfl, hcs, hcs2, -⟩ := hs.row.shape
  obtain ⟨ao, co, rfl, hco, hco2, -⟩ := hos.shape
  obtain ⟨n, hn⟩ : ∃ n, n = rs.length := ⟨_, rfl⟩
  obtain ⟨no, hno⟩ : ∃ n, n = os.length := ⟨_, rfl⟩
  rw [← hn] at HRS hcs ⊢
  rw [← hno] at HOS hco ⊢
  have HN := Lib.hid hn
  have HNO := Lib.hid hno
  clear hs hos hn hno
  go_enter Try.func4, Try.ntmps4
  go_wp2_with (go_at_call 13; refine (HAW.out _).mono ?_; (rintro e w1 ⟨rfl, hm1⟩); have HM1 := Lib.hid hm1; clear hm1)
  have HG0 : Hid (GrAt (w1.alloc (.cells #[.slice none 0 0] 45)) w1.heap.size (.slice none 0 0) []) := Lib.hid ⟨heap_alloc_new' _ _, ⟨RdS.none _ _, by simp⟩⟩
  have HZ1 := Lib.hid HM1.out.size
  have HM1' := Lib.hid (HM1.out.alloc (.cells #[.slice none 0 0] 45))
  go_loopw [26] (fun i wr => ∃ (k : Nat) (gv : Value) (l : List Vs), i = .int .i64 (k : Int) ∧ k ≤ n ∧ Mod (fun _ => False) w wr ∧ GrAt wr w1.heap.size gv l ∧ Good (l.map Vs.x)) (fun i _ => n - (intOf i).toNat)
  case atStart => exact ⟨0, _, _, rfl, Nat.zero_le _, HM1'.out, HG0.out, Good.nil⟩
  case round =>
    obtain ⟨k, gv, l, rfl, hk, hm, hg, hgd⟩ := hrel
    have HM := Lib.hid hm
    have HG := Lib.hid hg
    have HGD := Lib.hid hgd
    clear hm hg hgd HG0
    by_cases hkn : k < n
    · obtain ⟨q, hq⟩ : ∃ q, rs[k]? = some q := ⟨_, List.getElem?_eq_getElem (by rw [← HN.out]; exact hkn)⟩
      obtain ⟨bl, offl, e0, hbl, r0, r1, r2, r3, r4⟩ := HRS.out.ent hq rfl
      replace r0 := HM.out.cell r0
      replace r1 := HM.out.cell r1
      replace r2 := HM.out.cell r2
      replace r3 := HM.out.cell r3
      replace r4 := HM.out.cell r4
      have zbl : bl < wr.heap.size := Nat.lt_of_lt_of_le hbl HM.out.size
      have HOR := Lib.hid (HRS.out.each q (List.mem_of_getElem? hq))
      clear hq hbl
      subst e0
      obtain ⟨⟨kind, ops, v, kk, dd⟩, qo⟩ := q
      obtain ⟨aq, cq, hqe, -⟩ := HOR.out.row.shape
      simp only at hqe HOR r0 r1 r2 r3 r4
      subst hqe
      obtain ⟨nq, hnq⟩ : ∃ n, n = ops.length := ⟨_, rfl⟩
      rw [← hnq] at r1 HOR
      have HMQ : Hid (Mod (fun _ => False) wr (wr.alloc (.cells #[.int .u8 (kind : Int), .slice aq nq cq, .int .u32 (v : Int), .int .i64 kk, .int .i64 dd] 48))) := Lib.hid ((Mod.refl _ _).alloc _)
      have HDO := Lib.hid (do_any w1.heap.size gv l ⟨kind, ops, v, kk, dd⟩ (.slice aq nq cq) (wr.alloc (.cells #[.int .u8 (kind : Int), .slice aq nq cq, .int .u32 (v : Int), .int .i64 kk, .int .i64 dd] 48)) (HG.out.keep HMQ.out) HGD.out (HOR.out.keep (HM.out.trans HMQ.out)))
      simp only [rqV] at HDO
      have HMW := Lib.hid (HM.out.trans HMQ.out)
      clear hnq
      by_cases h50 : k < 50
      · have h50' : (k : Int) < 50 := by omega
        go_wp2_with (go_at_call 14; refine HDO.out.mono ?_; (rintro e w5 ⟨hm5, vv, vl, v5, l5, rfl, hg5, hl5, -, -⟩); have HM5 : Hid (Mod (fun _ => False) w w5) := Lib.hid (HMW.out.trans' hm5 (fun i hi e => by have := HZ1.out; omega)); have HG5 := Lib.hid hg5; have HGD5 : Hid (Good (l5.map Vs.x)) := Lib.hid (by rw [hl5]; exact Good.do HGD.out _); clear hm5 hg5 hl5)
        go_roundw
        case rel => exact ⟨k + 1, _, _, by go_num, by omega, HM5.out, HG5.out, HGD5.out⟩
        case measure => simp [intOf]; omega
      · have h50' : ¬ (k : Int) < 50 := by omega
        have HGQ := Lib.hid (HG.out.keep HMQ.out)
        go_wp2
        go_roundw
        case rel => exact ⟨k + 1, _, _, by go_num, by omega, HMW.out, HGQ.out, HGD.out⟩
        case measure => simp [intOf]; omega
    · clear HM1' HZ1 HM1 HRS
      obtain ⟨m, hm⟩ : ∃ m, m = l.length := ⟨_, rfl⟩
      have HML := Lib.hid hm
      have HM40 : Hid (m ≤ 40) := Lib.hid (by have := HGD.out.short; rw [List.length_map] at this; omega)
      clear hm
      obtain ⟨ag, cg, rfl, hcg, hcg2, -⟩ := HG.out.lst.row.shape
      rw [← HML.out] at HG hcg
      have g0 := cell_of_row HG.out.box 0
      have zg := lt_of_block HG.out.box
      simp at g0
      obtain ⟨i0, hi, hz0, hz1, hz2⟩ := info_parts infoVtx
      have HI : Hid (Try.prog.info? 31 = some i0 ∧ i0.zero = some (.agg #[.int .u32 0, .bool false, .slice none 0 0, .slice none 0 0]) ∧ i0.size = 4 ∧ i0.bytes = 56) := ⟨hi, hz0, hz1, hz2⟩
      clear hi hz0 hz1 hz2
      obtain ⟨w2, hw2⟩ : ∃ w2 : World, w2 = wr := ⟨_, rfl⟩
      subst hw2
      have HP0 : Hid (PtsAt w2 (.slice none 0 0) [] (.slice none 0 0) [] (w2.alloc (.cells #[.slice none 0 0, .slice none 0 0] 54))) := Lib.hid ⟨(Mod.refl _ _).alloc _, heap_alloc_new' _ _, LOwn.nil _, LOwn.nil _, fun b hb => by simp [Value.ownBlock] at hb, fun b hb => by simp [Value.ownBlock] at hb, fun b hb => by simp [Value.ownBlock] at hb⟩
      go_wp2
      go_loopw [42] (fun i wr => ∃ (k : Nat) (va vb : Value) (A B : List Vs), i = .int .i64 (k : Int) ∧ k ≤ m ∧ PtsAt w2 va A vb B wr ∧ ((A ++ B).map Vs.x).Perm ((l.take k).map Vs.x)) (fun i _ => m - (intOf i).toNat)
      case atStart => exact ⟨0, _, _, _, _, rfl, Nat.zero_le _, HP0.out, by simp⟩
      case round =>
        obtain ⟨k, va, vb, A, B, rfl, hk, hpt, hpm⟩ := hrel
        have HPT := Lib.hid hpt
        have HPM := Lib.hid hpm
        clear hpt hpm HP0
        obtain ⟨aa, ca, na, rfl⟩ : ∃ a c n, va = .slice a n c := by
          obtain ⟨a, c, e, _⟩ := HPT.out.la.row.shape
          exact ⟨_, _, _, e⟩
        obtain ⟨ab, cb, nb, rfl⟩ : ∃ a c n, vb = .slice a n c := by
          obtain ⟨a, c, e, _⟩ := HPT.out.lb.row.shape
          exact ⟨_, _, _, e⟩
        by_cases hkm : k < m
        · obtain ⟨y, hy⟩ : ∃ y, l[k]? = some y := ⟨_, List.getElem?_eq_getElem (by rw [← HML.out]; exact hkm)⟩
          obtain ⟨bl, offl, e0, hbl, r0, r1, r2, r3⟩ := HG.out.lst.ent hy rfl
          replace r0 := HPT.out.mod.cell r0
          replace r1 := HPT.out.mod.cell r1
          replace r2 := HPT.out.mod.cell r2
          replace r3 := HPT.out.mod.cell r3
          have zbl : bl < wr.heap.size := Nat.lt_of_lt_of_le hbl HPT.out.mod.size
          have HVR := Lib.hid (HG.out.lst.at hy)
          have HTX : Hid ((l.take (k + 1)).map Vs.x = (l.take k).map Vs.x ++ [y.x]) := Lib.hid (take_map_succ _ hy)
          have hvg := HGD.out.each y.x (List.mem_map_of_mem (List.mem_of_getElem? hy))
          have HLN : Hid (A.length + B.length = k) := Lib.hid (by have := HPM.out.length_eq; simp only [List.length_map, List.length_append, List.length_take] at this; have := HML.out; omega)
          have HTW : Hid (∀ w', Mod (fun _ => False) wr w' → Calls Try.prog 15 #[vtxV y.x y.vp y.vh] w' (Twins w' y.x)) := Lib.hid (fun w' mm => twinV_any y.x y.vp y.vh w' (HVR.out.keep (HPT.out.mod.trans mm)) (by have := hvg.props_short; omega) (by have := hvg.few; omega))
          clear hy hbl hvg
          subst e0
          obtain ⟨⟨id, there, xs, ys⟩, vp, vh⟩ := y
          obtain ⟨np, ap, cp, rfl⟩ : ∃ np ap cp, vp = .slice ap np cp := by
            obtain ⟨a, c, e, _⟩ := HVR.out.props.shape
            exact ⟨_, _, _, e⟩
          obtain ⟨nh, ah, ch, rfl⟩ : ∃ np ap cp, vh = .slice ap np cp := by
            obtain ⟨a, c, e, _⟩ := HVR.out.halves.shape
            exact ⟨_, _, _, e⟩
          simp only at r0 r1 r2 r3 HTX
          simp only [vtxV] at HTW
          clear HVR
          have HPA := Lib.hid (HPT.out.keep ((Mod.refl (fun _ => False) wr).alloc (.cells #[.int .u32 (id : Int), .bool there, .slice ap np cp, .slice ah nh ch] 31)))
          have HMA : Hid (Mod (fun _ => False) wr (wr.alloc (.cells #[.int .u32 (id : Int), .bool there, .slice ap np cp, .slice ah nh ch] 31))) := Lib.hid ((Mod.refl _ _).alloc _)
          have HBA : Hid ((wr.alloc (.cells #[.int .u32 (id : Int), .bool there, .slice ap np cp, .slice ah nh ch] 31)).heap[wr.heap.size]? = some (.cells #[.int .u32 (id : Int), .bool there, .slice ap np cp, .slice ah nh ch] 31 (0, 0))) := Lib.hid (heap_alloc_new' _ _)
          go_upto_if 50 with fail
          go_cut [11] (fun p wx => ∃ q : Nat, q < 2 ∧ p = .int .i64 (q : Int) ∧ Hid (PtsAt w2 (.slice aa na ca) A (.slice ab nb cb) B wx) ∧ Hid (Mod (fun _ => False) wr wx) ∧ Hid (wx.heap[wr.heap.size]? = some (.cells #[.int .u32 (id : Int), .bool there, .slice ap np cp, .slice ah nh ch] 31 (0, 0))))
          case first =>
            by_cases hko : k < no
            · obtain ⟨x, hx⟩ : ∃ x, os[k]? = some x := ⟨_, List.getElem?_eq_getElem (by rw [← HNO.out]; exact hko)⟩
              have hxl := h256 x (List.mem_of_getElem? hx)
              obtain ⟨bo, oo, e1, hbo, o0⟩ := RdS.one HOS.out (i := k) (x := .int .u8 (x : Int)) (by simp [hx, keyV]) rfl
              replace o0 := (HM.out.trans HPT.out.mod).cell o0
              have zo : bo < wr.heap.size := Nat.lt_of_lt_of_le hbo (HM.out.trans HPT.out.mod).size
              subst e1
              clear hx hbo
              go_wp2
              go_meet
              exact ⟨x % 2, by omega, by first | rfl | (congr 1; omega) | simp, HPA.out, HMA.out, HBA.out⟩
            · go_wp2
              go_meet
              exact ⟨0, by omega, rfl, HPA.out, HMA.out, HBA.out⟩
          case rest =>
            obtain ⟨q, hq, rfl, HPA, HMA, HBA⟩ := hcut
            have HTW1 := Lib.hid (HTW.out _ (HMA.out.drew))
            have p0 := cell_of_row HPA.out.box 0
            have p1 := cell_of_row HPA.out.box 1
            have p0f := free_of_row HPA.out.box 0
            have p1f := free_of_row HPA.out.box 1
            have b0 := cell_of_row HBA.out 0
            have b1 := cell_of_row HBA.out 1
            have b2 := cell_of_row HBA.out 2
            have b3 := cell_of_row HBA.out 3
            have zp := lt_of_block HPA.out.box
            have zb := lt_of_block HBA.out
            simp at p0 p1 b0 b1 b2 b3
            clear r0 r1 r2 r3 zbl HTW g0 zg HPT
            have hq' : q = 0 ∨ q = 1 := by omega
            clear hq
            rcases hq' with rfl | rfl
            · go_wp2_with fail
              go_region_law (first
                | (go_simp; go_at_call 15; refine HTW1.out.mono ?_; rintro e w5 ⟨vp5, vh5, rfl, hm5, hn5⟩; have HP5 := Lib.hid ((HPA.out.keep (Mod.refl _ wc).drew).keep hm5); have HN5 := Lib.hid hn5; (obtain ⟨a5, c5, n5, rfl⟩ : ∃ a c n, vp5 = .slice a n c := (by obtain ⟨a, c, e, _⟩ := hn5.props.shape; exact ⟨_, _, _, e⟩)); (obtain ⟨a6, c6, n6, rfl⟩ : ∃ a c n, vh5 = .slice a n c := (by obtain ⟨a, c, e, _⟩ := hn5.halves.shape; exact ⟨_, _, _, e⟩)); have q0 := cell_of_row HP5.out.box 0; have q1 := cell_of_row HP5.out.box 1; have q0f := free_of_row HP5.out.box 0; have q1f := free_of_row HP5.out.box 1; have zq := lt_of_block HP5.out.box; simp at q0 q1; clear hm5 hn5;
                   have HP6 := Lib.hid (HP5.out.keep ((Mod.refl (fun _ => False) w5).alloc (.cells #[.int .u32 (id : Int), .bool there, .slice a5 n5 c5, .slice a6 n6 c6] 31)));
                   have HV6 := Lib.hid (HN5.out.vown.mod ((Mod.refl (fun _ => False) w5).alloc (.cells #[.int .u32 (id : Int), .bool there, .slice a5 n5 c5, .slice a6 n6 c6] 31)) ⟨fun _ _ f => f, fun _ _ f => f⟩);
                   have HSR := Lib.hid (src_cells (w := w5) rfl (size := 4) 31 #[.int .u32 (id : Int), .bool there, .slice a5 n5 c5, .slice a6 n6 c6] rfl (by simp [Value.oneCell'])))
                | (refine step_append_seg rfl (.tmp 60) (.tmp 63) 26 rfl i0 _ 4 56 Try.underlying26 HI.out.1 HI.out.2.1 HI.out.2.2.1 HI.out.2.2.2 rfl (by decide) rfl HP6.out.la.row _ 1 _ rfl HSR.out (by have := HLN.out; have := HM40.out; unfold maxLen; omega) (by have := HLN.out; have := HM40.out; omega) ?_; intro v3 w3 hs3 hg3 ho3;
                   have H3 := Lib.hid (HP6.out.left (s := ⟨⟨id, there, xs, ys⟩, .slice a5 n5 c5, .slice a6 n6 c6⟩) HV6.out hs3 hg3 ho3); (obtain ⟨a3, c3, n3, rfl⟩ : ∃ a c n, v3 = .slice a n c := (by obtain ⟨a, c, e, _⟩ := hs3.shape; exact ⟨_, _, _, e⟩)); have y0 := cell_of_row H3.out.1 0; have y1 := cell_of_row H3.out.1 1; have y0f := free_of_row H3.out.1 0; have y1f := free_of_row H3.out.1 1; have z3 := lt_of_block H3.out.1; simp at y0 y1; clear hs3 hg3 ho3))
              all_goals
                go_wp2
                go_roundw
                case rel => exact ⟨k + 1, (.slice a3 n3 c3), (.slice ab nb cb), A ++ [⟨⟨id, there, xs, ys⟩, .slice a5 n5 c5, .slice a6 n6 c6⟩], B, by go_num, by omega, H3.out.2, by rw [HTX.out]; exact perm_left HPM.out _⟩
                case measure => simp [intOf]; omega
            · go_wp2_with fail
              go_region_law (first
                | (go_simp; go_at_call 15; refine HTW1.out.mono ?_; rintro e w5 ⟨vp5, vh5, rfl, hm5, hn5⟩; have HP5 := Lib.hid ((HPA.out.keep (Mod.refl _ wc).drew).keep hm5); have HN5 := Lib.hid hn5; (obtain ⟨a5, c5, n5, rfl⟩ : ∃ a c n, vp5 = .slice a n c := (by obtain ⟨a, c, e, _⟩ := hn5.props.shape; exact ⟨_, _, _, e⟩)); (obtain ⟨a6, c6, n6, rfl⟩ : ∃ a c n, vh5 = .slice a n c := (by obtain ⟨a, c, e, _⟩ := hn5.halves.shape; exact ⟨_, _, _, e⟩)); have q0 := cell_of_row HP5.out.box 0; have q1 := cell_of_row HP5.out.box 1; have q0f := free_of_row HP5.out.box 0; have q1f := free_of_row HP5.out.box 1; have zq := lt_of_block HP5.out.box; simp at q0 q1; clear hm5 hn5;
                   have HP6 := Lib.hid (HP5.out.keep ((Mod.refl (fun _ => False) w5).alloc (.cells #[.int .u32 (id : Int), .bool there, .slice a5 n5 c5, .slice a6 n6 c6] 31)));
                   have HV6 := Lib.hid (HN5.out.vown.mod ((Mod.refl (fun _ => False) w5).alloc (.cells #[.int .u32 (id : Int), .bool there, .slice a5 n5 c5, .slice a6 n6 c6] 31)) ⟨fun _ _ f => f, fun _ _ f => f⟩);
                   have HSR := Lib.hid (src_cells (w := w5) rfl (size := 4) 31 #[.int .u32 (id : Int), .bool there, .slice a5 n5 c5, .slice a6 n6 c6] rfl (by simp [Value.oneCell'])))
                | (refine step_append_seg rfl (.tmp 60) (.tmp 63) 26 rfl i0 _ 4 56 Try.underlying26 HI.out.1 HI.out.2.1 HI.out.2.2.1 HI.out.2.2.2 rfl (by decide) rfl HP6.out.lb.row _ 1 _ rfl HSR.out (by have := HLN.out; have := HM40.out; unfold maxLen; omega) (by have := HLN.out; have := HM40.out; omega) ?_; intro v3 w3 hs3 hg3 ho3;
                   have H3 := Lib.hid (HP6.out.right (s := ⟨⟨id, there, xs, ys⟩, .slice a5 n5 c5, .slice a6 n6 c6⟩) HV6.out hs3 hg3 ho3); (obtain ⟨a3, c3, n3, rfl⟩ : ∃ a c n, v3 = .slice a n c := (by obtain ⟨a, c, e, _⟩ := hs3.shape; exact ⟨_, _, _, e⟩)); have y0 := cell_of_row H3.out.1 0; have y1 := cell_of_row H3.out.1 1; have y0f := free_of_row H3.out.1 0; have y1f := free_of_row H3.out.1 1; have z3 := lt_of_block H3.out.1; simp at y0 y1; clear hs3 hg3 ho3))
              all_goals
                go_wp2
                go_roundw
                case rel => exact ⟨k + 1, (.slice aa na ca), (.slice a3 n3 c3), A, B ++ [⟨⟨id, there, xs, ys⟩, .slice a5 n5 c5, .slice a6 n6 c6⟩], by go_num, by omega, H3.out.2, by rw [HTX.out]; exact perm_right HPM.out _⟩
                case measure => simp [intOf]; omega
        · have HPM2 : Hid ((A.map Vs.x ++ B.map Vs.x).Perm (l.map Vs.x)) := Lib.hid (by have h := HPM.out; rw [List.take_of_length_le (by have := HML.out; omega), List.map_append] at h; exact h)
          have HPM3 : Hid ((B.map Vs.x ++ A.map Vs.x).Perm (l.map Vs.x)) := Lib.hid (List.perm_append_comm.trans HPM2.out)
          obtain ⟨w3, hw3⟩ : ∃ w3 : World, w3 = wr := ⟨_, rfl⟩
          subst hw3
          have HP3 := Lib.hid HPT.out
          have HPS : Hid (w2.heap.size ≠ w3.heap.size) := Lib.hid (by have := lt_of_block HP3.out.box; omega)
          have HLA := Lib.hid HP3.out.la.rd
          have HLB := Lib.hid HP3.out.lb.rd
          have HNA : Hid (na = A.length) := Lib.hid (by obtain ⟨a, c, e, _⟩ := HP3.out.la.row.shape; injection e)
          have HNB : Hid (nb = B.length) := Lib.hid (by obtain ⟨a, c, e, _⟩ := HP3.out.lb.row.shape; injection e)
          have HSZ : Hid (A.length + B.length ≤ 40) := Lib.hid (by have := HPM2.out.length_eq; simp only [List.length_append, List.length_map] at this; have := HML.out; have := HM40.out; omega)
          have HWTA : Hid (wt A < 999999) := Lib.hid (by
            have h := wt_le (l := A) (m := 16) (fun s hs => (HGD.out.each s.x (HPM2.out.mem_iff.1 (by rw [List.mem_append]; exact .inl (List.mem_map_of_mem hs)))).few)
            have := HSZ.out; omega)
          have HWTB : Hid (wt B < 999999) := Lib.hid (by
            have h := wt_le (l := B) (m := 16) (fun s hs => (HGD.out.each s.x (HPM2.out.mem_iff.1 (by rw [List.mem_append]; exact .inr (List.mem_map_of_mem hs)))).few)
            have := HSZ.out; omega)
          have hna : na ≤ ca ∧ ca ≤ 9223372036854775807 := by obtain ⟨a, c, e, h1, h2, _⟩ := HP3.out.la.rd.row.shape; injection e with e1 e2 e3; subst e1 e2 e3; exact ⟨h1, h2⟩
          have hnb : nb ≤ cb ∧ cb ≤ 9223372036854775807 := by obtain ⟨a, c, e, h1, h2, _⟩ := HP3.out.lb.rd.row.shape; injection e with e1 e2 e3; subst e1 e2 e3; exact ⟨h1, h2⟩
          obtain ⟨hna, hna2⟩ := hna
          obtain ⟨hnb, hnb2⟩ := hnb
          have p0 := cell_of_row HP3.out.box 0
          have p1 := cell_of_row HP3.out.box 1
          have zp := lt_of_block HP3.out.box
          simp at p0 p1
          have HB0 : Hid ((w3.alloc (.cells #[.int .i64 0, .int .i64 0] 56)).heap[w3.heap.size]? = some (.cells #[.int .i64 0, .int .i64 0] 56 (0, 0))) := Lib.hid (heap_alloc_new' _ _)
          have HMW : Hid (Mod (fun _ => False) w w3) := Lib.hid (HM.out.trans HP3.out.mod)
          clear g0 zg HPT HPM
          go_wp2_with fail
          go_loopw [68] (fun i wr => ∃ (k sa sb : Nat), i = .int .i64 (k : Int) ∧ k ≤ 2 ∧ Mod (fun _ => False) w3 wr ∧ wr.heap[w3.heap.size]? = some (.cells #[.int .i64 (sa : Int), .int .i64 (sb : Int)] 56 (0, 0)) ∧ (k = 0 → sa = 0 ∧ sb = 0) ∧ (k = 1 → IsSum A sa ∧ sb = 0) ∧ (k = 2 → IsSum A sa ∧ IsSum B sb)) (fun i _ => 2 - (intOf i).toNat)
          case atStart => exact ⟨0, 0, 0, rfl, by omega, (Mod.refl _ _).alloc _, HB0.out, fun _ => ⟨rfl, rfl⟩, fun h => by omega, fun h => by omega⟩
          case round =>
            clear p0 p1 zp HB0
            obtain ⟨k, sa, sb, rfl, hk, hm3, hbx, hc0, hc1, hc2⟩ := hrel
            have HM3 := Lib.hid hm3
            have HBX := Lib.hid hbx
            have HC0 := Lib.hid hc0
            have HC1 := Lib.hid hc1
            have HC2 := Lib.hid hc2
            clear hm3 hbx hc0 hc1 hc2
            have hk3 : k = 0 ∨ k = 1 ∨ k = 2 := by omega
            clear hk
            rcases hk3 with rfl | rfl | rfl
            · skip
              have HS := Lib.hid (HC0.out rfl)
              have HCT := Lib.hid (countL_any _ A wr (HLA.out.keep HM3.out) HWTA.out)
              clear HC0 HC1 HC2
              have v0 := cell_of_row (HM3.out.heap HP3.out.box (fun f => f)) 0
              have v1 := cell_of_row (HM3.out.heap HP3.out.box (fun f => f)) 1
              have zv := lt_of_block (HM3.out.heap HP3.out.box (fun f => f))
              simp at v0 v1
              have hix := idx_parts0 aa ab na nb ca cb wr
              go_wp2_with (go_at_call 16; refine HCT.out.mono ?_; (rintro e w6 ⟨v6, ga, rfl, hp, hg, hl⟩); have HM6 := Lib.hid hp.mod; have HG6 := Lib.hid hp.seg; have HGA := Lib.hid hg; have HGL := Lib.hid hl; (obtain ⟨ng, hng⟩ : ∃ ng, ng = ga.length := ⟨_, rfl⟩); have HNG := Lib.hid hng; rw [← hng] at HG6; (obtain ⟨a6, c6, rfl, hc6, hc62⟩ : ∃ a c, v6 = .slice a ng c ∧ ng ≤ c ∧ c ≤ 9223372036854775807 := (by obtain ⟨a, c, e, h1, h2, _⟩ := hp.seg.rdS.shape; rw [← hng] at e h1; exact ⟨_, _, e, h1, h2⟩)); clear hp hg hl hng)
              have HM36 := Lib.hid (HM3.out.trans HM6.out)
              have HB6 := Lib.hid (HM6.out.heap HBX.out (fun f => f))
              have HOF := Lib.hid (HG6.out.off_box HB6.out (by decide))
              have HSM := Lib.hid (part_small HGD.out HPM2.out (by rw [← turnAll_x]; exact HGA.out))
              have HFAR := Lib.hid (part_ghosts HGD.out HPM2.out (by rw [← turnAll_x]; exact HGA.out)).1
              have hs0 : sa = 0 := HS.out.1
              clear HBX HCT HM6
              go_loopw [75] (fun i wr => ∃ j : Nat, i = .int .i64 (j : Int) ∧ j ≤ ng ∧ Sum4 w3 w6 (((ga.take j).map fun p => p.2).sum) sb wr) (fun i _ => ng - (intOf i).toNat)
              case atStart => exact ⟨0, rfl, Nat.zero_le _, ⟨HM36.out, Mod.refl _ _, by rw [HB6.out, hs0]; rfl⟩⟩
              case round =>
                clear hs0
                obtain ⟨j, rfl, hj, h4⟩ := hrel
                have H4 := Lib.hid h4
                clear h4
                obtain ⟨S, hS⟩ : ∃ S, S = ((ga.take j).map fun p => p.2).sum := ⟨_, rfl⟩
                have HSS := Lib.hid hS
                rw [← hS] at H4
                clear hS
                by_cases hjn : j < ng
                · obtain ⟨pg, hpg⟩ : ∃ p, ga[j]? = some p := ⟨_, List.getElem?_eq_getElem (by rw [← HNG.out]; exact hjn)⟩
                  have HNX : Hid (((ga.take (j + 1)).map fun p => p.2).sum = S + pg.2) := Lib.hid (by
                    obtain ⟨h1, h2⟩ := List.getElem?_eq_some_iff.1 hpg
                    rw [List.take_succ_eq_append_getElem h1, h2, HSS.out]; simp)
                  have hlim : S + pg.2 ≤ 25600 := by
                    rw [← HNX.out, List.map_take]
                    exact Nat.le_trans (sum_take_le _ _) HSM.out
                  obtain ⟨bg, og, eg, hbg, g0, g1⟩ := pair_ent ((HG6.out.mod H4.out.mod6 HOF.out).rdS) hpg rfl
                  have HF := Lib.hid (HFAR.out pg (List.mem_of_getElem? hpg))
                  clear hpg
                  subst eg
                  obtain ⟨pv, pn⟩ := pg
                  simp only at g0 g1 hlim HNX HF
                  have s0 := cell_of_row H4.out.box 0
                  have s1 := cell_of_row H4.out.box 1
                  have s0f := free_of_row H4.out.box 0
                  have s1f := free_of_row H4.out.box 1
                  have zs := lt_of_block H4.out.box
                  simp at s0 s1
                  have hw1 : IntKind.i64.wrap ((S : Int) + (pn : Int)) = (S : Int) + (pn : Int) := IntWalk.i64_in _ (by omega)
                  obtain ⟨wo, rfl⟩ : ∃ wo : World, wo = wr := ⟨_, rfl⟩
                  have H5 := Lib.hid (H4.out.next0 (pv := pv) (pn := pn))
                  have q0 := cell_of_row (H4.out.mod3.heap HP3.out.box (fun f => f)) 0
                  have q1 := cell_of_row (H4.out.mod3.heap HP3.out.box (fun f => f)) 1
                  have zq := lt_of_block (H4.out.mod3.heap HP3.out.box (fun f => f))
                  have zqs : w2.heap.size ≠ w3.heap.size := HPS.out
                  simp at q0 q1
                  clear v0 v1 zv hlim
                  go_wp2_with fail
                  go_region
                  all_goals
                    clear hw1 g0 g1 s0 s1 s0f s1f
                    go_wp2_with fail
                    go_loopw [91, 17] (fun i o wx => ∃ q : Nat, i = .int .i64 (q : Int) ∧ q ≤ nb ∧ o = .bool ((B.take q).any fun s => s.x.id == pv) ∧ Sum5 w3 w6 wo.heap.size pv pn (S + pn) sb wx) (fun i _ _ => nb - (intOf i).toNat)
                    case atStart => exact ⟨0, rfl, Nat.zero_le _, by simp, H5.out⟩
                    case round =>
                      obtain ⟨q, rfl, hq, rfl, h5⟩ := hrel
                      have H6 := Lib.hid h5
                      clear h5 H5
                      by_cases hqn : q < nb
                      · obtain ⟨y, hy⟩ : ∃ y, B[q]? = some y := ⟨_, List.getElem?_eq_getElem (by rw [← HNB.out]; exact hqn)⟩
                        obtain ⟨bl, offl, e0, hbl, r0, r1, r2, r3⟩ := (HLB.out.keep H6.out.mod3).ent hy rfl
                        have HAN : Hid (((B.take (q + 1)).any fun s => s.x.id == pv) = (((B.take q).any fun s => s.x.id == pv) || (y.x.id == pv))) := Lib.hid (by
                          obtain ⟨h1, h2⟩ := List.getElem?_eq_some_iff.1 hy
                          rw [List.take_succ_eq_append_getElem h1, h2]; simp)
                        have HVR := Lib.hid ((HLB.out.keep H6.out.mod3).at hy)
                        subst e0
                        clear hy
                        obtain ⟨⟨id, there, xs, ys⟩, vp, vh⟩ := y
                        obtain ⟨np, ap, cp, rfl⟩ : ∃ np ap cp, vp = .slice ap np cp := by
                          obtain ⟨a, c, e, _⟩ := HVR.out.props.shape
                          exact ⟨_, _, _, e⟩
                        obtain ⟨nh, ah, ch, rfl⟩ : ∃ np ap cp, vh = .slice ap np cp := by
                          obtain ⟨a, c, e, _⟩ := HVR.out.halves.shape
                          exact ⟨_, _, _, e⟩
                        simp only at r0 r1 r2 r3 HAN
                        clear HVR
                        have x0 := cell_of_row H6.out.ghost 0
                        have zx := lt_of_block H6.out.ghost
                        simp at x0
                        have H7 := Lib.hid (H6.out.keep ((Mod.refl (fun _ => False) wr).alloc (.cells #[.int .u32 (id : Int), .bool there, .slice ap np cp, .slice ah nh ch] 31)))
                        generalize hbo : ((B.take q).any fun s => s.x.id == pv) = bo at HAN ⊢
                        clear hbo
                        cases bo with
                        | true =>
                          go_wp2_with fail
                          go_roundw
                          case rel => exact ⟨q + 1, by go_num, by omega, by rw [HAN.out]; rfl, H7.out⟩
                          case measure => simp [intOf]; omega
                        | false =>
                          by_cases hid : id = pv
                          · subst hid
                            go_wp2_with fail
                            go_roundw
                            case rel => exact ⟨q + 1, by go_num, by omega, by rw [HAN.out]; simp, H7.out⟩
                            case measure => simp [intOf]; omega
                          · have hid' : (id : Int) ≠ (pv : Int) := by omega
                            go_wp2_with fail
                            go_roundw
                            case rel => exact ⟨q + 1, by go_num, by omega, by rw [HAN.out]; simp [beq_cast], H7.out⟩
                            case measure => simp [intOf]; omega
                      · have HAL : ((B.take q).any fun s => s.x.id == pv) = true := by
                          rw [List.take_of_length_le (by have := HNB.out; omega), List.any_eq_true]
                          obtain ⟨y, hy, e⟩ := HF.out
                          obtain ⟨s, hs, rfl⟩ := List.mem_map.1 hy
                          exact ⟨s, hs, by simpa using e⟩
                        rw [HAL]
                        clear HAL
                        go_wp2_with fail
                        go_roundw
                        case rel => exact ⟨j + 1, by go_num, by omega, by rw [HNX.out]; exact H6.out.sum4⟩
                        case measure => simp [intOf]; omega
                · have HM4 := Lib.hid H4.out.mod3
                  have HB4 := Lib.hid H4.out.box
                  have HTOT : Hid (S = (ga.map fun p => p.2).sum) := Lib.hid (by rw [HSS.out, List.take_of_length_le (by have := HNG.out; omega)])
                  go_wp2_with fail
                  go_roundw
                  case rel => exact ⟨1, _, sb, by first | rfl | go_num, by omega, HM4.out, HB4.out, fun h => by omega, fun h => ⟨⟨ga, HGA.out, HTOT.out⟩, HS.out.2⟩, fun h => by omega⟩
                  case measure => simp [intOf]
            · skip
              have HS := Lib.hid (HC1.out rfl)
              have HCT := Lib.hid (countL_any _ B wr (HLB.out.keep HM3.out) HWTB.out)
              clear HC0 HC1 HC2
              have v0 := cell_of_row (HM3.out.heap HP3.out.box (fun f => f)) 0
              have v1 := cell_of_row (HM3.out.heap HP3.out.box (fun f => f)) 1
              have zv := lt_of_block (HM3.out.heap HP3.out.box (fun f => f))
              simp at v0 v1
              have hix := idx_parts1 aa ab na nb ca cb wr
              go_wp2_with (go_at_call 16; refine HCT.out.mono ?_; (rintro e w6 ⟨v6, ga, rfl, hp, hg, hl⟩); have HM6 := Lib.hid hp.mod; have HG6 := Lib.hid hp.seg; have HGA := Lib.hid hg; have HGL := Lib.hid hl; (obtain ⟨ng, hng⟩ : ∃ ng, ng = ga.length := ⟨_, rfl⟩); have HNG := Lib.hid hng; rw [← hng] at HG6; (obtain ⟨a6, c6, rfl, hc6, hc62⟩ : ∃ a c, v6 = .slice a ng c ∧ ng ≤ c ∧ c ≤ 9223372036854775807 := (by obtain ⟨a, c, e, h1, h2, _⟩ := hp.seg.rdS.shape; rw [← hng] at e h1; exact ⟨_, _, e, h1, h2⟩)); clear hp hg hl hng)
              have HM36 := Lib.hid (HM3.out.trans HM6.out)
              have HB6 := Lib.hid (HM6.out.heap HBX.out (fun f => f))
              have HOF := Lib.hid (HG6.out.off_box HB6.out (by decide))
              have HSM := Lib.hid (part_small HGD.out HPM3.out (by rw [← turnAll_x]; exact HGA.out))
              have HFAR := Lib.hid (part_ghosts HGD.out HPM3.out (by rw [← turnAll_x]; exact HGA.out)).1
              have hs0 : sb = 0 := HS.out.2
              clear HBX HCT HM6
              go_loopw [75] (fun i wr => ∃ j : Nat, i = .int .i64 (j : Int) ∧ j ≤ ng ∧ Sum4 w3 w6 sa (((ga.take j).map fun p => p.2).sum) wr) (fun i _ => ng - (intOf i).toNat)
              case atStart => exact ⟨0, rfl, Nat.zero_le _, ⟨HM36.out, Mod.refl _ _, by rw [HB6.out, hs0]; rfl⟩⟩
              case round =>
                clear hs0
                obtain ⟨j, rfl, hj, h4⟩ := hrel
                have H4 := Lib.hid h4
                clear h4
                obtain ⟨S, hS⟩ : ∃ S, S = ((ga.take j).map fun p => p.2).sum := ⟨_, rfl⟩
                have HSS := Lib.hid hS
                rw [← hS] at H4
                clear hS
                by_cases hjn : j < ng
                · obtain ⟨pg, hpg⟩ : ∃ p, ga[j]? = some p := ⟨_, List.getElem?_eq_getElem (by rw [← HNG.out]; exact hjn)⟩
                  have HNX : Hid (((ga.take (j + 1)).map fun p => p.2).sum = S + pg.2) := Lib.hid (by
                    obtain ⟨h1, h2⟩ := List.getElem?_eq_some_iff.1 hpg
                    rw [List.take_succ_eq_append_getElem h1, h2, HSS.out]; simp)
                  have hlim : S + pg.2 ≤ 25600 := by
                    rw [← HNX.out, List.map_take]
                    exact Nat.le_trans (sum_take_le _ _) HSM.out
                  obtain ⟨bg, og, eg, hbg, g0, g1⟩ := pair_ent ((HG6.out.mod H4.out.mod6 HOF.out).rdS) hpg rfl
                  have HF := Lib.hid (HFAR.out pg (List.mem_of_getElem? hpg))
                  clear hpg
                  subst eg
                  obtain ⟨pv, pn⟩ := pg
                  simp only at g0 g1 hlim HNX HF
                  have s0 := cell_of_row H4.out.box 0
                  have s1 := cell_of_row H4.out.box 1
                  have s0f := free_of_row H4.out.box 0
                  have s1f := free_of_row H4.out.box 1
                  have zs := lt_of_block H4.out.box
                  simp at s0 s1
                  have hw1 : IntKind.i64.wrap ((S : Int) + (pn : Int)) = (S : Int) + (pn : Int) := IntWalk.i64_in _ (by omega)
                  obtain ⟨wo, rfl⟩ : ∃ wo : World, wo = wr := ⟨_, rfl⟩
                  have H5 := Lib.hid (H4.out.next1 (pv := pv) (pn := pn))
                  have q0 := cell_of_row (H4.out.mod3.heap HP3.out.box (fun f => f)) 0
                  have q1 := cell_of_row (H4.out.mod3.heap HP3.out.box (fun f => f)) 1
                  have zq := lt_of_block (H4.out.mod3.heap HP3.out.box (fun f => f))
                  have zqs : w2.heap.size ≠ w3.heap.size := HPS.out
                  simp at q0 q1
                  clear v0 v1 zv hlim
                  go_wp2_with fail
                  go_region
                  all_goals
                    clear hw1 g0 g1 s0 s1 s0f s1f
                    go_wp2_with fail
                    go_loopw [91, 17] (fun i o wx => ∃ q : Nat, i = .int .i64 (q : Int) ∧ q ≤ na ∧ o = .bool ((A.take q).any fun s => s.x.id == pv) ∧ Sum5 w3 w6 wo.heap.size pv pn sa (S + pn) wx) (fun i _ _ => na - (intOf i).toNat)
                    case atStart => exact ⟨0, rfl, Nat.zero_le _, by simp, H5.out⟩
                    case round =>
                      obtain ⟨q, rfl, hq, rfl, h5⟩ := hrel
                      have H6 := Lib.hid h5
                      clear h5 H5
                      by_cases hqn : q < na
                      · obtain ⟨y, hy⟩ : ∃ y, A[q]? = some y := ⟨_, List.getElem?_eq_getElem (by rw [← HNA.out]; exact hqn)⟩
                        obtain ⟨bl, offl, e0, hbl, r0, r1, r2, r3⟩ := (HLA.out.keep H6.out.mod3).ent hy rfl
                        have HAN : Hid (((A.take (q + 1)).any fun s => s.x.id == pv) = (((A.take q).any fun s => s.x.id == pv) || (y.x.id == pv))) := Lib.hid (by
                          obtain ⟨h1, h2⟩ := List.getElem?_eq_some_iff.1 hy
                          rw [List.take_succ_eq_append_getElem h1, h2]; simp)
                        have HVR := Lib.hid ((HLA.out.keep H6.out.mod3).at hy)
                        subst e0
                        clear hy
                        obtain ⟨⟨id, there, xs, ys⟩, vp, vh⟩ := y
                        obtain ⟨np, ap, cp, rfl⟩ : ∃ np ap cp, vp = .slice ap np cp := by
                          obtain ⟨a, c, e, _⟩ := HVR.out.props.shape
                          exact ⟨_, _, _, e⟩
                        obtain ⟨nh, ah, ch, rfl⟩ : ∃ np ap cp, vh = .slice ap np cp := by
                          obtain ⟨a, c, e, _⟩ := HVR.out.halves.shape
                          exact ⟨_, _, _, e⟩
                        simp only at r0 r1 r2 r3 HAN
                        clear HVR
                        have x0 := cell_of_row H6.out.ghost 0
                        have zx := lt_of_block H6.out.ghost
                        simp at x0
                        have H7 := Lib.hid (H6.out.keep ((Mod.refl (fun _ => False) wr).alloc (.cells #[.int .u32 (id : Int), .bool there, .slice ap np cp, .slice ah nh ch] 31)))
                        generalize hbo : ((A.take q).any fun s => s.x.id == pv) = bo at HAN ⊢
                        clear hbo
                        cases bo with
                        | true =>
                          go_wp2_with fail
                          go_roundw
                          case rel => exact ⟨q + 1, by go_num, by omega, by rw [HAN.out]; rfl, H7.out⟩
                          case measure => simp [intOf]; omega
                        | false =>
                          by_cases hid : id = pv
                          · subst hid
                            go_wp2_with fail
                            go_roundw
                            case rel => exact ⟨q + 1, by go_num, by omega, by rw [HAN.out]; simp, H7.out⟩
                            case measure => simp [intOf]; omega
                          · have hid' : (id : Int) ≠ (pv : Int) := by omega
                            go_wp2_with fail
                            go_roundw
                            case rel => exact ⟨q + 1, by go_num, by omega, by rw [HAN.out]; simp [beq_cast], H7.out⟩
                            case measure => simp [intOf]; omega
                      · have HAL : ((A.take q).any fun s => s.x.id == pv) = true := by
                          rw [List.take_of_length_le (by have := HNA.out; omega), List.any_eq_true]
                          obtain ⟨y, hy, e⟩ := HF.out
                          obtain ⟨s, hs, rfl⟩ := List.mem_map.1 hy
                          exact ⟨s, hs, by simpa using e⟩
                        rw [HAL]
                        clear HAL
                        go_wp2_with fail
                        go_roundw
                        case rel => exact ⟨j + 1, by go_num, by omega, by rw [HNX.out]; exact H6.out.sum4⟩
                        case measure => simp [intOf]; omega
                · have HM4 := Lib.hid H4.out.mod3
                  have HB4 := Lib.hid H4.out.box
                  have HTOT : Hid (S = (ga.map fun p => p.2).sum) := Lib.hid (by rw [HSS.out, List.take_of_length_le (by have := HNG.out; omega)])
                  go_wp2_with fail
                  go_roundw
                  case rel => exact ⟨2, sa, _, by first | rfl | go_num, by omega, HM4.out, HB4.out, fun h => by omega, fun h => by omega, fun h => ⟨HS.out.1, ⟨ga, HGA.out, HTOT.out⟩⟩⟩
                  case measure => simp [intOf]
            · have hse : sa = sb := by
                obtain ⟨⟨ga, h1, e1⟩, ⟨gb, h2, e2⟩⟩ := HC2.out rfl
                rw [turnAll_x] at h1 h2
                rw [e1, e2]
                exact (parts_even HGD.out HPM2.out h1 h2).2.2
              subst hse
              have x0 := cell_of_row HBX.out 0
              have x1 := cell_of_row HBX.out 1
              have zx := lt_of_block HBX.out
              simp at x0 x1
              have HMF := Lib.hid (HMW.out.trans HM3.out)
              clear HC0 HC1 HC2
              go_wp2_with fail
              go_ret
              exact ⟨rfl, HMF.out⟩
theorem pairs_all (v0 v1 : Value) (w : World) (h0 : InReqs w v0) (h1 : InBytes w v1) : Calls Try.prog 4 #[v0, v1] w fun e w' => e = .returned (.bool true) ∧ Below w.heap.size w w' := by
  obtain ⟨rs, hs⟩ := h0
  obtain ⟨os, ho, h256⟩ := h1
  exact Calls.mono (R := fun e w' => e = .returned (.bool true) ∧ Mod (fun _ => False) w w') (pairs_main v0 v1 rs os w hs ho h256) (fun _ _ ⟨h, m⟩ => ⟨h, m.toBelow (Nat.le_refl _) (fun _ _ f => f)⟩)
end Go.Proofs.Ytdblilhkojafgaa
