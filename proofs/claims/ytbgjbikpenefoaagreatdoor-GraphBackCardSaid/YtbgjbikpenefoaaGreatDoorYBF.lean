/- YBF: what is needed of it (by shake.py). -/
import Derived.Test.YtbgjbikpenefoaaGreatDoorM41
import Derived.Test.YtbgjbikpenefoaaGreatDoorM36
import Derived.Test.YtbgjbikpenefoaaGreatDoorM13

/- YBF, as far as the seat goes. -/
/- gussetlaw03.GraphHops, walked. (Printed by gen_ghops.py.) -/
namespace Go.Proofs.YtbgjbikpenefoaaGreatDoor
set_option linter.unusedVariables false
set_option linter.unusedSimpArgs false
open Go.RowKit Go.Maps
/-- What a traversal answers that begins at no vertex. -/
def goneN (v : Nat) : Nat := if numB v then 6 else 3
theorem doG_hops_there {L : Gr} (hL : Good L) {v K : Nat} (hv : ∃ y ∈ L, y.id = v) (hK : K ≤ 8) : doG L ⟨2, [], v, (K : Int), 0⟩ = (L, ⟨0, 0, [], withinG L v K⟩) := by
  obtain ⟨y, hy, rfl⟩ := hv
  have hn : numB y.id = true := by
    have := (hL.each y hy).id
    simp [numB]; omega
  have hc : checkR ⟨2, [], y.id, (K : Int), 0⟩ = 0 := by
    rw [checkR_2]; unfold checkO
    rw [if_neg (by omega), if_neg (by simp [hn])]
  unfold doG
  rw [if_neg (by simpa using hc)]
  simp only [(findV_iff hL.rise).2 ⟨hy, rfl⟩]
  simp
theorem doG_hops_gone {L : Gr} {v K : Nat} (hv : ¬ ∃ y ∈ L, y.id = v) (hK : K ≤ 8) : doG L ⟨2, [], v, (K : Int), 0⟩ = (L, ⟨goneN v, 0, [], []⟩) := by
  have hf : findV L v = none := findV_none.2 (fun x hx e => hv ⟨x, hx, e⟩)
  unfold doG goneN
  cases hn : numB v with
  | true =>
    have hc : checkR ⟨2, [], v, (K : Int), 0⟩ = 0 := by
      rw [checkR_2]; unfold checkO
      rw [if_neg (by omega), if_neg (by simp [hn])]
    rw [if_neg (by simpa using hc)]
    simp [hf]
  | false =>
    have hc : checkR ⟨2, [], v, (K : Int), 0⟩ = 3 := by
      rw [checkR_2]; unfold checkO
      rw [if_neg (by omega), if_pos (by simp [hn])]
    rw [if_pos (by rw [hc]; decide), hc]
    simp
theorem shops_there (g bm : Nat) (L : Gr) (v K : Nat) (w wr : World) (h : GSt w g bm L wr) (hv : ∃ y ∈ L, y.id = v) (hK : K ≤ 8) (hg : ErrT w) :
    Calls Tryz.prog 13 #[.pointer (some ⟨g, 0, none⟩), .agg #[.int .u8 2, .slice none 0 0, .int .u32 (v : Int), .int .i64 (K : Int), .int .i64 0]] wr fun e w' => ∃ av cv vl, e = .returned (.agg #[.int .i64 0, .int .i64 0, .slice av 0 cv, vl]) ∧ GSt w g bm L w' ∧ Kept wr w' ∧ RdS w' 1 vl (withinG L v K).length ((withinG L v K).map (keyV .u32)) := by
  have hvb : v < 4294967296 := by
    obtain ⟨y, hy, rfl⟩ := hv
    have := (h.good.each y hy).id; omega
  refine (sgdo_any g bm L ⟨2, [], v, (K : Int), 0⟩ (.slice none 0 0) w wr h ⟨RdS.none _ _, by simp⟩ hvb hg).mono ?_
  rintro e w' ⟨vv, vl, rfl, hs⟩
  have hd := doG_hops_there h.good hv hK
  have h1 := hs.st; have h2 := hs.vals; have h3 := hs.list
  rw [hd] at h1 h2 h3
  obtain ⟨a, c, rfl, -⟩ := h2.rdS.shape
  exact ⟨a, c, vl, by rw [hd]; rfl, h1, hs.kept, h3.rdS⟩
theorem shops_gone (g bm : Nat) (L : Gr) (v K : Nat) (w wr : World) (h : GSt w g bm L wr) (hv : ¬ ∃ y ∈ L, y.id = v) (hvb : v < 4294967296) (hK : K ≤ 8) (hg : ErrT w) :
    Calls Tryz.prog 13 #[.pointer (some ⟨g, 0, none⟩), .agg #[.int .u8 2, .slice none 0 0, .int .u32 (v : Int), .int .i64 (K : Int), .int .i64 0]] wr fun e w' => ∃ av cv al cl, e = .returned (.agg #[.int .i64 (goneN v : Nat), .int .i64 0, .slice av 0 cv, .slice al 0 cl]) ∧ GSt w g bm L w' ∧ Kept wr w' := by
  refine (sgdo_any g bm L ⟨2, [], v, (K : Int), 0⟩ (.slice none 0 0) w wr h ⟨RdS.none _ _, by simp⟩ hvb hg).mono ?_
  rintro e w' ⟨vv, vl, rfl, hs⟩
  have hd := doG_hops_gone hv hK
  have h1 := hs.st; have h2 := hs.vals; have h3 := hs.list
  rw [hd] at h1 h2 h3
  obtain ⟨a, c, rfl, -⟩ := h2.rdS.shape
  obtain ⟨a', c', rfl, -⟩ := h3.rdS.shape
  exact ⟨a, c, a', c', by rw [hd]; rfl, h1, hs.kept⟩
theorem fld_halves (i : Int) (b : Bool) (vp vh : Value) (w : World) : (Instr.field 40 (.agg #[.int .u32 i, .bool b, vp, vh]) 3).run Tryz.prog w = .ok vh w := by
  simp [Instr.field, run_underlying Tryz.underlying40, go_sem, asAgg]
theorem tellV_gone {L : Gr} {v : Nat} (hv : ¬ ∃ y ∈ L, y.id = v) : tellV L v = ⟨v, false, [], []⟩ := by
  unfold tellV
  rw [findV_none.2 (fun x hx e => hv ⟨x, hx, e⟩)]
  rfl
/-- Two answers of traversals, kept. -/
structure HpAt (w : World) (g bm : Nat) (L : Gr) (ba bb : Nat) (oa ob : Array Value) (va vb : Value) (la lb : List Nat) (wr : World) : Prop where
  st : GSt w g bm L wr
  one : wr.heap[ba]? = some (.cells oa 34 (0, 0))
  two : wr.heap[bb]? = some (.cells ob 34 (0, 0))
  ra : RdS wr 1 va la.length (la.map (keyV .u32))
  rb : RdS wr 1 vb lb.length (lb.map (keyV .u32))
theorem HpAt.go {w : World} {g bm : Nat} {L : Gr} {ba bb : Nat} {oa ob : Array Value} {va vb : Value} {la lb : List Nat} {wr wx : World} (h : HpAt w g bm L ba bb oa ob va vb la lb wr) (st : GSt w g bm L wx) (k : Kept wr wx) : HpAt w g bm L ba bb oa ob va vb la lb wx :=
  ⟨st, k.box h.one, k.box h.two, k.rds h.ra, k.rds h.rb⟩
theorem HpAt.keep {w : World} {g bm : Nat} {L : Gr} {ba bb : Nat} {oa ob : Array Value} {va vb : Value} {la lb : List Nat} {wr wx : World} (h : HpAt w g bm L ba bb oa ob va vb la lb wr) (m : Mod (fun _ => False) wr wx) : HpAt w g bm L ba bb oa ob va vb la lb wx := h.go (h.st.keep m) (.mod m)
theorem any_mem {l : List Nat} {y : Nat} : (l.any fun x => x == y) = true ↔ y ∈ l := by
  rw [List.any_eq_true]
  constructor
  · rintro ⟨x, hx, e⟩
    have : x = y := by simpa using e
    exact this ▸ hx
  · intro h; exact ⟨y, h, by simp⟩
set_option maxRecDepth 100000 in
set_option maxHeartbeats 8000000 in
theorem ghops_main (vs : Value) (rs : List Qs) (v kb : Nat) (hvb : v < 4294967296) (hkb : kb < 256) (w : World) (hs : QRd w vs rs) (hg : ErrT w) :
    Calls Tryz.prog 3 #[vs, .int .u32 (v : Int), .int .u8 (kb : Int)] w fun e w' => e = .returned (.bool true) ∧ Mod (fun _ => False) w w' := by
  have HVB := Lib.hid hvb
  have HAW := Lib.hid (awake_any w hg)
  have HE := Lib.hid hg
  have HRS := Lib.hid hs
  obtain ⟨as_, cs_, rfl, hcs, hcs2, -⟩ := hs.row.shape
  obtain ⟨n, hn⟩ : ∃ n, n = rs.length := ⟨_, rfl⟩
  rw [← hn] at HRS hcs ⊢
  have HN := Lib.hid hn
  clear hs hn hg
  clear hvb
  go_enter Tryz.func3, Tryz.ntmps3
  go_wp2_with (first
    | (go_at_call 11; refine (snew_any w w1 HM1.out).mono ?_; (rintro e w2 ⟨rfl, hm2, hst, hz2⟩); have HST0 := Lib.hid hst; clear hm2 hst hz2)
    | (go_at_call 10; refine HAW.out.mono ?_; (rintro e w1 ⟨rfl, hm1⟩); have HM1 := Lib.hid hm1; clear hm1))
  go_loopw [26] (fun i wr => ∃ k : Nat, i = .int .i64 (k : Int) ∧ k ≤ n ∧ ∃ L, GSt w (w1.heap.size + 1) w1.heap.size L wr) (fun i _ => n - (intOf i).toNat)
  case atStart => exact ⟨0, rfl, Nat.zero_le _, _, HST0.out⟩
  case round =>
    obtain ⟨k, rfl, hk, L, hst⟩ := hrel
    have HST := Lib.hid hst
    clear hst HST0
    by_cases hkn : k < n
    · skip
      obtain ⟨q, hq⟩ : ∃ q, rs[k]? = some q := ⟨_, List.getElem?_eq_getElem (by rw [← HN.out]; exact hkn)⟩
      obtain ⟨bl, offl, e0, hbl, r0, r1, r2, r3, r4⟩ := HRS.out.ent hq rfl
      replace r0 := HST.out.mod.cell r0
      replace r1 := HST.out.mod.cell r1
      replace r2 := HST.out.mod.cell r2
      replace r3 := HST.out.mod.cell r3
      replace r4 := HST.out.mod.cell r4
      have zbl : bl < wr.heap.size := Nat.lt_of_lt_of_le hbl HST.out.mod.size
      have HOR := Lib.hid (HRS.out.each q (List.mem_of_getElem? hq))
      have HSM := Lib.hid (HRS.out.small q (List.mem_of_getElem? hq))
      clear hq hbl
      subst e0
      obtain ⟨⟨kind, ops, vq, kk, dd⟩, qo⟩ := q
      obtain ⟨aq, cq, hqe, -⟩ := HOR.out.row.shape
      simp only at hqe HOR r0 r1 r2 r3 r4
      subst hqe
      obtain ⟨nq, hnq⟩ : ∃ n, n = ops.length := ⟨_, rfl⟩
      rw [← hnq] at r1 HOR
      have HMQ : Hid (Mod (fun _ => False) wr (wr.alloc (.cells #[.int .u8 (kind : Int), .slice aq nq cq, .int .u32 (vq : Int), .int .i64 kk, .int .i64 dd] 29))) := Lib.hid ((Mod.refl _ _).alloc _)
      have HDO := Lib.hid (sdo_any (w1.heap.size + 1) w1.heap.size L ⟨kind, ops, vq, kk, dd⟩ (.slice aq nq cq) w (wr.alloc (.cells #[.int .u8 (kind : Int), .slice aq nq cq, .int .u32 (vq : Int), .int .i64 kk, .int .i64 dd] 29)) (HST.out.keep HMQ.out) (HOR.out.keep (HST.out.mod.trans HMQ.out)) HSM.out.fits.v HE.out HSM.out.size)
      simp only [rqV] at HDO
      have HSQ := Lib.hid (HST.out.keep HMQ.out)
      clear hnq
      by_cases hlim : k < 60
      · have hlim' : (k : Int) < 60 := by omega
        go_wp2_with (go_at_call 12; refine HDO.out.mono ?_; (rintro e w5 ⟨vv, vl, rfl, hsd⟩); have HS5 := Lib.hid hsd.st; (obtain ⟨ze, hze⟩ : ∃ ze, ze = (doG L ⟨kind, ops, vq, kk, dd⟩).2.e := ⟨_, rfl⟩); (obtain ⟨za, hza⟩ : ∃ za, za = (doG L ⟨kind, ops, vq, kk, dd⟩).2.at_ := ⟨_, rfl⟩); rw [← hze, ← hza]; clear hsd hze hza)
        go_roundw
        case rel => exact ⟨k + 1, by go_num, by omega, _, HS5.out⟩
        case measure => simp [intOf]; omega
      · have hlim' : ¬ (k : Int) < 60 := by omega
        go_wp2
        go_roundw
        case rel => exact ⟨k + 1, by go_num, by omega, _, HSQ.out⟩
        case measure => simp [intOf]; omega
    · clear HRS
      go_upto_region 10 with fail
      go_cut [10] (fun p wx => ∃ K : Nat, K ≤ 7 ∧ p = .int .i64 (K : Int) ∧ wx = wr)
      case first =>
        go_wp2
        go_meet
        exact ⟨kb % 8, by omega, by first | rfl | (congr 1; omega) | simp, rfl⟩
      case rest =>
        obtain ⟨K, hK, rfl, hwx⟩ := hcut
        subst hwx
        by_cases hv : ∃ y ∈ L, y.id = v
        · skip
          obtain ⟨na, hna⟩ : ∃ n, n = (withinG L v K).length := ⟨_, rfl⟩
          obtain ⟨nb, hnb⟩ : ∃ n, n = (withinG L v (K + 1)).length := ⟨_, rfl⟩
          have HNA := Lib.hid hna
          have HNB := Lib.hid hnb
          have HDA : Hid (∀ w', GSt w (w1.heap.size + 1) w1.heap.size L w' → Calls Tryz.prog 13 #[.pointer (some ⟨w1.heap.size + 1, 0, none⟩), .agg #[.int .u8 2, .slice none 0 0, .int .u32 (v : Int), .int .i64 (K : Int), .int .i64 0]] w' fun e w'' => ∃ av cv al cl, e = .returned (.agg #[.int .i64 0, .int .i64 0, .slice av 0 cv, .slice al na cl]) ∧ na ≤ cl ∧ cl ≤ 9223372036854775807 ∧ GSt w (w1.heap.size + 1) w1.heap.size L w'' ∧ Kept w' w'' ∧ RdS w'' 1 (.slice al na cl) na ((withinG L v K).map (keyV .u32))) := Lib.hid (fun w' h => (shops_there _ _ L v K w w' h hv (by omega) HE.out).mono (by
            rintro e w'' ⟨av, cv, vl, rfl, h1, h2, h3⟩
            rw [← hna] at h3
            obtain ⟨al, cl, rfl, h4, h5, -⟩ := h3.shape
            exact ⟨av, cv, al, cl, rfl, h4, h5, h1, h2, h3⟩))
          have HDB : Hid (∀ w', GSt w (w1.heap.size + 1) w1.heap.size L w' → Calls Tryz.prog 13 #[.pointer (some ⟨w1.heap.size + 1, 0, none⟩), .agg #[.int .u8 2, .slice none 0 0, .int .u32 (v : Int), .int .i64 ((K : Int) + 1), .int .i64 0]] w' fun e w'' => ∃ av cv al cl, e = .returned (.agg #[.int .i64 0, .int .i64 0, .slice av 0 cv, .slice al nb cl]) ∧ nb ≤ cl ∧ cl ≤ 9223372036854775807 ∧ GSt w (w1.heap.size + 1) w1.heap.size L w'' ∧ Kept w' w'' ∧ RdS w'' 1 (.slice al nb cl) nb ((withinG L v (K + 1)).map (keyV .u32))) := Lib.hid (fun w' h => (shops_there _ _ L v (K + 1) w w' h hv (by omega) HE.out).mono (by
            rintro e w'' ⟨av, cv, vl, rfl, h1, h2, h3⟩
            rw [← hnb] at h3
            obtain ⟨al, cl, rfl, h4, h5, -⟩ := h3.shape
            exact ⟨av, cv, al, cl, rfl, h4, h5, h1, h2, h3⟩))
          have HV := Lib.hid hv
          clear hna hnb hv
          go_upto_region 13 with (first
            | (have hq := HB5.out; go_at_call 13; go_loud (refine (HDB.out _ (HG5.out.keep ((Mod.refl _ _).alloc _))).mono ?_; (rintro e w7 ⟨av7, cv7, ab, cb, rfl, hcb, hcb2, hg7, hk7, hr7⟩); have hb7 := hk7.box HB5.out; have q0 := cell_of_row hb7 0; have q1 := cell_of_row hb7 1; have q2 := cell_of_row hb7 2; have q3 := cell_of_row hb7 3; have zq := lt_of_block hb7; simp at q0 q1 q2 q3; have HP7 := Lib.hid (And.intro hg7 (And.intro hb7 (And.intro hr7 (hk7.rds (HR5.out.keep ((Mod.refl _ _).alloc _)))))); clear hg7 hk7 hr7 hb7 hq))
            | (go_at_call 13; go_loud (refine (HDA.out _ HST.out).mono ?_; (rintro e w5 ⟨av5, cv5, aa, ca, rfl, hca, hca2, hg5, hk5, hr5⟩); have HG5 := Lib.hid hg5; have HR5 := Lib.hid hr5; have HB5 : Hid ((w5.alloc (.cells #[.int .i64 0, .int .i64 0, .slice av5 0 cv5, .slice aa na ca] 34)).heap[w5.heap.size]? = some (.cells #[.int .i64 0, .int .i64 0, .slice av5 0 cv5, .slice aa na ca] 34 (0, 0))) := Lib.hid (heap_alloc_new' _ _); clear hg5 hk5 hr5)))
          have HP0 : Hid (HpAt w (w1.heap.size + 1) w1.heap.size L w5.heap.size w7.heap.size #[.int .i64 0, .int .i64 0, .slice av5 0 cv5, .slice aa na ca] #[.int .i64 0, .int .i64 0, .slice av7 0 cv7, .slice ab nb cb] (.slice aa na ca) (.slice ab nb cb) (withinG L v K) (withinG L v (K + 1)) (w7.alloc (.cells #[.int .i64 0, .int .i64 0, .slice av7 0 cv7, .slice ab nb cb] 34))) := Lib.hid ⟨HP7.out.1.keep ((Mod.refl _ _).alloc _), heap_alloc_old HP7.out.2.1, heap_alloc_new' _ _, by rw [← HNA.out]; exact HP7.out.2.2.2.keep ((Mod.refl _ _).alloc _), by rw [← HNB.out]; exact HP7.out.2.2.1.keep ((Mod.refl _ _).alloc _)⟩
          obtain ⟨la, hla⟩ : ∃ l, l = withinG L v K := ⟨_, rfl⟩
          obtain ⟨lb, hlb⟩ : ∃ l, l = withinG L v (K + 1) := ⟨_, rfl⟩
          have HLA := Lib.hid hla
          have HLB := Lib.hid hlb
          rw [← hla] at HNA HP0
          rw [← hlb] at HNB HP0
          clear hla hlb HP7 HDA HDB HR5 HB5
          go_wp2
          go_loopw [69] (fun i wr => ∃ j : Nat, i = .int .i64 (j : Int) ∧ j ≤ na ∧ HpAt w (w1.heap.size + 1) w1.heap.size L w5.heap.size w7.heap.size #[.int .i64 0, .int .i64 0, .slice av5 0 cv5, .slice aa na ca] #[.int .i64 0, .int .i64 0, .slice av7 0 cv7, .slice ab nb cb] (.slice aa na ca) (.slice ab nb cb) la lb wr) (fun i _ => na - (intOf i).toNat)
          case atStart => exact ⟨0, rfl, Nat.zero_le _, HP0.out⟩
          case round =>
            obtain ⟨wx, hwx⟩ : ∃ wx : World, wx = wr := ⟨_, rfl⟩
            subst hwx
            obtain ⟨j, rfl, hj, hpj⟩ := hrel
            have HPJ := Lib.hid hpj
            clear hpj HP0 q0 q1 q2 q3 zq
            by_cases hjn : j < na
            · obtain ⟨x, hx⟩ : ∃ x, la[j]? = some x := ⟨_, List.getElem?_eq_getElem (by rw [← HNA.out]; exact hjn)⟩
              obtain ⟨bj, offj, e1, hbj, p0⟩ := num_ent HPJ.out.ra hx rfl
              obtain rfl := e1
              have hxl := List.mem_of_getElem? hx
              rw [HLA.out, mem_withinG] at hxl
              obtain ⟨hnear, y, hy, hyx⟩ := hxl
              have HXV : Hid (∃ y ∈ L, y.id = x) := Lib.hid ⟨y, hy, hyx⟩
              have HXB : Hid ((lb.any fun z => z == x) = true) := Lib.hid (any_mem.2 (by rw [HLB.out, mem_withinG]; exact ⟨near_up hnear, y, hy, hyx⟩))
              have HVB : Hid (((withinG L x K).any fun z => z == v) = true) := Lib.hid (any_mem.2 (mem_withinG.2 ⟨near_sym HPJ.out.st.good hnear, HV.out⟩))
              clear hx hnear hy hyx
              obtain ⟨nx, hnx⟩ : ∃ n, n = (withinG L x K).length := ⟨_, rfl⟩
              have HDX : Hid (∀ w', GSt w (w1.heap.size + 1) w1.heap.size L w' → Calls Tryz.prog 13 #[.pointer (some ⟨w1.heap.size + 1, 0, none⟩), .agg #[.int .u8 2, .slice none 0 0, .int .u32 (x : Int), .int .i64 (K : Int), .int .i64 0]] w' fun e w'' => ∃ av cv al cl, e = .returned (.agg #[.int .i64 0, .int .i64 0, .slice av 0 cv, .slice al nx cl]) ∧ GSt w (w1.heap.size + 1) w1.heap.size L w'' ∧ Kept w' w'' ∧ RdS w'' 1 (.slice al nx cl) nx ((withinG L x K).map (keyV .u32))) := Lib.hid (fun w' h => (shops_there _ _ L x K w w' h HXV.out (by omega) HE.out).mono (by
                rintro e w'' ⟨av, cv, vl, rfl, h1, h2, h3⟩
                rw [← hnx] at h3
                obtain ⟨al, cl, rfl, h4, h5, -⟩ := h3.shape
                exact ⟨av, cv, al, cl, rfl, h1, h2, h3⟩))
              have HIA : Hid (∀ w', Mod (fun _ => False) wx w' → Calls Tryz.prog 15 #[.slice ab nb cb, .int .u32 (x : Int)] w' fun e w'' => e = .returned (.bool true) ∧ Mod (fun _ => False) w' w'') := Lib.hid (fun w' m => by
                have h := isin_any lb x (.slice ab nb cb) w' (HPJ.out.rb.keep m)
                rwa [HXB.out] at h)
              have HIB : Hid (∀ al cl w', RdS w' 1 (.slice al nx cl) nx ((withinG L x K).map (keyV .u32)) → Calls Tryz.prog 15 #[.slice al nx cl, .int .u32 (v : Int)] w' fun e w'' => e = .returned (.bool true) ∧ Mod (fun _ => False) w' w'') := Lib.hid (fun al cl w' h => by
                have h := isin_any (withinG L x K) v (.slice al nx cl) w' (by rw [← hnx]; exact h)
                rwa [HVB.out] at h)
              clear hnx
              have q3 := cell_of_row HPJ.out.two 3
              have zq := lt_of_block HPJ.out.two
              simp at q3
              go_wp2_with (first
                | (have hq := HR9.out; go_at_call 15; go_loud (refine (HIB.out _ _ _ (HR9.out.keep ((Mod.refl _ _).alloc _))).mono ?_; (rintro e wz ⟨rfl, hmz⟩); have MZ := Lib.hid (((Mod.refl (fun _ => False) w9).alloc _).trans hmz); clear hmz hq))
                | (have hq := M8.out; go_at_call 13; go_loud (refine (HDX.out _ (HPJ.out.st.keep M8.out)).mono ?_; (rintro e w9 ⟨av9, cv9, a9, c9, rfl, hg9, hk9, hr9⟩); have HP9 := Lib.hid ((HPJ.out.keep M8.out).go hg9 hk9); have HR9 := Lib.hid hr9; clear hg9 hk9 hr9 hq))
                | (go_at_call 15; go_loud (refine (HIA.out _ (Mod.refl _ _)).mono ?_; (rintro e w8 ⟨rfl, hm8⟩); have M8 := Lib.hid hm8; clear hm8)))
              go_roundw
              case rel => exact ⟨j + 1, by go_num, by omega, HP9.out.keep MZ.out⟩
              case measure => simp [intOf]; omega
            · have q3 := cell_of_row HPJ.out.two 3
              have zq := lt_of_block HPJ.out.two
              simp at q3
              have HP0 := Lib.hid HPJ.out
              go_wp2
              clear q3 zq HPJ
              go_loopw [97] (fun i wr => ∃ j : Nat, i = .int .i64 (j : Int) ∧ j ≤ nb ∧ HpAt w (w1.heap.size + 1) w1.heap.size L w5.heap.size w7.heap.size #[.int .i64 0, .int .i64 0, .slice av5 0 cv5, .slice aa na ca] #[.int .i64 0, .int .i64 0, .slice av7 0 cv7, .slice ab nb cb] (.slice aa na ca) (.slice ab nb cb) la lb wr) (fun i _ => nb - (intOf i).toNat)
              case atStart => exact ⟨0, rfl, Nat.zero_le _, HP0.out⟩
              case round =>
                obtain ⟨wy, hwy⟩ : ∃ wy : World, wy = wr := ⟨_, rfl⟩
                subst hwy
                obtain ⟨j, rfl, hj, hpj⟩ := hrel
                have HPJ := Lib.hid hpj
                clear hpj HP0
                have q3 := cell_of_row HPJ.out.one 3
                have zq := lt_of_block HPJ.out.one
                simp at q3
                by_cases hjn : j < nb
                · obtain ⟨x, hx⟩ : ∃ x, lb[j]? = some x := ⟨_, List.getElem?_eq_getElem (by rw [← HNB.out]; exact hjn)⟩
                  obtain ⟨bj, offj, e1, hbj, p0⟩ := num_ent HPJ.out.rb hx rfl
                  obtain rfl := e1
                  have hxl := List.mem_of_getElem? hx
                  rw [HLB.out, mem_withinG] at hxl
                  obtain ⟨hnear, y, hy, hyx⟩ := hxl
                  clear hx
                  obtain ⟨bx, hbx⟩ : ∃ b, b = la.any fun z => z == x := ⟨_, rfl⟩
                  have HIA : Hid (∀ w', Mod (fun _ => False) wy w' → Calls Tryz.prog 15 #[.slice aa na ca, .int .u32 (x : Int)] w' fun e w'' => e = .returned (.bool bx) ∧ Mod (fun _ => False) w' w'') := Lib.hid (fun w' m => by
                    have h := isin_any la x (.slice aa na ca) w' (HPJ.out.ra.keep m)
                    rwa [← hbx] at h)
                  cases bx with
                  | true =>
                    clear hnear hy hyx hbx
                    go_wp2_with (go_at_call 15; go_loud (refine (HIA.out _ (Mod.refl _ _)).mono ?_; (rintro e w8 ⟨rfl, hm8⟩); have M8 := Lib.hid hm8; clear hm8))
                    go_roundw
                    case rel => exact ⟨j + 1, by go_num, by omega, HPJ.out.keep M8.out⟩
                    case measure => simp [intOf]; omega
                  | false =>
                    have HNR : Hid ((y.halves.any fun h => la.any fun z => z == h.key) = true) := Lib.hid (by
                      subst hyx
                      obtain ⟨h, hh, hhn⟩ := near_far (v := v) (n := K) HPJ.out.st.good hy hnear (fun c => by
                        have : y.id ∈ la := by rw [HLA.out, mem_withinG]; exact ⟨c, y, hy, rfl⟩
                        rw [any_mem.2 this] at hbx
                        cases hbx)
                      rw [List.any_eq_true]
                      obtain ⟨u, hu, hui, _⟩ := HPJ.out.st.good.pair y hy h hh
                      exact ⟨h, hh, any_mem.2 (by rw [HLA.out, mem_withinG]; exact ⟨hhn, u, hu, hui⟩)⟩)
                    have HVX : Hid (∀ w', Mod (fun _ => False) wy w' → Calls Tryz.prog 14 #[.pointer (some ⟨w1.heap.size + 1, 0, none⟩), .int .u32 (x : Int)] w' (Twins w' y)) := Lib.hid (fun w' mm => by
                      have h := svertex_any _ _ L x w w' (HPJ.out.st.keep mm) (by rw [← hyx]; have := (HPJ.out.st.good.each y hy).id; omega)
                      rw [← hyx, tellV_mem HPJ.out.st.good.rise hy, hyx] at h
                      exact h)
                    clear hnear hy hyx hbx
                    obtain ⟨id, there, xs, ys⟩ := y
                    simp only at HNR HVX
                    obtain ⟨nh, hnh⟩ : ∃ n, n = ys.length := ⟨_, rfl⟩
                    have HNH := Lib.hid hnh
                    clear hnh
                    go_wp2_with (first
                      | (have hq := M8.out; go_at_call 14; go_loud (refine (HVX.out _ M8.out).mono ?_; (rintro e wv ⟨vpv, vhv, rfl, hmv, hnv⟩); have HPV := Lib.hid ((HPJ.out.keep M8.out).keep hmv); have hfl := fld_halves (id : Int) there vpv vhv wv; (obtain ⟨ah, ch, hch, hch2, rfl⟩ : ∃ a c, nh ≤ c ∧ c ≤ 9223372036854775807 ∧ vhv = .slice a nh c := (by obtain ⟨a, c, e, h1, h2, _⟩ := hnv.halves.rdS.shape; simp only at e h1; rw [← HNH.out] at e h1; exact ⟨_, _, h1, h2, e⟩)); have HHR := Lib.hid hnv.halves.rdS; clear hmv hnv hq))
                      | (go_at_call 15; go_loud (refine (HIA.out _ (Mod.refl _ _)).mono ?_; (rintro e w8 ⟨rfl, hm8⟩); have M8 := Lib.hid hm8; clear hm8)))
                    try simp only at HHR
                    rw [← HNH.out] at HHR
                    clear hfl q3 zq p0
                    go_loopw [110, 18] (fun i u wr => ∃ (q : Nat) (b : Bool), i = .int .i64 (q : Int) ∧ q ≤ nh ∧ u = .bool b ∧ b = ((ys.take q).any fun h => la.any fun z => z == h.key) ∧ Mod (fun _ => False) wv wr) (fun i _ _ => nh - (intOf i).toNat)
                    case atStart => exact ⟨0, false, rfl, Nat.zero_le _, rfl, by simp, Mod.refl _ _⟩
                    case round =>
                      obtain ⟨wq, hwq⟩ : ∃ wq : World, wq = wr := ⟨_, rfl⟩
                      subst hwq
                      obtain ⟨q, b, rfl, hq, rfl, hb, hmq⟩ := hrel
                      have HMQ := Lib.hid hmq
                      have HB := Lib.hid hb
                      clear hmq hb
                      have HPQ := Lib.hid (HPV.out.keep HMQ.out)
                      have q3 := cell_of_row HPQ.out.one 3
                      have zq := lt_of_block HPQ.out.one
                      simp at q3
                      by_cases hqn : q < nh
                      · obtain ⟨h, hh⟩ : ∃ h, ys[q]? = some h := ⟨_, List.getElem?_eq_getElem (by rw [← HNH.out]; exact hqn)⟩
                        obtain ⟨bq, offq, e2, hbq, p0, p1, p2, p3⟩ := HHR.out.ent2 hh rfl
                        obtain rfl := e2
                        replace p0 := HMQ.out.cell p0
                        replace p1 := HMQ.out.cell p1
                        replace p2 := HMQ.out.cell p2
                        replace p3 := HMQ.out.cell p3
                        have zb : bq < wq.heap.size := Nat.lt_of_lt_of_le hbq HMQ.out.size
                        have HTK : Hid (((ys.take (q + 1)).any fun h => la.any fun z => z == h.key) = (b || (la.any fun z => z == h.key))) := Lib.hid (by
                          obtain ⟨h1, h2⟩ := List.getElem?_eq_some_iff.1 hh
                          rw [List.take_succ_eq_append_getElem h1, h2, List.any_append, ← HB.out]
                          simp)
                        clear hh hbq
                        obtain ⟨far, ⟨vk, vn, vs⟩⟩ := h
                        simp only at p0 p1 p2 p3 HTK
                        have HMH : Hid (Mod (fun _ => False) wq (wq.alloc (.cells #[.int .u32 (far : Int), .int .u8 (vk : Int), .int .i64 vn, .string vs] 46))) := Lib.hid ((Mod.refl _ _).alloc _)
                        cases b with
                        | true =>
                          go_wp2
                          go_roundw
                          case rel => exact ⟨q + 1, true, by go_num, by omega, rfl, by rw [HTK.out]; rfl, HMQ.out.trans HMH.out⟩
                          case measure => simp [intOf]; omega
                        | false =>
                          obtain ⟨bf, hbf⟩ : ∃ b, b = la.any fun z => z == far := ⟨_, rfl⟩
                          rw [← hbf] at HTK
                          have HIF : Hid (∀ w', Mod (fun _ => False) wq w' → Calls Tryz.prog 15 #[.slice aa na ca, .int .u32 (far : Int)] w' fun e w'' => e = .returned (.bool bf) ∧ Mod (fun _ => False) w' w'') := Lib.hid (fun w' m => by
                            have h := isin_any la far (.slice aa na ca) w' (HPQ.out.ra.keep m)
                            rwa [← hbf] at h)
                          clear hbf
                          go_wp2_with (go_at_call 15; go_loud (refine (HIF.out _ HMH.out).mono ?_; (rintro e wz ⟨rfl, hmz⟩); have MZ := Lib.hid (HMH.out.trans hmz); clear hmz))
                          go_roundw
                          case rel => exact ⟨q + 1, bf, by go_num, by omega, rfl, by rw [HTK.out]; rfl, HMQ.out.trans MZ.out⟩
                          case measure => simp [intOf]; omega
                      · have HBT : Hid (b = true) := Lib.hid (by
                          have h := HB.out
                          rw [List.take_of_length_le (by have := HNH.out; omega), HNR.out] at h
                          exact h)
                        obtain rfl := HBT.out
                        go_wp2
                        go_roundw
                        case rel => exact ⟨j + 1, by go_num, by omega, HPQ.out⟩
                        case measure => simp [intOf]; omega
                · have HVL : Hid ((la.any fun z => z == v) = true) := Lib.hid (any_mem.2 (by rw [HLA.out, mem_withinG]; exact ⟨near_self L v K, HV.out⟩))
                  have HIV : Hid (∀ w', Mod (fun _ => False) wy w' → Calls Tryz.prog 15 #[.slice aa na ca, .int .u32 (v : Int)] w' fun e w'' => e = .returned (.bool true) ∧ Mod (fun _ => False) w' w'') := Lib.hid (fun w' m => by
                    have h := isin_any la v (.slice aa na ca) w' (HPJ.out.ra.keep m)
                    rwa [HVL.out] at h)
                  go_wp2_with (go_at_call 15; go_loud (refine (HIV.out _ (Mod.refl _ _)).mono ?_; (rintro e w8 ⟨rfl, hm8⟩); have M8 := Lib.hid hm8; clear hm8))
                  go_ret
                  exact ⟨rfl, HPJ.out.st.mod.trans M8.out⟩
        · skip
          have hz : goneN v ≠ 0 := by unfold goneN; split <;> decide
          obtain ⟨z, hzz⟩ : ∃ z, z = goneN v := ⟨_, rfl⟩
          have HD : Hid (∀ (K' : Nat), K' ≤ 8 → ∀ w', GSt w (w1.heap.size + 1) w1.heap.size L w' → Calls Tryz.prog 13 #[.pointer (some ⟨w1.heap.size + 1, 0, none⟩), .agg #[.int .u8 2, .slice none 0 0, .int .u32 (v : Int), .int .i64 (K' : Int), .int .i64 0]] w' fun e w'' => ∃ av cv al cl, e = .returned (.agg #[.int .i64 (z : Int), .int .i64 0, .slice av 0 cv, .slice al 0 cl]) ∧ GSt w (w1.heap.size + 1) w1.heap.size L w'' ∧ Kept w' w'') := Lib.hid (fun K' hK' w' h => by
            have h1 := shops_gone _ _ L v K' w w' h hv HVB.out hK' HE.out
            rwa [← hzz] at h1)
          have HDA := Lib.hid (HD.out K (by omega))
          have HDB : Hid (∀ w', GSt w (w1.heap.size + 1) w1.heap.size L w' → Calls Tryz.prog 13 #[.pointer (some ⟨w1.heap.size + 1, 0, none⟩), .agg #[.int .u8 2, .slice none 0 0, .int .u32 (v : Int), .int .i64 ((K : Int) + 1), .int .i64 0]] w' fun e w'' => ∃ av cv al cl, e = .returned (.agg #[.int .i64 (z : Int), .int .i64 0, .slice av 0 cv, .slice al 0 cl]) ∧ GSt w (w1.heap.size + 1) w1.heap.size L w'' ∧ Kept w' w'') := Lib.hid (fun w' h => HD.out (K + 1) (by omega) w' h)
          rw [← hzz] at hz
          have HVX : Hid (∀ w', GSt w (w1.heap.size + 1) w1.heap.size L w' → Calls Tryz.prog 14 #[.pointer (some ⟨w1.heap.size + 1, 0, none⟩), .int .u32 (v : Int)] w' (Twins w' ⟨v, false, [], []⟩)) := Lib.hid (fun w' h => by
            have h1 := svertex_any _ _ L v w w' h HVB.out
            rwa [tellV_gone hv] at h1)
          have hz' : ((z : Int) != 0) = true := by simp [hz]
          clear hzz HD
          go_wp2_with (first
            | (go_at_call 14; go_loud (refine (HVX.out _ (HG7.out.keep ((Mod.refl _ _).alloc _))).mono ?_; (rintro e w8 ⟨vp8, vh8, rfl, hm8, hn8⟩); have HM8 := Lib.hid (((Mod.refl (fun _ => False) w7).alloc _).trans hm8); (obtain ⟨a8, c8, n8, rfl⟩ : ∃ a c n, vp8 = .slice a n c := (by obtain ⟨a, c, e, _⟩ := hn8.props.rdS.shape; exact ⟨_, _, _, e⟩)); (obtain ⟨a9, c9, n9, rfl⟩ : ∃ a c n, vh8 = .slice a n c := (by obtain ⟨a, c, e, _⟩ := hn8.halves.rdS.shape; exact ⟨_, _, _, e⟩)); have hfl := fld_there (v : Int) false (.slice a8 n8 c8) (.slice a9 n9 c9) w8; clear hm8 hn8))
            | (have hq := HB5.out; go_at_call 13; go_loud (refine (HDB.out _ (HG5.out.keep ((Mod.refl _ _).alloc _))).mono ?_; (rintro e w7 ⟨av7, cv7, ab, cb, rfl, hg7, hk7⟩); have hb7 := hk7.box HB5.out; have q0 := cell_of_row hb7 0; have zq := lt_of_block hb7; simp at q0; have HG7 := Lib.hid hg7; clear hg7 hk7 hb7 hq))
            | (go_at_call 13; go_loud (refine (HDA.out _ HST.out).mono ?_; (rintro e w5 ⟨av5, cv5, aa, ca, rfl, hg5, hk5⟩); have HG5 := Lib.hid hg5; have HB5 : Hid ((w5.alloc (.cells #[.int .i64 (z : Int), .int .i64 0, .slice av5 0 cv5, .slice aa 0 ca] 34)).heap[w5.heap.size]? = some (.cells #[.int .i64 (z : Int), .int .i64 0, .slice av5 0 cv5, .slice aa 0 ca] 34 (0, 0))) := Lib.hid (heap_alloc_new' _ _); clear hg5 hk5)))
          go_ret
          exact ⟨by first | rfl | simp, HG7.out.mod.trans HM8.out⟩
/-- A number of 32 bits, of 8 bits, as they come in. -/
def InU32 (W : World) (v : Value) : Prop := ∃ k : Nat, v = .int .u32 (k : Int) ∧ k < 4294967296
section
open Go.ChangeShapes Go.WideShapes Go.ChangeAt
variable {H : Type} {enc : TypeId × Value → H} {W : World} {base : Nat} {v : Value} {d : DataW H} {p : List MemPlace}
set_option maxRecDepth 100000 in
theorem in_u32 (hv : Value.okWide Tryz.prog W .any base 23 v) (h : DataW.Trod enc Tryz.prog W 0 (fun _ => true) true 23 v d p) : InU32 W v := by
  obtain ⟨a, rfl, _, _, hw⟩ := open_int Tryz.underlying23 hv h
  have b := bounds_u32 hw
  obtain ⟨m, rfl⟩ := Int.eq_ofNat_of_zero_le b.1
  exact ⟨m, rfl, by omega⟩
end
theorem ghops_all (v0 v1 v2 : Value) (w : World) (hg : ErrT w) (h0 : InReqs w v0) (h1 : InU32 w v1) (h2 : InU8 w v2) : Calls Tryz.prog 3 #[v0, v1, v2] w fun e w' => e = .returned (.bool true) ∧ Below w.heap.size w w' := by
  obtain ⟨l, h⟩ := h0
  obtain ⟨k, rfl, hk⟩ := h1
  obtain ⟨b, rfl, hb⟩ := h2
  exact Calls.mono (R := fun e w' => e = .returned (.bool true) ∧ Mod (fun _ => False) w w') (ghops_main v0 l k b hk hb w h hg) (fun _ _ ⟨h, m⟩ => ⟨h, m.toBelow (Nat.le_refl _) (fun _ _ f => f)⟩)
end Go.Proofs.YtbgjbikpenefoaaGreatDoor
