/- YBM: what is needed of it (by shake.py). -/
import Derived.Test.YtbgjbikpenefoaaDoorM39
import Derived.Test.YtbgjbikpenefoaaDoorYBC
import Derived.Test.YtbgjbikpenefoaaDoorM13

/- YBM, as far as the seat goes. -/
/- gussetlaw03.GraphDegrees, walked. (Printed by gen_gdeg.py.) -/
namespace Go.Proofs.YtbgjbikpenefoaaDoor
set_option linter.unusedVariables false
set_option linter.unusedSimpArgs false
open Go.RowKit Go.Maps
def degS (l : List Vtx) : Nat := (l.map fun x => x.halves.length).sum
def upS (L l : List Vtx) : Nat := (l.map fun x => (L.map (upN x)).sum).sum
theorem degS_succ {L : List Vtx} {k : Nat} {x : Vtx} (h : L[k]? = some x) : degS (L.take (k + 1)) = degS (L.take k) + x.halves.length := by
  obtain ⟨h1, h2⟩ := List.getElem?_eq_some_iff.1 h
  unfold degS
  rw [List.take_succ_eq_append_getElem h1, h2, List.map_append, List.sum_append]
  simp
theorem upS_succ {L : List Vtx} {k : Nat} {x : Vtx} (h : L[k]? = some x) : upS L (L.take (k + 1)) = upS L (L.take k) + (L.map (upN x)).sum := by
  obtain ⟨h1, h2⟩ := List.getElem?_eq_some_iff.1 h
  unfold upS
  rw [List.take_succ_eq_append_getElem h1, h2, List.map_append, List.sum_append]
  simp
theorem sum_bound {α : Type} {f : α → Nat} {c : Nat} : ∀ {l : List α}, (∀ x ∈ l, f x ≤ c) → (l.map f).sum ≤ c * l.length
  | [], _ => by simp
  | x :: r, h => by
    have h1 := h x (by simp)
    have h2 := sum_bound (l := r) (fun y hy => h y (by simp [hy]))
    simp only [List.map_cons, List.sum_cons, List.length_cons, Nat.mul_add, Nat.mul_one]
    omega
theorem upN_le (x y : Vtx) : upN x y ≤ 1 := by unfold upN edgeN; split <;> (try split) <;> omega
theorem upAll_le {L : Gr} (h : Good L) (x : Vtx) (l : List Vtx) (hl : l.length ≤ 40) : (l.map (upN x)).sum ≤ 40 := by
  have := sum_bound (l := l) (c := 1) (fun y _ => upN_le x y)
  omega
theorem upTake_le {L : Gr} (h : Good L) {x : Vtx} {j : Nat} : ((L.take j).map (upN x)).sum ≤ 40 := upAll_le h x _ (by rw [List.length_take]; have := h.short; omega)
theorem degS_le {L : Gr} (h : Good L) {k : Nat} : degS (L.take k) ≤ 16 * k := by
  have h1 := sum_bound (l := L.take k) (f := fun x => x.halves.length) (c := 16) (fun x hx => (h.each x (List.mem_of_mem_take hx)).few)
  have h2 : (L.take k).length ≤ k := by rw [List.length_take]; omega
  unfold degS
  have := Nat.mul_le_mul_left 16 h2
  omega
theorem upS_le {L : Gr} (h : Good L) {k : Nat} : upS L (L.take k) ≤ 40 * k := by
  have h1 := sum_bound (l := L.take k) (f := fun x => (L.map (upN x)).sum) (c := 40) (fun x hx => upAll_le h x _ h.short)
  have h2 : (L.take k).length ≤ k := by rw [List.length_take]; omega
  unfold upS
  have := Nat.mul_le_mul_left 40 h2
  omega
/-- What an edge between two that are there is answered. -/
def edgeE (x y : Vtx) : Nat := if (entX x.halves y.id).isSome then 0 else 6
def edgeV (x y : Vtx) : List Val := (entX x.halves y.id).toList
theorem edge_same {L : Gr} (h : Good L) {x y : Vtx} (hx : x ∈ L) (hy : y ∈ L) : edgeE x y = edgeE y x ∧ edgeV x y = edgeV y x := by
  have one : ∀ {x y : Vtx}, x ∈ L → y ∈ L → ∀ v, entX x.halves y.id = some v → entX y.halves x.id = some v := by
    intro x y hx hy v hv
    obtain ⟨u, hu, e1, hm⟩ := h.pair x hx _ (entX_mem hv)
    have : u = y := h.rise.uniq hu hy e1
    subst this
    exact (entX_isSome (h.each u hu).hrise).2 hm
  have e : entX x.halves y.id = entX y.halves x.id := by
    cases h1 : entX x.halves y.id with
    | some v => exact (one hx hy v h1).symm
    | none =>
      cases h2 : entX y.halves x.id with
      | none => rfl
      | some v => rw [one hy hx v h2] at h1; cases h1
  unfold edgeE edgeV
  rw [e]
  exact ⟨rfl, rfl⟩
theorem deg_one {L : Gr} (h : Good L) {x : Vtx} (hx : x ∈ L) : doG L (txR [⟨8, x.id, 0, 0, noVal⟩]) = (L, ⟨0, 0, [⟨1, x.halves.length, ⟨#[]⟩⟩], []⟩) := by
  have hid := (h.each x hx).id
  have hone : oneG L ⟨8, x.id, 0, 0, noVal⟩ = ⟨0, L, [⟨1, x.halves.length, ⟨#[]⟩⟩]⟩ := by
    unfold oneG
    simp [(findV_iff h.rise).2 ⟨hx, rfl⟩]
  have hok : opOK ⟨8, x.id, 0, 0, noVal⟩ = true := by
    simp [opOK, Opr.two, Opr.hasKey, Opr.hasVal, numB]
    omega
  rw [do_one_ok hok (by rw [hone]), hone]
theorem edge_one {L : Gr} (h : Good L) {x y : Vtx} (hx : x ∈ L) (hy : y ∈ L) (hne : x.id ≠ y.id) : doG L (txR [⟨7, x.id, y.id, 0, noVal⟩]) = (L, ⟨edgeE x y, 0, edgeV x y, []⟩) := by
  have hid := (h.each x hx).id
  have hid2 := (h.each y hy).id
  have hok : opOK ⟨7, x.id, y.id, 0, noVal⟩ = true := by
    simp [opOK, Opr.two, Opr.hasKey, Opr.hasVal, numB]
    omega
  have hf := (findV_iff h.rise).2 ⟨hx, rfl⟩
  unfold edgeE edgeV
  cases he : entX x.halves y.id with
  | some v =>
    have hone : oneG L ⟨7, x.id, y.id, 0, noVal⟩ = ⟨0, L, [v]⟩ := by
      unfold oneG
      simp [hf, he]
    rw [do_one_ok hok (by rw [hone]), hone]
    rfl
  | none =>
    have hone : oneG L ⟨7, x.id, y.id, 0, noVal⟩ = ⟨6, L, []⟩ := by
      unfold oneG
      simp [hf, he]
    have hc : checkR (txR [⟨7, x.id, y.id, 0, noVal⟩]) = 0 := tx_good (by simp) (by simp) (fun o ho => by rw [List.mem_singleton.1 ho]; exact hok)
    rw [doG_tx_no hc (by rw [run_one, hone]; rfl)]
    unfold failG
    rw [hone]
    rfl
theorem deg_call (g bm : Nat) (L : Gr) (x : Vtx) (hx : x ∈ L) (w wX : World) (h : GSt w g bm L wX) (hg : ErrT w) :
    Calls Tryd.prog 8 #[.pointer (some ⟨g, 0, none⟩), .agg #[.int .u8 1, .slice (some ⟨wX.heap.size, 0, none⟩) 1 1, .int .u32 0, .int .i64 0, .int .i64 0]] (wX.alloc (.cells #[.int .u8 8, .int .u32 (x.id : Int), .int .u32 0, .int .u8 0, .int .u8 0, .int .i64 0, .string ⟨#[]⟩] 41)) fun e w' => ∃ bv ov cv al nl cl, e = .returned (.agg #[.int .i64 0, .int .i64 0, .slice (some ⟨bv, ov, none⟩) 1 cv, .slice al nl cl]) ∧ GSt w g bm L w' ∧ Kept wX w' ∧ bv < w'.heap.size ∧ w'.cell? ⟨bv, ov + 1, none⟩ = some (.int .i64 (x.halves.length : Int)) := by
  have hid := (h.good.each x hx).id
  have m : Mod (fun _ => False) wX (wX.alloc (.cells #[.int .u8 8, .int .u32 (x.id : Int), .int .u32 0, .int .u8 0, .int .u8 0, .int .i64 0, .string ⟨#[]⟩] 41)) := (Mod.refl _ _).alloc _
  refine (sgdo_any g bm L (txR [⟨8, x.id, 0, 0, noVal⟩]) _ w _ (h.keep m) (lit_one ⟨8, x.id, 0, 0, noVal⟩ ⟨by simp only; omega, by simp only; omega, by simp only; omega, by simp only; omega, noValFits⟩ wX) (show (0 : Nat) < 4294967296 by decide) hg).mono ?_
  rintro e w' ⟨vv, vl, rfl, hs⟩
  have hd := deg_one h.good hx
  have h1 := hs.st; have h2 := hs.vals.rdS; have h3 := hs.list.rdS
  rw [hd] at h1 h2 h3 ⊢
  simp only at h1 h2 h3 ⊢
  obtain ⟨a, c, hv, -⟩ := h2.shape
  obtain ⟨bv, ov, ea, hb, hc⟩ := h2.cell a c hv 1 _ rfl
  subst ea
  obtain ⟨a', c', rfl, -⟩ := h3.shape
  exact ⟨bv, ov, c, a', _, c', by rw [hv]; rfl, h1, (Kept.mod m).trans hs.kept, hb, hc⟩
theorem edge_call (g bm : Nat) (L : Gr) (x y : Vtx) (hx : x ∈ L) (hy : y ∈ L) (hne : x.id ≠ y.id) (w wX : World) (h : GSt w g bm L wX) (hg : ErrT w) :
    Calls Tryd.prog 8 #[.pointer (some ⟨g, 0, none⟩), .agg #[.int .u8 1, .slice (some ⟨wX.heap.size, 0, none⟩) 1 1, .int .u32 0, .int .i64 0, .int .i64 0]] (wX.alloc (.cells #[.int .u8 7, .int .u32 (x.id : Int), .int .u32 (y.id : Int), .int .u8 0, .int .u8 0, .int .i64 0, .string ⟨#[]⟩] 41)) fun e w' => ∃ av nv cv al cl, e = .returned (.agg #[.int .i64 (edgeE x y : Nat), .int .i64 0, .slice av nv cv, .slice al 0 cl]) ∧ GSt w g bm L w' ∧ Kept wX w' ∧ RdS w' 3 (.slice av nv cv) (edgeV x y).length (vvcells (edgeV x y)) ∧ RdS w' 1 (.slice al 0 cl) 0 [] := by
  have hid := (h.good.each x hx).id
  have hid2 := (h.good.each y hy).id
  have m : Mod (fun _ => False) wX (wX.alloc (.cells #[.int .u8 7, .int .u32 (x.id : Int), .int .u32 (y.id : Int), .int .u8 0, .int .u8 0, .int .i64 0, .string ⟨#[]⟩] 41)) := (Mod.refl _ _).alloc _
  refine (sgdo_any g bm L (txR [⟨7, x.id, y.id, 0, noVal⟩]) _ w _ (h.keep m) (lit_one ⟨7, x.id, y.id, 0, noVal⟩ ⟨by simp only; omega, by simp only; omega, by simp only; omega, by simp only; omega, noValFits⟩ wX) (show (0 : Nat) < 4294967296 by decide) hg).mono ?_
  rintro e w' ⟨vv, vl, rfl, hs⟩
  have hd := edge_one h.good hx hy hne
  have h1 := hs.st; have h2 := hs.vals.rdS; have h3 := hs.list.rdS
  rw [hd] at h1 h2 h3 ⊢
  simp only at h1 h2 h3 ⊢
  obtain ⟨a, c, rfl, -⟩ := h2.shape
  obtain ⟨a', c', rfl, -⟩ := h3.shape
  exact ⟨a, _, c, a', c', rfl, h1, (Kept.mod m).trans hs.kept, h2, h3⟩
set_option maxRecDepth 100000 in
set_option maxHeartbeats 8000000 in
theorem gdeg_main (vs : Value) (rs : List Qs) (w : World) (hs : QRd w vs rs) (hg : ErrT w) :
    Calls Tryd.prog 3 #[vs] w fun e w' => e = .returned (.bool true) ∧ Mod (fun _ => False) w w' := by
  have HAW := Lib.hid (awake_any w hg)
  have HE := Lib.hid hg
  have HRS := Lib.hid hs
  obtain ⟨as_, cs_, rfl, hcs, hcs2, -⟩ := hs.row.shape
  obtain ⟨n, hn⟩ : ∃ n, n = rs.length := ⟨_, rfl⟩
  rw [← hn] at HRS hcs ⊢
  have HN := Lib.hid hn
  clear hs hn hg
  go_enter Tryd.func3, Tryd.ntmps3
  go_wp2_with (first
    | (go_at_call 5; refine (snew_any w w1 HM1.out).mono ?_; (rintro e w2 ⟨rfl, hm2, hst, hz2⟩); have HST0 := Lib.hid hst; clear hm2 hst hz2)
    | (go_at_call 4; refine HAW.out.mono ?_; (rintro e w1 ⟨rfl, hm1⟩); have HM1 := Lib.hid hm1; clear hm1))
  go_loopw [20] (fun i wr => ∃ k : Nat, i = .int .i64 (k : Int) ∧ k ≤ n ∧ ∃ L, GSt w (w1.heap.size + 1) w1.heap.size L wr) (fun i _ => n - (intOf i).toNat)
  case atStart => exact ⟨0, rfl, Nat.zero_le _, _, HST0.out⟩
  case round =>
    obtain ⟨k, rfl, hk, L, hst⟩ := hrel
    have HST := Lib.hid hst
    clear hst HST0
    by_cases hkn : k < n
    · skip
      obtain ⟨q, hq⟩ : ∃ q, rs[k]? = some q := ⟨_, List.getElem?_eq_getElem (by rw [← HN.out]; exact hkn)⟩
      obtain ⟨bl, offl, e0, hbl, r0, r1, r2, r3, r4⟩ := HRS.out.ent hq rfl
      replace r0 := HST.out.mod.cell r0
      replace r1 := HST.out.mod.cell r1
      replace r2 := HST.out.mod.cell r2
      replace r3 := HST.out.mod.cell r3
      replace r4 := HST.out.mod.cell r4
      have zbl : bl < wr.heap.size := Nat.lt_of_lt_of_le hbl HST.out.mod.size
      have HOR := Lib.hid (HRS.out.each q (List.mem_of_getElem? hq))
      have HSM := Lib.hid (HRS.out.small q (List.mem_of_getElem? hq))
      clear hq hbl
      subst e0
      obtain ⟨⟨kind, ops, v, kk, dd⟩, qo⟩ := q
      obtain ⟨aq, cq, hqe, -⟩ := HOR.out.row.shape
      simp only at hqe HOR r0 r1 r2 r3 r4
      subst hqe
      obtain ⟨nq, hnq⟩ : ∃ n, n = ops.length := ⟨_, rfl⟩
      rw [← hnq] at r1 HOR
      have HMQ : Hid (Mod (fun _ => False) wr (wr.alloc (.cells #[.int .u8 (kind : Int), .slice aq nq cq, .int .u32 (v : Int), .int .i64 kk, .int .i64 dd] 29))) := Lib.hid ((Mod.refl _ _).alloc _)
      have HDO := Lib.hid (sdo_any (w1.heap.size + 1) w1.heap.size L ⟨kind, ops, v, kk, dd⟩ (.slice aq nq cq) w (wr.alloc (.cells #[.int .u8 (kind : Int), .slice aq nq cq, .int .u32 (v : Int), .int .i64 kk, .int .i64 dd] 29)) (HST.out.keep HMQ.out) (HOR.out.keep (HST.out.mod.trans HMQ.out)) HSM.out.fits.v HE.out HSM.out.size)
      simp only [rqV] at HDO
      have HSQ := Lib.hid (HST.out.keep HMQ.out)
      clear hnq
      by_cases hlim : k < 60
      · have hlim' : (k : Int) < 60 := by omega
        go_wp2_with (go_at_call 6; refine HDO.out.mono ?_; (rintro e w5 ⟨vv, vl, rfl, hsd⟩); have HS5 := Lib.hid hsd.st; (obtain ⟨ze, hze⟩ : ∃ ze, ze = (doG L ⟨kind, ops, v, kk, dd⟩).2.e := ⟨_, rfl⟩); (obtain ⟨za, hza⟩ : ∃ za, za = (doG L ⟨kind, ops, v, kk, dd⟩).2.at_ := ⟨_, rfl⟩); rw [← hze, ← hza]; clear hsd hze hza)
        go_roundw
        case rel => exact ⟨k + 1, by go_num, by omega, _, HS5.out⟩
        case measure => simp [intOf]; omega
      · have hlim' : ¬ (k : Int) < 60 := by omega
        go_wp2
        go_roundw
        case rel => exact ⟨k + 1, by go_num, by omega, _, HSQ.out⟩
        case measure => simp [intOf]; omega
    · clear HRS
      obtain ⟨m, hm⟩ : ∃ m, m = L.length := ⟨_, rfl⟩
      have HML := Lib.hid hm
      have HM40 : Hid (m ≤ 40) := Lib.hid (by have := HST.out.good.short; omega)
      have HL := Lib.hid HST.out.good
      clear hm
      have HDG : Hid (∀ x ∈ L, ∀ wX, GSt w (w1.heap.size + 1) w1.heap.size L wX → Calls Tryd.prog 8 #[.pointer (some ⟨w1.heap.size + 1, 0, none⟩), .agg #[.int .u8 1, .slice (some ⟨wX.heap.size, 0, none⟩) 1 1, .int .u32 0, .int .i64 0, .int .i64 0]] (wX.alloc (.cells #[.int .u8 8, .int .u32 (x.id : Int), .int .u32 0, .int .u8 0, .int .u8 0, .int .i64 0, .string ⟨#[]⟩] 41)) fun e w' => ∃ bv ov cv al nl cl, e = .returned (.agg #[.int .i64 0, .int .i64 0, .slice (some ⟨bv, ov, none⟩) 1 cv, .slice al nl cl]) ∧ GSt w (w1.heap.size + 1) w1.heap.size L w' ∧ Kept wX w' ∧ bv < w'.heap.size ∧ w'.cell? ⟨bv, ov + 1, none⟩ = some (.int .i64 (x.halves.length : Int))) := Lib.hid (fun x hx wX h => deg_call _ _ L x hx w wX h HE.out)
      have HEG : Hid (∀ x ∈ L, ∀ y ∈ L, x.id ≠ y.id → ∀ wX n0, wX.heap.size = n0 → GSt w (w1.heap.size + 1) w1.heap.size L wX → Calls Tryd.prog 8 #[.pointer (some ⟨w1.heap.size + 1, 0, none⟩), .agg #[.int .u8 1, .slice (some ⟨n0, 0, none⟩) 1 1, .int .u32 0, .int .i64 0, .int .i64 0]] (wX.alloc (.cells #[.int .u8 7, .int .u32 (x.id : Int), .int .u32 (y.id : Int), .int .u8 0, .int .u8 0, .int .i64 0, .string ⟨#[]⟩] 41)) fun e w' => ∃ av nv cv al cl, e = .returned (.agg #[.int .i64 (edgeE x y : Nat), .int .i64 0, .slice av nv cv, .slice al 0 cl]) ∧ GSt w (w1.heap.size + 1) w1.heap.size L w' ∧ Kept wX w' ∧ RdS w' 3 (.slice av nv cv) (edgeV x y).length (vvcells (edgeV x y)) ∧ RdS w' 1 (.slice al 0 cl) 0 []) := Lib.hid (fun x hx y hy hne wX n0 e h => by subst e; exact edge_call _ _ L x y hx hy hne w wX h HE.out)
      go_wp2_with (go_at_call 7; go_loud (refine (slist_any _ _ L w _ HST.out).mono ?_; (rintro e w2 ⟨vi, rfl, hsn⟩); have HS2 := Lib.hid hsn; (obtain ⟨ai, ci, hci, hci2, rfl⟩ : ∃ a c, m ≤ c ∧ c ≤ 9223372036854775807 ∧ vi = .slice a m c := (by obtain ⟨a, c, e, h1, h2, _⟩ := hsn.seg.rdS.shape; rw [List.length_map, ← HML.out] at e h1; exact ⟨_, _, h1, h2, e⟩)); clear hsn))
      have HG2 := Lib.hid (HST.out.keep HS2.out.mod)
      have HR2 := Lib.hid HS2.out.seg.rdS
      rw [List.length_map, ← HML.out] at HR2
      clear HST HS2
      go_loopw [34, 6, 7] (fun i s u wr => ∃ k : Nat, i = .int .i64 (k : Int) ∧ k ≤ m ∧ s = .int .i64 (degS (L.take k) : Nat) ∧ u = .int .i64 (upS L (L.take k) : Nat) ∧ GSt w (w1.heap.size + 1) w1.heap.size L wr ∧ Kept w2 wr) (fun i _ _ _ => m - (intOf i).toNat)
      case atStart => exact ⟨0, rfl, Nat.zero_le _, rfl, rfl, HG2.out, Kept.refl _⟩
      case round =>
        obtain ⟨wx, hwx⟩ : ∃ wx : World, wx = wr := ⟨_, rfl⟩
        subst hwx
        obtain ⟨k, rfl, hk, rfl, rfl, hg, hkp⟩ := hrel
        have HG := Lib.hid hg
        have HK := Lib.hid hkp
        clear hg hkp
        obtain ⟨ds, hds⟩ : ∃ d, d = degS (L.take k) := ⟨_, rfl⟩
        obtain ⟨us, hus⟩ : ∃ d, d = upS L (L.take k) := ⟨_, rfl⟩
        have HDS := Lib.hid hds
        have HUS := Lib.hid hus
        rw [← hds, ← hus]
        clear hds hus
        by_cases hkm : k < m
        · obtain ⟨x, hx⟩ : ∃ x, L[k]? = some x := ⟨_, List.getElem?_eq_getElem (by rw [← HML.out]; exact hkm)⟩
          have hxm := List.mem_of_getElem? hx
          have HXM := Lib.hid hxm
          obtain ⟨bi, offi, e0, hbi, r0⟩ := num_ent HR2.out (i := k) (x := x.id) (by rw [List.getElem?_map, hx]; rfl) rfl
          subst e0
          replace r0 := HK.out.cell r0
          have zbi : bi < wx.heap.size := Nat.lt_of_lt_of_le hbi HK.out.size
          have HD1 := Lib.hid (HDG.out x hxm)
          have HTD : Hid (degS (L.take (k + 1)) = ds + x.halves.length) := Lib.hid (by rw [HDS.out]; exact degS_succ hx)
          have HTU : Hid (upS L (L.take (k + 1)) = us + (L.map (upN x)).sum) := Lib.hid (by rw [HUS.out]; exact upS_succ hx)
          have HFW : Hid (x.halves.length ≤ 16) := Lib.hid (HL.out.each x hxm).few
          have hd16 : ds ≤ 16 * k := by rw [HDS.out]; exact degS_le HL.out (k := k)
          have hu16 : us ≤ 40 * k := by rw [HUS.out]; exact upS_le HL.out (k := k)
          obtain ⟨nx, hnx⟩ : ∃ n, n = x.halves.length := ⟨_, rfl⟩
          rw [← hnx] at HD1 HTD HFW
          have hnx16 : nx ≤ 16 := HFW.out
          have hk40 : k < 40 := by have := HM40.out; omega
          clear hx hbi hnx
          go_wp2_with (first
            | (have hq := HG5.out; go_at_call 7; go_loud (refine (slist_any _ _ L w _ (HG5.out.keep ((Mod.refl _ _).alloc _))).mono ?_; (rintro e w6 ⟨vj, rfl, hsj⟩); have HJ6 := Lib.hid hsj; (obtain ⟨aj, cj, hcj, hcj2, rfl⟩ : ∃ a c, m ≤ c ∧ c ≤ 9223372036854775807 ∧ vj = .slice a m c := (by obtain ⟨a, c, e, h1, h2, _⟩ := hsj.seg.rdS.shape; rw [List.length_map, ← HML.out] at e h1; exact ⟨_, _, h1, h2, e⟩)); clear hsj hq))
            | (go_at_call 8; go_loud (refine (HD1.out _ HG.out).mono ?_; (rintro e w5 ⟨bv5, ov5, cv5, al5, nl5, cl5, rfl, hg5, hk5, hz5, hc5⟩); have HG5 := Lib.hid hg5; have HK5 := Lib.hid hk5; clear hg5 hk5)))
          have HM56 : Hid (Mod (fun _ => False) w5 w6) := Lib.hid (((Mod.refl (fun _ => False) w5).alloc _).trans HJ6.out.mod)
          have HG6 := Lib.hid (HG5.out.keep HM56.out)
          have HK6 := Lib.hid ((HK.out.trans HK5.out).then HM56.out)
          have HR6 := Lib.hid HJ6.out.seg.rdS
          rw [List.length_map, ← HML.out] at HR6
          clear HJ6 HG5 HK5 HM56 hc5 hz5 r0 zbi HD1 hd16
          go_loopw [63, 7] (fun i u wr => ∃ j : Nat, i = .int .i64 (j : Int) ∧ j ≤ m ∧ u = .int .i64 ((us + ((L.take j).map (upN x)).sum : Nat) : Int) ∧ GSt w (w1.heap.size + 1) w1.heap.size L wr ∧ Kept w6 wr) (fun i _ _ => m - (intOf i).toNat)
          case atStart => exact ⟨0, rfl, Nat.zero_le _, rfl, HG6.out, Kept.refl _⟩
          case round =>
            obtain ⟨wy, hwy⟩ : ∃ wy : World, wy = wr := ⟨_, rfl⟩
            subst hwy
            obtain ⟨j, rfl, hj, rfl, hgj, hkj⟩ := hrel
            have HGJ := Lib.hid hgj
            have HKJ := Lib.hid hkj
            clear hgj hkj
            obtain ⟨uj, huj⟩ : ∃ d, d = us + ((L.take j).map (upN x)).sum := ⟨_, rfl⟩
            have HUJ := Lib.hid huj
            rw [← huj]
            clear huj
            by_cases hjm : j < m
            · obtain ⟨y, hy⟩ : ∃ y, L[j]? = some y := ⟨_, List.getElem?_eq_getElem (by rw [← HML.out]; exact hjm)⟩
              have hym := List.mem_of_getElem? hy
              obtain ⟨bj, offj, e1, hbj, p0⟩ := num_ent HR6.out (i := j) (x := y.id) (by rw [List.getElem?_map, hy]; rfl) rfl
              subst e1
              replace p0 := HKJ.out.cell p0
              have zbj : bj < wy.heap.size := Nat.lt_of_lt_of_le hbj HKJ.out.size
              have HTJ : Hid (us + ((L.take (j + 1)).map (upN x)).sum = uj + upN x y) := Lib.hid (by
                obtain ⟨h1, h2⟩ := List.getElem?_eq_some_iff.1 hy
                rw [HUJ.out, List.take_succ_eq_append_getElem h1, h2, List.map_append, List.sum_append]
                simp; omega)
              have huj40 : uj ≤ 1640 := by
                have h := upTake_le HL.out (x := x) (j := j)
                have := HUJ.out; omega
              clear hy hbj
              by_cases hle : y.id ≤ x.id
              · have HZ : Hid (upN x y = 0) := Lib.hid (by unfold upN; rw [if_neg (by omega)])
                have hle' : ((y.id : Int) ≤ (x.id : Int)) := by omega
                go_wp2
                go_roundw
                case rel => exact ⟨j + 1, by go_num, by omega, by rw [HTJ.out, HZ.out]; rfl, HGJ.out, HKJ.out⟩
                case measure => simp [intOf]; omega
              · have hle' : ¬ ((y.id : Int) ≤ (x.id : Int)) := by omega
                have hle2 : ¬ (y.id ≤ x.id) := hle
                have HEA := Lib.hid (HEG.out x HXM.out y hym (by omega))
                have HEB := Lib.hid (HEG.out y hym x HXM.out (by omega))
                have hsym := edge_same HL.out HXM.out hym
                have HU1 : Hid (upN x y = if edgeE x y = 0 then 1 else 0) := Lib.hid (by
                  unfold upN edgeN hasB edgeE
                  rw [if_pos (by omega)]
                  cases entX x.halves y.id <;> rfl)
                obtain ⟨ee, hee⟩ : ∃ e, e = edgeE x y := ⟨_, rfl⟩
                obtain ⟨ev, hev⟩ : ∃ e, e = edgeV x y := ⟨_, rfl⟩
                rw [← hsym.1, ← hsym.2, ← hee, ← hev] at HEB
                rw [← hee, ← hev] at HEA
                rw [← hee] at HU1
                have hcs : ee = 0 ∨ ee = 6 := by rw [hee]; unfold edgeE; cases entX x.halves y.id <;> simp
                clear hsym hee hev
                have HSA : Hid (∀ av nv cv al cl av' nv' cv' al' cl' w', RdS w' 3 (.slice av nv cv) ev.length (vvcells ev) → RdS w' 1 (.slice al 0 cl) 0 [] → RdS w' 3 (.slice av' nv' cv') ev.length (vvcells ev) → RdS w' 1 (.slice al' 0 cl') 0 [] → Calls Tryd.prog 9 #[.agg #[.int .i64 (ee : Int), .int .i64 0, .slice av nv cv, .slice al 0 cl], .agg #[.int .i64 (ee : Int), .int .i64 0, .slice av' nv' cv', .slice al' 0 cl']] w' fun e w'' => e = .returned (.bool true) ∧ Mod (fun _ => False) w' w'') := Lib.hid (fun av nv cv al cl av' nv' cv' al' cl' w' h1 h2 h3 h4 => by
                  have h := anssame_any (ee : Int) 0 (ee : Int) 0 ev ev [] [] _ _ _ _ w' h1 h3 h2 h4
                  simpa using h)
                rcases hcs with rfl | rfl
                all_goals
                  go_wp2_with (first
                    | (go_at_call 9; go_loud (refine (HSA.out _ _ _ _ _ _ _ _ _ _ _ (HRA8.out.keep ((Mod.refl _ _).alloc _)) (HRL8.out.keep ((Mod.refl _ _).alloc _)) (HRB8.out.keep ((Mod.refl _ _).alloc _)) (HRM8.out.keep ((Mod.refl _ _).alloc _))).mono ?_; (rintro e w9 ⟨rfl, hm9⟩); have M9 := Lib.hid (((Mod.refl (fun _ => False) w8).alloc _).trans hm9); have hb9 := M9.out.heap HBX8.out (fun f => f); have s0 := cell_of_row hb9 0; have zs := lt_of_block hb9; simp at s0; clear hm9 hb9))
                    | (have hq := HG7.out; go_at_call 8; go_loud (refine (HEB.out _ _ (by simp) (HG7.out.keep ((Mod.refl _ _).alloc _))).mono ?_; (rintro e w8 ⟨av8, nv8, cv8, al8, cl8, rfl, hg8, hk8, hrv8, hrl8⟩); have HG8 := Lib.hid hg8; have HK8 := Lib.hid ((HK7.out.then ((Mod.refl (fun _ => False) w7).alloc _)).trans hk8); have HRB8 := Lib.hid hrv8; have HRM8 := Lib.hid hrl8; have HRA8 := Lib.hid (hk8.rds (HRA7.out.keep ((Mod.refl _ _).alloc _))); have HRL8 := Lib.hid (hk8.rds (HRL7.out.keep ((Mod.refl _ _).alloc _))); have hbx := hk8.box (heap_alloc_new' w7 _); have HBX8 := Lib.hid hbx; have q0 := cell_of_row hbx 0; have q1 := cell_of_row hbx 1; have q2 := cell_of_row hbx 2; have q3 := cell_of_row hbx 3; have zq := lt_of_block hbx; simp at q0 q1 q2 q3; clear hg8 hk8 hrv8 hrl8 hbx hq))
                    | (go_at_call 8; go_loud (refine (HEA.out _ _ rfl HGJ.out).mono ?_; (rintro e w7 ⟨av7, nv7, cv7, al7, cl7, rfl, hg7, hk7, hrv7, hrl7⟩); have HG7 := Lib.hid hg7; have HK7 := Lib.hid (HKJ.out.trans hk7); have HRA7 := Lib.hid hrv7; have HRL7 := Lib.hid hrl7; clear hg7 hk7 hrv7 hrl7)))
                  go_roundw
                  case rel => exact ⟨j + 1, by go_num, by omega, by rw [HTJ.out, HU1.out]; first | rfl | (congr 1; simp) | simp, HG8.out.keep M9.out, HK8.out.then M9.out⟩
                  case measure => simp [intOf]; omega
            · have HFN : Hid (uj = us + (L.map (upN x)).sum) := Lib.hid (by have h := HUJ.out; rwa [List.take_of_length_le (by have := HML.out; omega)] at h)
              go_wp2
              go_roundw
              case rel => exact ⟨k + 1, by go_num, by omega, by rw [HTD.out]; rfl, by rw [HTU.out, ← HFN.out], HGJ.out, HK6.out.trans HKJ.out⟩
              case measure => simp [intOf]; omega
        · have HFIN : Hid (ds = 2 * us) := Lib.hid (by
            rw [HDS.out, HUS.out, List.take_of_length_le (by have := HML.out; omega)]
            exact edges_twice HL.out)
          have hd16 : ds ≤ 16 * k := by rw [HDS.out]; exact degS_le HL.out (k := k)
          have hu16 : us ≤ 40 * k := by rw [HUS.out]; exact upS_le HL.out (k := k)
          have hk40 : k ≤ 40 := by have := HM40.out; omega
          have hfin : (ds : Int) = 2 * (us : Int) := by have := HFIN.out; omega
          go_wp2
          go_ret
          exact ⟨by first | rfl | simp [hfin], HG.out.mod⟩
theorem gdeg_all (v0 : Value) (w : World) (hg : ErrT w) (h0 : InReqs w v0) : Calls Tryd.prog 3 #[v0] w fun e w' => e = .returned (.bool true) ∧ Below w.heap.size w w' := by
  obtain ⟨l, h⟩ := h0
  exact Calls.mono (R := fun e w' => e = .returned (.bool true) ∧ Mod (fun _ => False) w w') (gdeg_main v0 l w h hg) (fun _ _ ⟨h, m⟩ => ⟨h, m.toBelow (Nat.le_refl _) (fun _ _ f => f)⟩)
end Go.Proofs.YtbgjbikpenefoaaDoor
