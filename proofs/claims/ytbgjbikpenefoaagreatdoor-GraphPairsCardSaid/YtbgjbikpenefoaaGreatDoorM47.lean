/- Lemmas for the claim, in one text: YBA, YBB. -/
import Derived.Test.YtbgjbikpenefoaaGreatDoorM38
import Derived.Test.YtbgjbikpenefoaaGreatDoorYV
import Derived.Test.YtbgjbikpenefoaaGreatDoorYW
import Derived.Test.YtbgjbikpenefoaaGreatDoorM43
import Derived.Test.YtbgjbikpenefoaaGreatDoorM45
import Derived.Test.YtbgjbikpenefoaaGreatDoorM15
import Derived.Test.YtbgjbikpenefoaaGreatDoorYAD

/- YBA: what is needed of it (by shake.py). -/

/- YBA, as far as the seat goes. -/
/- A graph of one's own on the way in a law: what it holds, who keeps what; a request over a copy; Do; List; Vertex. -/
namespace Go.Proofs.YtbgjbikpenefoaaGreatDoor
set_option linter.unusedVariables false
set_option linter.unusedSimpArgs false
open Go.RowKit Go.Maps
/-- What was there is there: cells, blocks of cells. -/
structure Kept (w w' : World) : Prop where
  size : w.heap.size ≤ w'.heap.size
  cell : ∀ {a : Addr} {v : Value}, w.cell? a = some v → w'.cell? a = some v
  box : ∀ {b : Nat} {cs : Array Value} {t : TypeId} {f : Nat × Nat}, w.heap[b]? = some (.cells cs t f) → w'.heap[b]? = some (.cells cs t f)
theorem Kept.refl (w : World) : Kept w w := ⟨Nat.le_refl _, fun h => h, fun h => h⟩
theorem Kept.of {w w' : World} {bm : Nat} {ns : List Node} (h : NM w bm ns) (m : Mod (FootM bm ns) w w') : Kept w w' := ⟨m.size, fun hc => h.cell m hc, fun hb => h.box m hb⟩
theorem Kept.mod {w w' : World} (m : Mod (fun _ => False) w w') : Kept w w' := ⟨m.size, fun h => m.cell h, fun h => m.heap h (fun f => f)⟩
theorem Kept.trans {w w1 w2 : World} (a : Kept w w1) (b : Kept w1 w2) : Kept w w2 := ⟨Nat.le_trans a.size b.size, fun h => b.cell (a.cell h), fun h => b.box (a.box h)⟩
theorem Kept.then {w w1 w2 : World} (a : Kept w w1) (m : Mod (fun _ => False) w1 w2) : Kept w w2 := a.trans (.mod m)
theorem Kept.seg {w w' : World} (h : Kept w w') {t : TypeId} {size n : Nat} {v : Value} {us : List Value} (hr : Seg w t size v n us) : Seg w' t size v n us := by
  refine ⟨hr.1, hr.2.1, ?_⟩
  rcases hr.2.2 with hn | ⟨g, off, cap, cur, rfl, hg, r⟩
  · exact .inl hn
  · exact .inr ⟨g, off, cap, cur, rfl, h.box hg, r⟩
/-- A graph on the way: what it holds; all of it is new memory since w. -/
structure GSt (w : World) (g bm : Nat) (L : Gr) (wr : World) : Prop where
  ex : ∃ ns, PG wr g bm ns ∧ ns.map Node.x = L ∧ ∀ b, FootN bm ns b → w.heap.size ≤ b
  good : Good L
  mod : Mod (fun _ => False) w wr
theorem GSt.keep {w wr wx : World} {g bm : Nat} {L : Gr} (h : GSt w g bm L wr) (m : Mod (fun _ => False) wr wx) : GSt w g bm L wx := by
  obtain ⟨ns, h1, h2, h3⟩ := h.ex
  exact ⟨⟨ns, h1.keep m, h2, h3⟩, h.good, h.mod.trans m⟩
/-- What is new memory may turn, where the graph isn't. -/
theorem GSt.more {S : Nat → Prop} {w wr wx : World} {g bm : Nat} {L : Gr} (h : GSt w g bm L wr) (m : Mod S wr wx) (hlo : ∀ b, S b → w.heap.size ≤ b) (hoff : ∀ b, S b → ∃ cs t f, wr.heap[b]? = some (.cells cs t f) ∧ t ≠ 93 ∧ t ≠ 81) : GSt w g bm L wx := by
  obtain ⟨ns, h1, h2, h3⟩ := h.ex
  refine ⟨⟨ns, h1.mod m (fun b hb s => ?_), h2, h3⟩, h.good, h.mod.trans' m (fun i hi s => by have := hlo i s; omega)⟩
  obtain ⟨cs, t, f, hc, e1, e2⟩ := hoff b s
  exact h1.off_box hc e1 e2 hb
theorem GSt.turned {w wr w' : World} {g bm : Nat} {L L' : Gr} {ns ns' : List Node} {off : Nat → Prop} (h : GSt w g bm L wr) (hlo : ∀ b, FootN bm ns b → w.heap.size ≤ b) (ht : Turned g bm ns L' off wr w' ns') (hL : Good L') : GSt w g bm L' w' := by
  have hs := h.mod.size
  refine ⟨⟨ns', ht.pg, ht.is, fun b hb => ?_⟩, hL, h.mod.trans' ht.mod (fun i hi f => ?_)⟩
  · rcases ht.new b hb with e | e
    · exact hlo b e
    · omega
  · have := hlo i f.foot; omega
/-- What Do does, of a graph on the way. -/
structure SDo (w : World) (g bm : Nat) (L : Gr) (r : Rqt) (wr : World) (vv vl : Value) (w' : World) : Prop where
  st : GSt w g bm (doG L r).1 w'
  kept : Kept wr w'
  vals : Seg w' 44 3 vv (doG L r).2.vals.length (vvcells (doG L r).2.vals)
  list : Seg w' 23 1 vl (doG L r).2.list.length ((doG L r).2.list.map (keyV .u32))
  newv : ∀ b, vv.ownBlock = some b → wr.heap.size ≤ b
  newl : ∀ b, vl.ownBlock = some b → wr.heap.size ≤ b
def SDoE (w : World) (g bm : Nat) (L : Gr) (r : Rqt) (wr : World) (e : Ending) (w' : World) : Prop :=
  ∃ vv vl, e = .returned (.agg #[.int .i64 ((doG L r).2.e : Nat), .int .i64 ((doG L r).2.at_ : Nat), vv, vl]) ∧ SDo w g bm L r wr vv vl w'
theorem DoA.sdo {w wr : World} {g bm : Nat} {L : Gr} {ns : List Node} {r : Rqt} (h : GSt w g bm L wr) (hp : PG wr g bm ns) (hx : ns.map Node.x = L) (hlo : ∀ b, FootN bm ns b → w.heap.size ≤ b) {e : Ending} {w' : World} (hd : DoA g bm ns r wr e w') : SDoE w g bm L r wr e w' := by
  subst hx
  obtain ⟨vv, vl, ns', rfl, ht, hv, hl, hnv, hnl⟩ := hd
  exact ⟨vv, vl, rfl, h.turned hlo ht (Good.do h.good _), .of hp.nm ht.mod, hv, hl, hnv, hnl⟩
theorem sdo_any (g bm : Nat) (L : Gr) (r : Rqt) (vo : Value) (w wr : World) (h : GSt w g bm L wr) (ho : ORd wr vo r.ops) (hvb : r.v < 4294967296) (hg : ErrT w) (hn : r.ops.length * 48 ≤ 140737488355328) :
    Calls Tryz.prog 12 #[.pointer (some ⟨g, 0, none⟩), rqV r vo] wr (SDoE w g bm L r wr) := by
  obtain ⟨ns, hp, hx, hlo⟩ := h.ex
  have hL : Good (ns.map Node.x) := by rw [hx]; exact h.good
  exact (ldo_any g bm ns r vo wr hp hL ho hvb (hg.keep h.mod (fun f => f)) hn).mono (fun e w' hd => hd.sdo h hp hx hlo)
theorem slist_any (g bm : Nat) (L : Gr) (w wr : World) (h : GSt w g bm L wr) :
    Calls Tryz.prog 25 #[.pointer (some ⟨g, 0, none⟩)] wr fun e w' => ∃ v, e = .returned v ∧ SegN wr w' v (L.map Vtx.id) := by
  obtain ⟨ns, hp, hx, hlo⟩ := h.ex
  have hL : Good (ns.map Node.x) := by rw [hx]; exact h.good
  have := list_any g bm ns wr hp hL
  rwa [hx] at this
theorem svertex_any (g bm : Nat) (L : Gr) (id : Nat) (w wr : World) (h : GSt w g bm L wr) (hid : id < 4294967296) :
    Calls Tryz.prog 14 #[.pointer (some ⟨g, 0, none⟩), .int .u32 (id : Int)] wr (Twins wr (tellV L id)) := by
  obtain ⟨ns, hp, hx, hlo⟩ := h.ex
  have hL : Good (ns.map Node.x) := by rw [hx]; exact h.good
  have := vertex_any g bm ns id wr hp hL hid
  rwa [hx] at this
theorem snew_any (w wr : World) (m : Mod (fun _ => False) w wr) : Calls Tryz.prog 11 #[] wr fun e w' => e = .returned (.pointer (some ⟨wr.heap.size + 1, 0, none⟩)) ∧ Mod (fun _ => False) wr w' ∧ GSt w (wr.heap.size + 1) wr.heap.size [] w' ∧ wr.heap.size + 1 < w'.heap.size := by
  refine (new_pg wr).mono ?_
  rintro e w' ⟨rfl, m1, hp, hz⟩
  have := m.size
  refine ⟨rfl, m1, ⟨⟨[], hp, rfl, fun b hb => ?_⟩, Good.nil, m.trans m1⟩, hz⟩
  rcases hb with rfl | ⟨n, hn, _⟩
  · exact this
  · simp at hn
/-- Vertex told of one that is there. -/
theorem tellV_mem {L : Gr} (hr : Rising Vtx.id L) {x : Vtx} (hx : x ∈ L) : tellV L x.id = x := by
  unfold tellV
  rw [(findV_iff hr).2 ⟨hx, rfl⟩]
  rfl
theorem fld_there (i : Int) (b : Bool) (vp vh : Value) (w : World) : (Instr.field 40 (.agg #[.int .u32 i, .bool b, vp, vh]) 1).run Tryz.prog w = .ok (.bool b) w := by
  simp [Instr.field, run_underlying Tryz.underlying40, go_sem, asAgg]
end Go.Proofs.YtbgjbikpenefoaaGreatDoor

/- YBB: what is needed of it (by shake.py). -/

/- YBB, as far as the seat goes. -/
/- gussetlaw03.GraphPairs, walked. -/
namespace Go.Proofs.YtbgjbikpenefoaaGreatDoor
set_option linter.unusedVariables false
set_option linter.unusedSimpArgs false
open Go.RowKit Go.Maps
/-- What a law's walk needs of one vertex of a graph in form. -/
theorem Good.half_back {L : Gr} (h : Good L) {x : Vtx} (hx : x ∈ L) {e : Ent} (he : e ∈ x.halves) : e.key ≠ x.id ∧ ∃ u ∈ L, u.id = e.key ∧ entX u.halves x.id = some e.val ∧ tellV L e.key = u := by
  obtain ⟨u, hu, e1, hm⟩ := h.pair x hx e he
  refine ⟨((h.each x hx).halves e he).2.2.1, u, hu, e1, (entX_isSome (h.each u hu).hrise).2 hm, ?_⟩
  rw [← e1]
  exact tellV_mem h.rise hu
set_option maxRecDepth 100000 in
set_option maxHeartbeats 4000000 in
theorem gpairs_main (vs : Value) (rs : List Qs) (w : World) (hs : QRd w vs rs) (hg : ErrT w) :
    Calls Tryz.prog 5 #[vs] w fun e w' => e = .returned (.bool true) ∧ Mod (fun _ => False) w w' := by
  have HAW := Lib.hid (awake_any w hg)
  have HE := Lib.hid hg
  have HRS := Lib.hid hs
  obtain ⟨as_, cs_, rfl, hcs, hcs2, -⟩ := hs.row.shape
  obtain ⟨n, hn⟩ : ∃ n, n = rs.length := ⟨_, rfl⟩
  rw [← hn] at HRS hcs ⊢
  have HN := Lib.hid hn
  clear hs hn hg
  go_enter Tryz.func5, Tryz.ntmps5
  go_wp2_with (first
    | (go_at_call 11; refine (snew_any w w1 HM1.out).mono ?_; (rintro e w2 ⟨rfl, hm2, hst, hz2⟩); have HST0 := Lib.hid hst; clear hm2 hst hz2)
    | (go_at_call 10; refine HAW.out.mono ?_; (rintro e w1 ⟨rfl, hm1⟩); have HM1 := Lib.hid hm1; clear hm1))
  go_loopw [18] (fun i wr => ∃ k : Nat, i = .int .i64 (k : Int) ∧ k ≤ n ∧ ∃ L, GSt w (w1.heap.size + 1) w1.heap.size L wr) (fun i _ => n - (intOf i).toNat)
  case atStart => exact ⟨0, rfl, Nat.zero_le _, _, HST0.out⟩
  case round =>
    obtain ⟨k, rfl, hk, L, hst⟩ := hrel
    have HST := Lib.hid hst
    clear hst HST0
    by_cases hkn : k < n
    · obtain ⟨q, hq⟩ : ∃ q, rs[k]? = some q := ⟨_, List.getElem?_eq_getElem (by rw [← HN.out]; exact hkn)⟩
      obtain ⟨bl, offl, e0, hbl, r0, r1, r2, r3, r4⟩ := HRS.out.ent hq rfl
      replace r0 := HST.out.mod.cell r0
      replace r1 := HST.out.mod.cell r1
      replace r2 := HST.out.mod.cell r2
      replace r3 := HST.out.mod.cell r3
      replace r4 := HST.out.mod.cell r4
      have zbl : bl < wr.heap.size := Nat.lt_of_lt_of_le hbl HST.out.mod.size
      have HOR := Lib.hid (HRS.out.each q (List.mem_of_getElem? hq))
      have HSM := Lib.hid (HRS.out.small q (List.mem_of_getElem? hq))
      clear hq hbl
      subst e0
      obtain ⟨⟨kind, ops, v, kk, dd⟩, qo⟩ := q
      obtain ⟨aq, cq, hqe, -⟩ := HOR.out.row.shape
      simp only at hqe HOR r0 r1 r2 r3 r4
      subst hqe
      obtain ⟨nq, hnq⟩ : ∃ n, n = ops.length := ⟨_, rfl⟩
      rw [← hnq] at r1 HOR
      have HMQ : Hid (Mod (fun _ => False) wr (wr.alloc (.cells #[.int .u8 (kind : Int), .slice aq nq cq, .int .u32 (v : Int), .int .i64 kk, .int .i64 dd] 29))) := Lib.hid ((Mod.refl _ _).alloc _)
      have HDO := Lib.hid (sdo_any (w1.heap.size + 1) w1.heap.size L ⟨kind, ops, v, kk, dd⟩ (.slice aq nq cq) w (wr.alloc (.cells #[.int .u8 (kind : Int), .slice aq nq cq, .int .u32 (v : Int), .int .i64 kk, .int .i64 dd] 29)) (HST.out.keep HMQ.out) (HOR.out.keep (HST.out.mod.trans HMQ.out)) HSM.out.fits.v HE.out HSM.out.size)
      simp only [rqV] at HDO
      have HSQ := Lib.hid (HST.out.keep HMQ.out)
      clear hnq
      by_cases h80 : k < 80
      · have h80' : (k : Int) < 80 := by omega
        go_wp2_with (go_at_call 12; refine HDO.out.mono ?_; (rintro e w5 ⟨vv, vl, rfl, hsd⟩); have HS5 := Lib.hid hsd.st; (obtain ⟨ze, hze⟩ : ∃ ze, ze = (doG L ⟨kind, ops, v, kk, dd⟩).2.e := ⟨_, rfl⟩); (obtain ⟨za, hza⟩ : ∃ za, za = (doG L ⟨kind, ops, v, kk, dd⟩).2.at_ := ⟨_, rfl⟩); rw [← hze, ← hza]; clear hsd hze hza)
        go_roundw
        case rel => exact ⟨k + 1, by go_num, by omega, _, HS5.out⟩
        case measure => simp [intOf]; omega
      · have h80' : ¬ (k : Int) < 80 := by omega
        go_wp2
        go_roundw
        case rel => exact ⟨k + 1, by go_num, by omega, _, HSQ.out⟩
        case measure => simp [intOf]; omega
    · clear HRS
      obtain ⟨m, hm⟩ : ∃ m, m = L.length := ⟨_, rfl⟩
      have HML := Lib.hid hm
      clear hm
      go_wp2_with (go_at_call 25; refine (slist_any _ _ L w wr HST.out).mono ?_; (rintro e w2 ⟨vi, rfl, hsn⟩); have HS2 := Lib.hid hsn; (obtain ⟨ai, ci, hci, hci2, rfl⟩ : ∃ a c, m ≤ c ∧ c ≤ 9223372036854775807 ∧ vi = .slice a m c := (by obtain ⟨a, c, e, h1, h2, _⟩ := hsn.seg.rdS.shape; rw [List.length_map, ← HML.out] at e h1; exact ⟨_, _, h1, h2, e⟩)); clear hsn)
      have HG2 := Lib.hid (HST.out.keep HS2.out.mod)
      have HR2 := Lib.hid HS2.out.seg.rdS
      rw [List.length_map, ← HML.out] at HR2
      clear HST HS2
      go_loopw [32] (fun i wr => ∃ k : Nat, i = .int .i64 (k : Int) ∧ k ≤ m ∧ Mod (fun _ => False) w2 wr) (fun i _ => m - (intOf i).toNat)
      case atStart => exact ⟨0, rfl, Nat.zero_le _, Mod.refl _ _⟩
      case round =>
        obtain ⟨k, rfl, hk, hm⟩ := hrel
        have HM := Lib.hid hm
        clear hm
        by_cases hkm : k < m
        · obtain ⟨x, hx⟩ : ∃ x, L[k]? = some x := ⟨_, List.getElem?_eq_getElem (by rw [← HML.out]; exact hkm)⟩
          obtain ⟨bi, offi, e0, hbi, r0⟩ := num_ent HR2.out (i := k) (x := x.id) (by rw [List.getElem?_map, hx]; rfl) rfl
          subst e0
          replace r0 := HM.out.cell r0
          have zbi : bi < wr.heap.size := Nat.lt_of_lt_of_le hbi HM.out.size
          have HXM := Lib.hid (List.mem_of_getElem? hx)
          have HVG := Lib.hid (HG2.out.good.each x HXM.out)
          have HTE := Lib.hid (tellV_mem HG2.out.good.rise HXM.out)
          have HGR := Lib.hid (HG2.out.keep HM.out)
          have HID : Hid (x.id < 4294967296) := Lib.hid (by have := HVG.out.id; omega)
          clear hx hbi
          have HVX : Hid (∀ w', Mod (fun _ => False) wr w' → Calls Tryz.prog 14 #[.pointer (some ⟨w1.heap.size + 1, 0, none⟩), .int .u32 (x.id : Int)] w' (Twins w' x)) := Lib.hid (fun w' mm => by
            have := svertex_any _ _ L x.id w w' (HGR.out.keep mm) HID.out
            rwa [HTE.out] at this)
          have HBK : Hid (∀ e ∈ x.halves, e.key ≠ x.id ∧ ∃ u ∈ L, u.id = e.key ∧ entX u.halves x.id = some e.val ∧ tellV L e.key = u) := Lib.hid (fun e he => HG2.out.good.half_back HXM.out he)
          have HTH := Lib.hid HVG.out.there
          have HFW := Lib.hid HVG.out.few
          clear HTE
          obtain ⟨id, there, xs, ys⟩ := x
          simp only at HTH HFW HVX HBK r0 HID
          obtain rfl := HTH.out
          clear HTH HXM HVG
          obtain ⟨nh, hnh⟩ : ∃ n, n = ys.length := ⟨_, rfl⟩
          have HNH := Lib.hid hnh
          have hf16 : nh ≤ 16 := by have := HFW.out; omega
          clear hnh
          go_wp2_with (go_at_call 14; refine (HVX.out _ (Mod.refl _ _)).mono ?_; (rintro e w4 ⟨vp4, vh4, rfl, hm4, hn4⟩); have HM4 := Lib.hid hm4; have HN4 := Lib.hid hn4; (obtain ⟨ah, ch, hch, hch2, rfl⟩ : ∃ a c, nh ≤ c ∧ c ≤ 9223372036854775807 ∧ vh4 = .slice a nh c := (by obtain ⟨a, c, e, h1, h2, _⟩ := hn4.halves.rdS.shape; simp only at e h1; rw [← HNH.out] at e h1; exact ⟨_, _, h1, h2, e⟩)); (obtain ⟨ap, cp, np, rfl⟩ : ∃ a c n, vp4 = .slice a n c := (by obtain ⟨a, c, e, _⟩ := hn4.props.rdS.shape; exact ⟨_, _, _, e⟩)); clear hm4 hn4)
          have HHR := Lib.hid HN4.out.halves.rdS
          simp only at HHR
          rw [← HNH.out] at HHR
          clear HN4 HVX
          go_loopw [51] (fun i wx => ∃ j : Nat, i = .int .i64 (j : Int) ∧ j ≤ nh ∧ Mod (fun _ => False) w4 wx) (fun i _ => nh - (intOf i).toNat)
          case atStart => exact ⟨0, rfl, Nat.zero_le _, by repeat (first | exact Mod.refl _ _ | apply Mod.drew | apply Mod.alloc)⟩
          case round =>
            obtain ⟨wx, hwx⟩ : ∃ wx : World, wx = wr := ⟨_, rfl⟩
            subst hwx
            obtain ⟨j, rfl, hj, hmj⟩ := hrel
            have HMJ := Lib.hid hmj
            clear hmj
            by_cases hjn : j < nh
            · obtain ⟨y, hy⟩ : ∃ y, ys[j]? = some y := ⟨_, List.getElem?_eq_getElem (by rw [← HNH.out]; exact hjn)⟩
              obtain ⟨b, off, e1, hb, p0, p1, p2, p3⟩ := HHR.out.ent2 hy rfl
              subst e1
              replace p0 := HMJ.out.cell p0
              replace p1 := HMJ.out.cell p1
              replace p2 := HMJ.out.cell p2
              replace p3 := HMJ.out.cell p3
              have zb : b < wx.heap.size := Nat.lt_of_lt_of_le hb HMJ.out.size
              obtain ⟨hne, u, hu, hui, huh, hut⟩ := HBK.out y (List.mem_of_getElem? hy)
              have HKB : Hid (y.key < 4294967296) := Lib.hid (by have := (HG2.out.good.each u hu).id; omega)
              have HTU := Lib.hid (HG2.out.good.each u hu).there
              have HUH := Lib.hid huh
              have HUI := Lib.hid hui
              clear hy hb hu hui huh
              obtain ⟨far, ⟨vk, vn, vs⟩⟩ := y
              simp only at p0 p1 p2 p3 hne hut HKB HUH HUI
              have HMU : Hid (Mod (fun _ => False) wx (wx.alloc (.cells #[.int .u32 (far : Int), .int .u8 (vk : Int), .int .i64 vn, .string vs] 46))) := Lib.hid ((Mod.refl _ _).alloc _)
              have HBX : Hid ((wx.alloc (.cells #[.int .u32 (far : Int), .int .u8 (vk : Int), .int .i64 vn, .string vs] 46)).heap[wx.heap.size]? = some (.cells #[.int .u32 (far : Int), .int .u8 (vk : Int), .int .i64 vn, .string vs] 46 (0, 0))) := Lib.hid (heap_alloc_new' _ _)
              have HVU : Hid (∀ w', Mod (fun _ => False) wx w' → Calls Tryz.prog 14 #[.pointer (some ⟨w1.heap.size + 1, 0, none⟩), .int .u32 (far : Int)] w' (Twins w' u)) := Lib.hid (fun w' mm => by
                have := svertex_any _ _ L far w w' (HGR.out.keep ((HM4.out.trans HMJ.out).trans mm)) HKB.out
                rwa [hut] at this)
              have hne' : ((far : Int) == (id : Int)) = false := by simp; omega
              clear hut
              obtain ⟨uid, uth, ups, uhs⟩ := u
              simp only at HTU HUH HUI
              obtain rfl := HTU.out
              have HHF : Hid (∀ vp vh w', VRd w' vp vh ⟨uid, true, ups, uhs⟩ → Calls Tryz.prog 27 #[.agg #[.int .u32 (uid : Int), .bool true, vp, vh], .int .u32 (id : Int)] w' fun e w'' => e = .returned (.tuple #[.agg #[.int .u8 (vk : Int), .int .i64 vn, .string vs], .bool true]) ∧ Mod (fun _ => False) w' w'') := Lib.hid (fun vp vh w' hv => by
                have h := dhalf_any ⟨uid, true, ups, uhs⟩ vp vh id w' hv
                simp only [HUH.out] at h
                exact h)
              clear HTU HUH
              go_wp2_with (first
                | (have hm7 := M7.out; go_at_call 14; go_loud (refine (HVU.out _ (M7.out.trans (by repeat (first | exact Mod.refl _ _ | apply Mod.drew | apply Mod.alloc)))).mono ?_; (rintro e w8 ⟨vp8, vh8, rfl, hm8, hn8⟩); (obtain ⟨a8, c8, n8, rfl⟩ : ∃ a c n, vp8 = .slice a n c := (by obtain ⟨a, c, e, _⟩ := hn8.props.rdS.shape; exact ⟨_, _, _, e⟩)); (obtain ⟨a9, c9, n9, rfl⟩ : ∃ a c n, vh8 = .slice a n c := (by obtain ⟨a, c, e, _⟩ := hn8.halves.rdS.shape; exact ⟨_, _, _, e⟩)); have hfl := fld_there (uid : Int) true (.slice a8 n8 c8) (.slice a9 n9 c9) w8; have M8 : Hid (Mod (fun _ => False) w7 w8) := Lib.hid (Mod.trans (by repeat (first | exact Mod.refl _ _ | apply Mod.drew | apply Mod.alloc)) hm8); have hb8 := hm8.heap (heap_alloc_new' w7 _) (fun f => f); have s0 := cell_of_row hb8 0; have s1 := cell_of_row hb8 1; have s2 := cell_of_row hb8 2; have zs := lt_of_block hb8; simp at s0 s1 s2; replace q0 := M8.out.cell q0; replace q1 := M8.out.cell q1; replace q2 := M8.out.cell q2; replace q3 := M8.out.cell q3; have zq : wx.heap.size < w8.heap.size := Nat.lt_of_lt_of_le zq M8.out.size; clear hm8 hn8 hb8 hm7))
                | (go_at_call 27; go_loud (refine (HHF.out _ _ _ HN6.out.rd).mono ?_; (rintro e w7 ⟨rfl, hm7⟩); have M7 := Lib.hid (M6.out.trans hm7); have hb7 := hm7.heap (HB6.out) (fun f => f); have q0 := cell_of_row hb7 0; have q1 := cell_of_row hb7 1; have q2 := cell_of_row hb7 2; have q3 := cell_of_row hb7 3; have zq := lt_of_block hb7; simp at q0 q1 q2 q3; clear hm7 hb7))
                | (go_at_call 14; go_loud (refine (HVU.out _ HMU.out).mono ?_; (rintro e w6 ⟨vp6, vh6, rfl, hm6, hn6⟩); have M6 := Lib.hid (HMU.out.trans hm6); have HB6 := Lib.hid (hm6.heap HBX.out (fun f => f)); have HN6 := Lib.hid hn6; clear hm6 hn6)))
              go_roundw
              case rel => exact ⟨j + 1, by go_num, by omega, (HMJ.out.trans M7.out).trans M8.out⟩
              case measure => simp [intOf]; omega
            · have HMX := Lib.hid ((HM.out.trans HM4.out).trans HMJ.out)
              go_wp2
              go_roundw
              case rel => exact ⟨k + 1, by go_num, by omega, HMX.out⟩
              case measure => simp [intOf]; omega
        · go_wp2
          go_ret
          exact ⟨rfl, HG2.out.mod.trans HM.out⟩
theorem gpairs_all (v0 : Value) (w : World) (hg : ErrT w) (h0 : InReqs w v0) : Calls Tryz.prog 5 #[v0] w fun e w' => e = .returned (.bool true) ∧ Below w.heap.size w w' := by
  obtain ⟨l, h⟩ := h0
  exact Calls.mono (R := fun e w' => e = .returned (.bool true) ∧ Mod (fun _ => False) w w') (gpairs_main v0 l w h hg) (fun _ _ ⟨h, m⟩ => ⟨h, m.toBelow (Nat.le_refl _) (fun _ _ f => f)⟩)
end Go.Proofs.YtbgjbikpenefoaaGreatDoor
