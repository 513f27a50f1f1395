import Derived.Test.YtpigipgoopeeoaaGreatDoorMOn28
import Derived.Test.YtpigipgoopeeoaaGreatDoorMOn30
set_option linter.unusedVariables false
set_option linter.unusedSimpArgs false
namespace Go.Proofs.YtpigipgoopeeoaaGreatDoor
open Go.RowKit Go.ChangeShapes Go.WideShapes Go.ChangeAt
structure Qs where
 r : Rqt
 vo : Value
def Qs.cells (q : Qs) : List Value := [.int .u8 (q.r.kind : Int), q.vo, .int .u32 (q.r.v : Int), .int .i64 q.r.k, .int .i64 q.r.dest]
structure Qs.Small (q : Qs) : Prop where
 fits : q.r.Fits
 size : q.r.ops.length * 48 ≤ 140737488355328
structure QRd (w : World) (v : Value) (l : List Qs) : Prop where
 row : RdS w 5 v l.length (l.flatMap Qs.cells)
 each : ∀ q ∈ l, ORd w q.vo q.r.ops
 small : ∀ q ∈ l, q.Small
theorem QRd.keep {w w' : World} {v : Value} {l : List Qs} (h : QRd w v l) (m : Mod (fun _ => False) w w') : QRd w' v l := ⟨h.row.keep m, fun q hq => (h.each q hq).keep m, h.small⟩
theorem QRd.ent {w : World} {v : Value} {l : List Qs} (h : QRd w v l) {i : Nat} {x : Qs} (hi : l[i]? = some x) {a : Option Addr} {n c : Nat} (e : v = .slice a n c) :
   ∃ b off, a = some ⟨b, off, none⟩ ∧ b < w.heap.size ∧ w.cell? ⟨b, off + i * 5, none⟩ = some (.int .u8 (x.r.kind : Int)) ∧ w.cell? ⟨b, off + i * 5 + 1, none⟩ = some x.vo ∧ w.cell? ⟨b, off + i * 5 + 2, none⟩ = some (.int .u32 (x.r.v : Int)) ∧ w.cell? ⟨b, off + i * 5 + 3, none⟩ = some (.int .i64 x.r.k) ∧ w.cell? ⟨b, off + i * 5 + 4, none⟩ = some (.int .i64 x.r.dest) := by
 have g := fun j hj => flat_get Qs.cells (fun _ => rfl) l i j x hi (show j < 5 from hj)
 obtain ⟨a', c', e', -⟩ := h.row.shape
 rw [e] at e'
 injection e' with e1 e2 e3
 rw [e2] at e
 have k : ∀ j u, j < 5 → x.cells[j]? = some u → ∃ b off, a = some ⟨b, off, none⟩ ∧ b < w.heap.size ∧ w.cell? ⟨b, off + (i * 5 + j), none⟩ = some u := fun j u hj hu => h.row.cell a c e (i * 5 + j) u (by rw [g j hj]; exact hu)
 obtain ⟨b, off, ea, hb, h0⟩ := k 0 _ (by omega) rfl
 have r : ∀ j u, j < 5 → x.cells[j]? = some u → w.cell? ⟨b, off + (i * 5 + j), none⟩ = some u := fun j u hj hu => by
   obtain ⟨b1, off1, ea1, _, h1⟩ := k j u hj hu
   rw [ea] at ea1
   injection ea1 with e1; injection e1 with e1 e2
   subst e1 e2
   exact h1
 refine ⟨b, off, ea, hb, h0, ?_, ?_, ?_, ?_⟩
 · rw [Nat.add_assoc]; exact r 1 _ (by omega) rfl
 · rw [Nat.add_assoc]; exact r 2 _ (by omega) rfl
 · rw [Nat.add_assoc]; exact r 3 _ (by omega) rfl
 · rw [Nat.add_assoc]; exact r 4 _ (by omega) rfl
instance : Inhabited Opr := ⟨⟨0, 0, 0, 0, noVal⟩⟩
instance : Inhabited Qs := ⟨⟨⟨0, [], 0, 0, 0⟩, .slice none 0 0⟩⟩
section
variable {H : Type} {enc : TypeId × Value → H} {W : World} {base : Nat} {v : Value} {d : DataW H} {p : List MemPlace}
set_option maxRecDepth 100000 in
theorem in_op (n : Nat) (cs : List Value) (y : DataW H × List MemPlace) (hl : cs.length = 7) (h : DataW.trod enc Tryz.prog W 0 (fun _ => true) true n 79 cs = some y) (hw : okW 79 y.1) : ∃ x : Opr, cs = x.cells ∧ x.Fits := by
 obtain ⟨xs, n', _, _, _, hlen, hf⟩ := DataW.trod_struct Tryz.underlying79 h
 match cs, hl with
 | [c0, c1, c2, c3, c4, c5, c6], _ =>
   have c8 : Tryz.prog.cellsOf 5 = 1 := by kernel_rfl
   have cu : Tryz.prog.cellsOf 32 = 1 := by kernel_rfl
   have cv : Tryz.prog.cellsOf 77 = 3 := by kernel_rfl
   match xs, hlen with
   | [y0, y1, y2, y3, y4], _ =>
     have h0 : DataW.trod enc Tryz.prog W 0 (fun _ => true) true n' 5 ((List.drop 0 [c0, c1, c2, c3, c4, c5, c6]).take (Tryz.prog.cellsOf 5)) = some y0 := hf 0 _ rfl
     have h1 : DataW.trod enc Tryz.prog W 0 (fun _ => true) true n' 32 ((List.drop 1 [c0, c1, c2, c3, c4, c5, c6]).take (Tryz.prog.cellsOf 32)) = some y1 := hf 1 _ rfl
     have h2 : DataW.trod enc Tryz.prog W 0 (fun _ => true) true n' 32 ((List.drop 2 [c0, c1, c2, c3, c4, c5, c6]).take (Tryz.prog.cellsOf 32)) = some y2 := hf 2 _ rfl
     have h3 : DataW.trod enc Tryz.prog W 0 (fun _ => true) true n' 5 ((List.drop 3 [c0, c1, c2, c3, c4, c5, c6]).take (Tryz.prog.cellsOf 5)) = some y3 := hf 3 _ rfl
     have h4 : DataW.trod enc Tryz.prog W 0 (fun _ => true) true n' 77 ((List.drop 4 [c0, c1, c2, c3, c4, c5, c6]).take (Tryz.prog.cellsOf 77)) = some y4 := hf 4 _ rfl
     simp only [c8, cu, cv, List.drop_zero, List.take_succ_cons, List.take_zero, List.drop_succ_cons] at h0 h1 h2 h3 h4
     obtain ⟨a0, e0, _, w0⟩ := DataW.trod_int Tryz.underlying5 h0
     obtain ⟨a1, e1, _, w1⟩ := DataW.trod_int Tryz.underlying32 h1
     obtain ⟨a2, e2, _, w2⟩ := DataW.trod_int Tryz.underlying32 h2
     obtain ⟨a3, e3, _, w3⟩ := DataW.trod_int Tryz.underlying5 h3
     obtain ⟨v, e4, hv⟩ := in_val n' _ _ rfl h4
     simp only [List.cons.injEq, and_true] at e0 e1 e2 e3 e4
     have b0 := bounds_u8 w0
     have b1 := bounds_u32 w1
     have b2 := bounds_u32 w2
     have b3 := bounds_u8 w3
     obtain ⟨k0, rfl⟩ := Int.eq_ofNat_of_zero_le b0.1
     obtain ⟨k1, rfl⟩ := Int.eq_ofNat_of_zero_le b1.1
     obtain ⟨k2, rfl⟩ := Int.eq_ofNat_of_zero_le b2.1
     obtain ⟨k3, rfl⟩ := Int.eq_ofNat_of_zero_le b3.1
     obtain ⟨rfl, rfl, rfl⟩ := e4
     subst e0 e1 e2 e3
     exact ⟨⟨k0, k1, k2, k3, v⟩, rfl, by simp only; omega, by simp only; omega, by simp only; omega, by simp only; omega, hv⟩
set_option maxRecDepth 100000 in
theorem in_req (n : Nat) (cs : List Value) (y : DataW H × List MemPlace) (hl : cs.length = 5) (h : DataW.trod enc Tryz.prog W 0 (fun _ => true) true n 34 cs = some y) (hw : okW 34 y.1) : ∃ q : Qs, cs = q.cells ∧ ORd W q.vo q.r.ops ∧ q.Small := by
 obtain ⟨xs, n', _, hx, _, hlen, hf⟩ := DataW.trod_struct Tryz.underlying34 h
 match cs, hl with
 | [c0, c1, c2, c3, c4], _ =>
   have c8 : Tryz.prog.cellsOf 5 = 1 := by kernel_rfl
   have co : Tryz.prog.cellsOf 31 = 1 := by kernel_rfl
   have cu : Tryz.prog.cellsOf 32 = 1 := by kernel_rfl
   have ci : Tryz.prog.cellsOf 3 = 1 := by kernel_rfl
   match xs, hlen with
   | [y0, y1, y2, y3, y4], _ =>
     have h0 : DataW.trod enc Tryz.prog W 0 (fun _ => true) true n' 5 ((List.drop 0 [c0, c1, c2, c3, c4]).take (Tryz.prog.cellsOf 5)) = some y0 := hf 0 _ rfl
     have h1 : DataW.trod enc Tryz.prog W 0 (fun _ => true) true n' 31 ((List.drop 1 [c0, c1, c2, c3, c4]).take (Tryz.prog.cellsOf 31)) = some y1 := hf 1 _ rfl
     have h2 : DataW.trod enc Tryz.prog W 0 (fun _ => true) true n' 32 ((List.drop 2 [c0, c1, c2, c3, c4]).take (Tryz.prog.cellsOf 32)) = some y2 := hf 2 _ rfl
     have h3 : DataW.trod enc Tryz.prog W 0 (fun _ => true) true n' 3 ((List.drop 3 [c0, c1, c2, c3, c4]).take (Tryz.prog.cellsOf 3)) = some y3 := hf 3 _ rfl
     have h4 : DataW.trod enc Tryz.prog W 0 (fun _ => true) true n' 3 ((List.drop 4 [c0, c1, c2, c3, c4]).take (Tryz.prog.cellsOf 3)) = some y4 := hf 4 _ rfl
     simp only [c8, co, cu, ci, List.drop_zero, List.take_succ_cons, List.take_zero, List.drop_succ_cons] at h0 h1 h2 h3 h4
     have hy : y.1 = .agg ([y0, y1, y2, y3, y4].map (·.1)) := by rw [hx]
     rw [hy] at hw
     have w1 : okW 31 y1.1 := okW_part Tryz.underlying34 hw (j := 1) rfl rfl
     obtain ⟨a0, e0, _, u0⟩ := DataW.trod_int Tryz.underlying5 h0
     obtain ⟨a2, e2, _, u2⟩ := DataW.trod_int Tryz.underlying32 h2
     obtain ⟨a3, e3, _, u3⟩ := DataW.trod_int Tryz.underlying3 h3
     obtain ⟨a4, e4, _, u4⟩ := DataW.trod_int Tryz.underlying3 h4
     obtain ⟨os, ro, go, zo⟩ := in_slice Tryz.underlying31 (size := 7) (by kernel_rfl) (by omega) Opr.cells opr_cells Opr.Fits in_op h1 w1
     simp only [List.cons.injEq, and_true] at e0 e2 e3 e4
     have b0 := bounds_u8 u0
     have b2 := bounds_u32 u2
     have b3 := bounds_i64 u3
     have b4 := bounds_i64 u4
     have bo : Tryz.prog.bytesOf 79 = 48 := by kernel_rfl
     rw [bo] at zo
     have zo' : os.length * 48 ≤ 140737488355328 := Nat.le_trans zo (by decide)
     obtain ⟨k0, rfl⟩ := Int.eq_ofNat_of_zero_le b0.1
     obtain ⟨k2, rfl⟩ := Int.eq_ofNat_of_zero_le b2.1
     subst e0 e2 e3 e4
     exact ⟨⟨⟨k0, os, k2, a3, a4⟩, c1⟩, rfl, ⟨ro, go⟩, ⟨⟨by simp only; omega, by simp only; omega, by simp only; omega, by simp only; omega⟩, zo'⟩⟩
def InReqs (W : World) (v : Value) : Prop := ∃ l, QRd W v l
set_option maxRecDepth 100000 in
theorem in_reqs (hv : Value.okWide Tryz.prog W .any base 22 v) (h : DataW.Trod enc Tryz.prog W 0 (fun _ => true) true 22 v d p) (hs : okW 22 d) : InReqs W v := by
 obtain ⟨a0, len0, cap0, rfl⟩ := okWide_slice Tryz.underlying22 hv
 obtain ⟨fuel, hf⟩ := h
 obtain ⟨l, rl, gl, _⟩ := in_slice Tryz.underlying22 (size := 5) (by kernel_rfl) (by omega) Qs.cells (fun _ => rfl) (fun q => ORd W q.vo q.r.ops ∧ q.Small) in_req (u := .slice a0 len0 cap0) (y := (d, p)) (by simpa [Value.cells] using hf) hs
 exact ⟨l, rl, fun q hq => (gl q hq).1, fun q hq => (gl q hq).2⟩
end
theorem VOwn.off_seg {w : World} {s : Vs} (h : VOwn w s) {v : Value} {size n : Nat} {xs : List Value} (hs : Seg w 104 size v n xs) : VOff (fun k => v.ownBlock = some k) s := by
 have key : ∀ b, v.ownBlock = some b → ∃ cur, w.heap[b]? = some (.cells cur 104 (0, 0)) := by
   intro b hb
   rcases hs.2.2 with ⟨rfl, _⟩ | ⟨g, off, cap, cur, rfl, hg, _⟩
   · simp [Value.ownBlock] at hb
   · simp [Value.ownBlock] at hb; subst hb; exact ⟨_, hg⟩
 have two : ∀ {t : TypeId} {u : Value} {m : Nat} {ys : List Value}, Seg w t 4 u m ys → t ≠ 104 → ∀ b, u.ownBlock = some b → ¬ v.ownBlock = some b := by
   intro t u m ys hu ht b hb e
   obtain ⟨cur, hc⟩ := key b e
   rcases hu.2.2 with ⟨rfl, _⟩ | ⟨g, off, cap, cur2, rfl, hg, _⟩
   · simp [Value.ownBlock] at hb
   · simp [Value.ownBlock] at hb
     subst hb
     rw [hc] at hg
     injection hg with hg
     injection hg with _ h2
     exact ht h2.symm
 exact ⟨two h.props (by decide), two h.halves (by decide)⟩
theorem VOwn.off_box {w : World} {s : Vs} (h : VOwn w s) {g : Nat} {cs : Array Value} {t : TypeId} (hg : w.heap[g]? = some (.cells cs t (0, 0))) (h1 : 145 ≠ t) (h2 : 112 ≠ t) : VOff (fun k => k = g) s := ⟨h.props.off_box hg h1, h.halves.off_box hg h2⟩
theorem LOwn.off_box {w : World} {v : Value} {l : List Vs} (h : LOwn w v l) {g : Nat} {cs : Array Value} {t : TypeId} (hg : w.heap[g]? = some (.cells cs t (0, 0))) (h0 : 104 ≠ t) (h1 : 145 ≠ t) (h2 : 112 ≠ t) : LOff (fun k => k = g) v l := ⟨h.row.off_box hg h0, fun s hs => (h.each s hs).off_box hg h1 h2⟩
theorem own_snoc {w wy : World} {v v' : Value} {l : List Vs} {s : Vs} (h : LOwn w v l) (hv : VOwn w s) (hs : Seg wy 104 4 v' (l.length + 1) (vcells l ++ s.cells)) (hg : w.grownBy wy v.ownBlock) : LOwn wy v' (l ++ [s]) := by
 have hm := mod_grown hg
 have he : ∀ t ∈ l ++ [s], VOwn wy t := fun t ht => by
   rcases List.mem_append.1 ht with ht | ht
   · exact (h.each t ht).mod hm (h.apart t ht)
   · rw [List.mem_singleton] at ht; subst ht; exact hv.mod hm (hv.off_seg h.row)
 have hs' : Seg wy 104 4 v' (l ++ [s]).length (vcells (l ++ [s])) := by rw [vcells_snoc, List.length_append]; exact hs
 exact ⟨hs', he, fun t ht => (he t ht).off_seg hs'⟩
open Go.RowKit Go.Maps
structure Kept (w w' : World) : Prop where
 size : w.heap.size ≤ w'.heap.size
 cell : ∀ {a : Addr} {v : Value}, w.cell? a = some v → w'.cell? a = some v
 box : ∀ {b : Nat} {cs : Array Value} {t : TypeId} {f : Nat × Nat}, w.heap[b]? = some (.cells cs t f) → w'.heap[b]? = some (.cells cs t f)
theorem Kept.refl (w : World) : Kept w w := ⟨Nat.le_refl _, fun h => h, fun h => h⟩
theorem Kept.of {w w' : World} {bm : Nat} {ns : List Node} (h : NM w bm ns) (m : Mod (FootM bm ns) w w') : Kept w w' := ⟨m.size, fun hc => h.cell m hc, fun hb => h.box m hb⟩
theorem Kept.mod {w w' : World} (m : Mod (fun _ => False) w w') : Kept w w' := ⟨m.size, fun h => m.cell h, fun h => m.heap h (fun f => f)⟩
theorem Kept.trans {w w1 w2 : World} (a : Kept w w1) (b : Kept w1 w2) : Kept w w2 := ⟨Nat.le_trans a.size b.size, fun h => b.cell (a.cell h), fun h => b.box (a.box h)⟩
theorem Kept.then {w w1 w2 : World} (a : Kept w w1) (m : Mod (fun _ => False) w1 w2) : Kept w w2 := a.trans (.mod m)
theorem Kept.rds {w w' : World} (h : Kept w w') {size n : Nat} {v : Value} {us : List Value} (hr : RdS w size v n us) : RdS w' size v n us :=
 ⟨hr.len, hr.shape, fun a c e j u hu => by
   obtain ⟨b, off, e1, hb, hc⟩ := hr.cell a c e j u hu
   exact ⟨b, off, e1, Nat.lt_of_lt_of_le hb h.size, h.cell hc⟩⟩
theorem Kept.seg {w w' : World} (h : Kept w w') {t : TypeId} {size n : Nat} {v : Value} {us : List Value} (hr : Seg w t size v n us) : Seg w' t size v n us := by
 refine ⟨hr.1, hr.2.1, ?_⟩
 rcases hr.2.2 with hn | ⟨g, off, cap, cur, rfl, hg, r⟩
 · exact .inl hn
 · exact .inr ⟨g, off, cap, cur, rfl, h.box hg, r⟩
theorem Kept.ord {w w' : World} (h : Kept w w') {v : Value} {l : List Opr} (hr : ORd w v l) : ORd w' v l := ⟨h.rds hr.row, hr.fits⟩
theorem Kept.vrd {w w' : World} (h : Kept w w') {vp vh : Value} {x : Vtx} (hr : VRd w vp vh x) : VRd w' vp vh x := ⟨hr.fits, h.rds hr.props, h.rds hr.halves⟩
structure GSt (w : World) (g bm : Nat) (L : Gr) (wr : World) : Prop where
 ex : ∃ ns, PG wr g bm ns ∧ ns.map Node.x = L ∧ ∀ b, FootN bm ns b → w.heap.size ≤ b
 good : Good L
 mod : Mod (fun _ => False) w wr
theorem GSt.keep {w wr wx : World} {g bm : Nat} {L : Gr} (h : GSt w g bm L wr) (m : Mod (fun _ => False) wr wx) : GSt w g bm L wx := by
 obtain ⟨ns, h1, h2, h3⟩ := h.ex
 exact ⟨⟨ns, h1.keep m, h2, h3⟩, h.good, h.mod.trans m⟩
theorem GSt.more {S : Nat → Prop} {w wr wx : World} {g bm : Nat} {L : Gr} (h : GSt w g bm L wr) (m : Mod S wr wx) (hlo : ∀ b, S b → w.heap.size ≤ b) (hoff : ∀ b, S b → ∃ cs t f, wr.heap[b]? = some (.cells cs t f) ∧ t ≠ 143 ∧ t ≠ 127) : GSt w g bm L wx := by
 obtain ⟨ns, h1, h2, h3⟩ := h.ex
 refine ⟨⟨ns, h1.mod m (fun b hb s => ?_), h2, h3⟩, h.good, h.mod.trans' m (fun i hi s => by have := hlo i s; omega)⟩
 obtain ⟨cs, t, f, hc, e1, e2⟩ := hoff b s
 exact h1.off_box hc e1 e2 hb
theorem GSt.turned {w wr w' : World} {g bm : Nat} {L L' : Gr} {ns ns' : List Node} {off : Nat → Prop} (h : GSt w g bm L wr) (hlo : ∀ b, FootN bm ns b → w.heap.size ≤ b) (ht : Turned g bm ns L' off wr w' ns') (hL : Good L') : GSt w g bm L' w' := by
 have hs := h.mod.size
 refine ⟨⟨ns', ht.pg, ht.is, fun b hb => ?_⟩, hL, h.mod.trans' ht.mod (fun i hi f => ?_)⟩
 · rcases ht.new b hb with e | e
   · exact hlo b e
   · omega
 · have := hlo i f.foot; omega
structure SDo (w : World) (g bm : Nat) (L : Gr) (r : Rqt) (wr : World) (vv vl : Value) (w' : World) : Prop where
 st : GSt w g bm (doG L r).1 w'
 kept : Kept wr w'
 vals : Seg w' 77 3 vv (doG L r).2.vals.length (vvcells (doG L r).2.vals)
 list : Seg w' 32 1 vl (doG L r).2.list.length ((doG L r).2.list.map (keyV .u32))
 newv : ∀ b, vv.ownBlock = some b → wr.heap.size ≤ b
 newl : ∀ b, vl.ownBlock = some b → wr.heap.size ≤ b
 pat : PatB valP w' vv
def SDoE (w : World) (g bm : Nat) (L : Gr) (r : Rqt) (wr : World) (e : Ending) (w' : World) : Prop :=
 ∃ vv vl, e = .returned (.agg #[.int .i64 ((doG L r).2.e : Nat), .int .i64 ((doG L r).2.at_ : Nat), vv, vl]) ∧ SDo w g bm L r wr vv vl w'
theorem DoA.sdo {w wr : World} {g bm : Nat} {L : Gr} {ns : List Node} {r : Rqt} (h : GSt w g bm L wr) (hp : PG wr g bm ns) (hx : ns.map Node.x = L) (hlo : ∀ b, FootN bm ns b → w.heap.size ≤ b) {e : Ending} {w' : World} (hd : DoA g bm ns r wr e w') : SDoE w g bm L r wr e w' := by
 subst hx
 obtain ⟨vv, vl, ns', rfl, ht, hv, hl, hnv, hnl, hpt⟩ := hd
 exact ⟨vv, vl, rfl, h.turned hlo ht (Good.do h.good _), .of hp.nm ht.mod, hv, hl, hnv, hnl, hpt⟩
theorem sgdo_any (g bm : Nat) (L : Gr) (r : Rqt) (vo : Value) (w wr : World) (h : GSt w g bm L wr) (ho : ORd wr vo r.ops) (hvb : r.v < 4294967296) (hg : ErrT w) :
   Calls Tryz.prog 41 #[.pointer (some ⟨g, 0, none⟩), rqV r vo] wr (SDoE w g bm L r wr) := by
 obtain ⟨ns, hp, hx, hlo⟩ := h.ex
 have hL : Good (ns.map Node.x) := by rw [hx]; exact h.good
 exact (gdo_any g bm ns r vo wr hp hL ho hvb (hg.keep h.mod (fun f => f))).mono (fun e w' hd => hd.sdo h hp hx hlo)
theorem slist_any (g bm : Nat) (L : Gr) (w wr : World) (h : GSt w g bm L wr) :
   Calls Tryz.prog 42 #[.pointer (some ⟨g, 0, none⟩)] wr fun e w' => ∃ v, e = .returned v ∧ SegN wr w' v (L.map Vtx.id) := by
 obtain ⟨ns, hp, hx, hlo⟩ := h.ex
 have hL : Good (ns.map Node.x) := by rw [hx]; exact h.good
 have := list_any g bm ns wr hp hL
 rwa [hx] at this
theorem svertex_any (g bm : Nat) (L : Gr) (id : Nat) (w wr : World) (h : GSt w g bm L wr) (hid : id < 4294967296) :
   Calls Tryz.prog 43 #[.pointer (some ⟨g, 0, none⟩), .int .u32 (id : Int)] wr (Twins wr (tellV L id)) := by
 obtain ⟨ns, hp, hx, hlo⟩ := h.ex
 have hL : Good (ns.map Node.x) := by rw [hx]; exact h.good
 have := gvertex_any g bm ns id wr hp hL hid
 rwa [hx] at this
theorem snew_any (w wr : World) (m : Mod (fun _ => False) w wr) : Calls Tryz.prog 40 #[] wr fun e w' => e = .returned (.pointer (some ⟨wr.heap.size + 1, 0, none⟩)) ∧ Mod (fun _ => False) wr w' ∧ GSt w (wr.heap.size + 1) wr.heap.size [] w' ∧ wr.heap.size + 1 < w'.heap.size := by
 refine (new_pg wr).mono ?_
 rintro e w' ⟨rfl, m1, hp, hz⟩
 have := m.size
 refine ⟨rfl, m1, ⟨⟨[], hp, rfl, fun b hb => ?_⟩, Good.nil, m.trans m1⟩, hz⟩
 rcases hb with rfl | ⟨n, hn, _⟩
 · exact this
 · simp at hn
theorem tellV_mem {L : Gr} (hr : Rising Vtx.id L) {x : Vtx} (hx : x ∈ L) : tellV L x.id = x := by
 unfold tellV
 rw [(findV_iff hr).2 ⟨hx, rfl⟩]
 rfl
def runG (L : Gr) (rs : List Rqt) : Gr := rs.foldl (fun L r => (doG L r).1) L
theorem runG_good {L : Gr} (h : Good L) : ∀ rs : List Rqt, Good (runG L rs)
 | [] => h
 | r :: t => runG_good (Good.do h r) t
open Go.RowKit Go.Maps
def Cx.given (x : Cx) : Bool := decide (x.e = 13 ∨ x.e = 14)
def Cx.ansIs (x : Cx) (a : Ans) : Bool := decide ((a.e : Int) = x.e ∧ (a.at_ : Int) = x.p ∧ a.vals = x.vals ∧ a.list = x.list)
def ansBad (l : List Cx) (i : Nat) : Bool := match l[i]? with
 | none => false
 | some x => !x.ansIs (doG (runG [] ((l.take i).map Cx.r)) x.r).2
def numBad2 (l : List Cx) (i : Nat) : Bool := match l[i]? with
 | none => false
 | some x => (l.take i).any fun y => decide (y.cl = x.cl) && decide (x.sq ≤ y.sq)
def sameC (a b : Cx) : Bool := decide (a.e = b.e ∧ a.p = b.p ∧ a.vals = b.vals ∧ a.list = b.list)
def meets (c : List Cx) (x : Cx) : Bool := match placeOf c x.nm with
 | none => false
 | some i => match c[i]? with
   | none => false
   | some y => decide (x.fr ≤ (i : Int)) && (decide ((i : Int) < x.to_) && (decide (y.r = x.r) && sameC y x))
def repA (c : List Cx) (x : Cx) : Bool := !x.given && !meets c x
def repB (c : List Cx) (x : Cx) : Bool := x.given && (placeOf c x.nm).isSome
def firstR (p : Cx → Bool) (l : List Cx) : Option Nat := l.findIdx? p
def pick4 (a b c d : Option Nat) : Option (Nat × Nat) := match a with
 | some i => some (1, i)
 | none => match b with
   | some i => some (2, i)
   | none => match c with
     | some i => some (3, i)
     | none => match d with
       | some i => some (4, i)
       | none => none
def verdict (c r : List Cx) : Option (Nat × Nat) := pick4 (firstI c.length (ansBad c)) (firstI c.length (numBad c)) (firstR (repA c) r) (firstR (repB c) r)
theorem firstI_eq_none {n : Nat} {p : Nat → Bool} : firstI n p = none ↔ ∀ j, j < n → p j = false := by
 constructor
 · intro h j hj
   unfold firstI at h
   rw [List.find?_eq_none] at h
   simpa using h j (List.mem_range.2 hj)
 · exact firstI_none
theorem last_greatest (l : List Cx) : ∀ k, k ≤ l.length → (∀ j, j < k → numBad l j = false) → ∀ c, match lastOf (l.take k) c with
   | none => ∀ y ∈ l.take k, y.cl ≠ c
   | some s => (∃ y ∈ l.take k, y.cl = c ∧ y.sq = s) ∧ ∀ y ∈ l.take k, y.cl = c → y.sq ≤ s := by
 intro k
 induction k with
 | zero => intro _ _ c; simp [lastOf]
 | succ k ih =>
   intro hk hb c
   have ih := ih (by omega) (fun j hj => hb j (by omega))
   obtain ⟨x, hx⟩ : ∃ x, l[k]? = some x := ⟨_, List.getElem?_eq_getElem (by omega)⟩
   have ht : l.take (k + 1) = l.take k ++ [x] := by
     obtain ⟨h1, h2⟩ := List.getElem?_eq_some_iff.1 hx
     rw [List.take_succ_eq_append_getElem h1, h2]
   rw [ht, lastOf_snoc]
   have hbk := hb k (by omega)
   unfold numBad at hbk
   rw [hx] at hbk
   simp only at hbk
   by_cases hc : x.cl = c
   · subst hc
     rw [if_pos rfl]
     have ih := ih x.cl
     cases hl : lastOf (l.take k) x.cl with
     | none =>
       rw [hl] at ih
       refine ⟨⟨x, by simp, rfl, rfl⟩, fun y hy e => ?_⟩
       rcases List.mem_append.1 hy with hy | hy
       · exact absurd e (ih y hy)
       · rw [List.mem_singleton] at hy; subst hy; exact Nat.le_refl _
     | some s =>
       rw [hl] at ih hbk
       simp only [decide_eq_false_iff_not] at hbk
       refine ⟨⟨x, by simp, rfl, rfl⟩, fun y hy e => ?_⟩
       rcases List.mem_append.1 hy with hy | hy
       · have := ih.2 y hy e; omega
       · rw [List.mem_singleton] at hy; subst hy; exact Nat.le_refl _
   · rw [if_neg hc]
     have ih := ih c
     cases hl : lastOf (l.take k) c with
     | none =>
       rw [hl] at ih
       intro y hy
       rcases List.mem_append.1 hy with hy | hy
       · exact ih y hy
       · rw [List.mem_singleton] at hy; subst hy; exact hc
     | some s =>
       rw [hl] at ih
       obtain ⟨⟨y, hy, h1⟩, h2⟩ := ih
       refine ⟨⟨y, by simp [hy], h1⟩, fun y hy e => ?_⟩
       rcases List.mem_append.1 hy with hy | hy
       · exact h2 y hy e
       · rw [List.mem_singleton] at hy; subst hy; exact absurd e hc
theorem numBad_eq (l : List Cx) (k : Nat) (hk : k < l.length) (hb : ∀ j, j < k → numBad l j = false) : numBad l k = numBad2 l k := by
 obtain ⟨x, hx⟩ : ∃ x, l[k]? = some x := ⟨_, List.getElem?_eq_getElem hk⟩
 have h := last_greatest l k (by omega) hb x.cl
 unfold numBad numBad2
 rw [hx]
 simp only
 cases hl : lastOf (l.take k) x.cl with
 | none =>
   rw [hl] at h
   simp only
   rw [eq_comm, List.any_eq_false]
   intro y hy
   simp [h y hy]
 | some s =>
   rw [hl] at h
   obtain ⟨⟨y, hy, h1, h2⟩, h3⟩ := h
   simp only
   rw [Bool.eq_iff_iff, List.any_eq_true]
   constructor
   · intro hs
     have hs : x.sq ≤ s := by simpa using hs
     exact ⟨y, hy, by simp [h1]; omega⟩
   · rintro ⟨z, hz, e⟩
     simp only [Bool.and_eq_true, decide_eq_true_eq] at e
     have := h3 z hz e.1
     simp; omega
open Go.RowKit Go.Maps
theorem Cm.Rd.vo_eq {w : World} {c : Cm} (h : c.Rd w) : ∃ a k, c.vo = .slice a c.x.r.ops.length k := by
 obtain ⟨a, k, e, _⟩ := h.ops.row.shape; exact ⟨a, k, e⟩
theorem Cm.Rd.vv_eq {w : World} {c : Cm} (h : c.Rd w) : ∃ a k, c.vv = .slice a c.x.vals.length k := by
 obtain ⟨a, k, e, _⟩ := h.vals.shape; exact ⟨a, k, e⟩
theorem Cm.Rd.vl_eq {w : World} {c : Cm} (h : c.Rd w) : ∃ a k, c.vl = .slice a c.x.list.length k := by
 obtain ⟨a, k, e, _⟩ := h.list.shape; exact ⟨a, k, e⟩
theorem Kept.cm {w w' : World} {c : Cm} (h : c.Rd w) (k : Kept w w') : c.Rd w' := ⟨h.nm, h.v, k.ord h.ops, k.rds h.vals, k.rds h.list⟩
theorem Kept.crd {w w' : World} {cells : Cm → List Value} {size : Nat} {v : Value} {l : List Cm} (h : CRd cells size w v l) (k : Kept w w') : CRd cells size w' v l := ⟨k.rds h.row, fun c hc => k.cm (h.each c hc)⟩
set_option maxRecDepth 100000 in
set_option maxHeartbeats 4000000 in
theorem ans1_any (c : Cm) (g bm : Nat) (L : Gr) (w0 w : World) (bg : Nat) (hst : GSt w0 g bm L w) (hb : w.heap[bg]? = some (.cells #[.pointer (some ⟨g, 0, none⟩)] 97 (0, 0))) (hr : c.Rd w) (hg : ErrT w0) :
   Calls Tryz.prog 59 #[.agg c.c14.toArray, .pointer (some ⟨bg, 0, none⟩)] w fun e w' => e = .returned (.bool (!c.x.ansIs (doG L c.x.r).2)) ∧ GSt w0 g bm (doG L c.x.r).1 w' ∧ Kept w w' := by
 have HDO : Hid (∀ w', Mod (fun _ => False) w w' → Calls Tryz.prog 41 #[.pointer (some ⟨g, 0, none⟩), rqV c.x.r c.vo] w' (SDoE w0 g bm L c.x.r w')) := Lib.hid (fun w' m => sgdo_any g bm L c.x.r c.vo w0 w' (hst.keep m) (hr.ops.keep m) hr.v hg)
 have HSA : Hid (∀ vv' vl' w', Kept w w' → RdS w' 3 vv' (doG L c.x.r).2.vals.length (vvcells (doG L c.x.r).2.vals) → RdS w' 1 vl' (doG L c.x.r).2.list.length ((doG L c.x.r).2.list.map (keyV .u32)) → Calls Tryz.prog 30 #[.agg #[.int .i64 ((doG L c.x.r).2.e : Nat), .int .i64 ((doG L c.x.r).2.at_ : Nat), vv', vl'], .agg #[.int .i64 c.x.e, .int .i64 c.x.p, c.vv, c.vl]] w' fun en w'' => en = .returned (.bool (c.x.ansIs (doG L c.x.r).2)) ∧ Mod (fun _ => False) w' w'') := Lib.hid (fun vv' vl' w' k h1 h2 => csame_any _ _ _ _ _ c.x.vals _ c.x.list vv' vl' c.vv c.vl w' h1 (k.rds hr.vals) h2 (k.rds hr.list))
 obtain ⟨ao, co, hvo⟩ := hr.vo_eq
 obtain ⟨av, cv, hvv⟩ := hr.vv_eq
 obtain ⟨al, cl, hvl⟩ := hr.vl_eq
 obtain ⟨b, hbe⟩ : ∃ b, b = c.x.ansIs (doG L c.x.r).2 := ⟨_, rfl⟩
 rw [← hbe] at HSA ⊢
 obtain ⟨a, ha⟩ : ∃ a, a = doG L c.x.r := ⟨_, rfl⟩
 rw [← ha] at HSA ⊢
 have HDO2 : Hid (∀ w', Mod (fun _ => False) w w' → Calls Tryz.prog 41 #[.pointer (some ⟨g, 0, none⟩), rqV c.x.r c.vo] w' fun e w'' => ∃ a1 c1 n1 a2 c2 n2, e = .returned (.agg #[.int .i64 (a.2.e : Nat), .int .i64 (a.2.at_ : Nat), .slice a1 n1 c1, .slice a2 n2 c2]) ∧ GSt w0 g bm a.1 w'' ∧ Kept w' w'' ∧ RdS w'' 3 (.slice a1 n1 c1) a.2.vals.length (vvcells a.2.vals) ∧ RdS w'' 1 (.slice a2 n2 c2) a.2.list.length (a.2.list.map (keyV .u32))) := Lib.hid (fun w' m => (HDO.out w' m).mono (by
   rintro e w'' ⟨vv, vl, he, hs⟩
   subst ha
   have h1 := hs.vals.rdS
   have h2 := hs.list.rdS
   obtain ⟨a1, c1, rfl, -⟩ := h1.shape
   obtain ⟨a2, c2, rfl, -⟩ := h2.shape
   exact ⟨a1, c1, _, a2, c2, _, he, hs.st, hs.kept, h1, h2⟩))
 clear HDO ha hbe
 obtain ⟨⟨xc, xq, ⟨kind, ops, rv, rk, rd⟩, ae, ap, vals, list, fr, to_⟩, vo, vv, vl⟩ := c
 simp only at hvo hvv hvl
 subst hvo hvv hvl
 obtain ⟨no, hno⟩ : ∃ n, n = ops.length := ⟨_, rfl⟩
 obtain ⟨nv, hnv⟩ : ∃ n, n = vals.length := ⟨_, rfl⟩
 obtain ⟨nl, hnl⟩ : ∃ n, n = list.length := ⟨_, rfl⟩
 simp only [Cm.c14, rqV, ← hno, ← hnv, ← hnl] at HDO2 HSA ⊢
 have HK1 : Hid (Kept w (w.alloc (.cells #[.int .u8 0, .int .u32 0, .int .u32 0, .int .u8 (xc : Int), .int .u32 (xq : Int), .int .u8 (kind : Int), .slice ao no co, .int .u32 (rv : Int), .int .i64 rk, .int .i64 rd, .int .i64 ae, .int .i64 ap, .slice av nv cv, .slice al nl cl] 67))) := Lib.hid (.mod ((Mod.refl _ _).alloc _))
 have HM1 : Hid (Mod (fun _ => False) w (w.alloc (.cells #[.int .u8 0, .int .u32 0, .int .u32 0, .int .u8 (xc : Int), .int .u32 (xq : Int), .int .u8 (kind : Int), .slice ao no co, .int .u32 (rv : Int), .int .i64 rk, .int .i64 rd, .int .i64 ae, .int .i64 ap, .slice av nv cv, .slice al nl cl] 67))) := Lib.hid ((Mod.refl _ _).alloc _)
 have HBX : Hid ((w.alloc (.cells #[.int .u8 0, .int .u32 0, .int .u32 0, .int .u8 (xc : Int), .int .u32 (xq : Int), .int .u8 (kind : Int), .slice ao no co, .int .u32 (rv : Int), .int .i64 rk, .int .i64 rd, .int .i64 ae, .int .i64 ap, .slice av nv cv, .slice al nl cl] 67)).heap[w.heap.size]? = some (.cells #[.int .u8 0, .int .u32 0, .int .u32 0, .int .u8 (xc : Int), .int .u32 (xq : Int), .int .u8 (kind : Int), .slice ao no co, .int .u32 (rv : Int), .int .i64 rk, .int .i64 rd, .int .i64 ae, .int .i64 ap, .slice av nv cv, .slice al nl cl] 67 (0, 0))) := Lib.hid (heap_alloc_new' _ _)
 have HBG := Lib.hid hb
 have HKEEP : Hid (∀ w', Kept (w.alloc (.cells #[.int .u8 0, .int .u32 0, .int .u32 0, .int .u8 (xc : Int), .int .u32 (xq : Int), .int .u8 (kind : Int), .slice ao no co, .int .u32 (rv : Int), .int .i64 rk, .int .i64 rd, .int .i64 ae, .int .i64 ap, .slice av nv cv, .slice al nl cl] 67)) w' → (fun w' : World => w'.cell? ⟨bg, 0, none⟩ = some (.pointer (some ⟨g, 0, none⟩)) ∧ w'.cell? ⟨w.heap.size, 5, none⟩ = some (.int .u8 (kind : Int)) ∧ w'.cell? ⟨w.heap.size, 6, none⟩ = some (.slice ao no co) ∧ w'.cell? ⟨w.heap.size, 7, none⟩ = some (.int .u32 (rv : Int)) ∧ w'.cell? ⟨w.heap.size, 8, none⟩ = some (.int .i64 rk) ∧ w'.cell? ⟨w.heap.size, 9, none⟩ = some (.int .i64 rd) ∧ w'.cell? ⟨w.heap.size, 10, none⟩ = some (.int .i64 ae) ∧ w'.cell? ⟨w.heap.size, 11, none⟩ = some (.int .i64 ap) ∧ w'.cell? ⟨w.heap.size, 12, none⟩ = some (.slice av nv cv) ∧ w'.cell? ⟨w.heap.size, 13, none⟩ = some (.slice al nl cl)) w') := Lib.hid (fun w' k => by
   have h1 := k.box HBX.out
   exact ⟨cell_of_row (k.box (HK1.out.box HBG.out)) 0, cell_of_row h1 5, cell_of_row h1 6, cell_of_row h1 7, cell_of_row h1 8, cell_of_row h1 9, cell_of_row h1 10, cell_of_row h1 11, cell_of_row h1 12, cell_of_row h1 13⟩)
 have hne : bg ≠ w.heap.size := by have := lt_of_block hb; omega
 have hlt : bg < w.heap.size := lt_of_block hb
 clear hst hb hr hno hnv hnl
 go_enter Tryz.func59, Tryz.ntmps59
 go_upto_region 1 with fail
 obtain ⟨W1, hW1⟩ : ∃ W1, W1 = w.alloc (.cells #[.int .u8 0, .int .u32 0, .int .u32 0, .int .u8 (xc : Int), .int .u32 (xq : Int), .int .u8 (kind : Int), .slice ao no co, .int .u32 (rv : Int), .int .i64 rk, .int .i64 rd, .int .i64 ae, .int .i64 ap, .slice av nv cv, .slice al nl cl] 67) := ⟨_, rfl⟩
 rw [← hW1] at HK1 HM1 HBX HKEEP ⊢
 have HZW : Hid (W1.heap.size = w.heap.size + 1) := Lib.hid (by rw [hW1]; simp)
 clear hW1
 have zw : w.heap.size < W1.heap.size := by have := HZW.out; omega
 have zg : bg < W1.heap.size := by omega
 obtain ⟨c0, c1, c2, c3, c4, c5, c6, c7, c8, c9⟩ := HKEEP.out W1.drew (.mod (Mod.refl _ _).drew)
 go_wp2_with fail
 go_region_held3 (fun w' => w'.cell? ⟨bg, 0, none⟩ = some (.pointer (some ⟨g, 0, none⟩)) ∧ w'.cell? ⟨w.heap.size, 5, none⟩ = some (.int .u8 (kind : Int)) ∧ w'.cell? ⟨w.heap.size, 6, none⟩ = some (.slice ao no co) ∧ w'.cell? ⟨w.heap.size, 7, none⟩ = some (.int .u32 (rv : Int)) ∧ w'.cell? ⟨w.heap.size, 8, none⟩ = some (.int .i64 rk) ∧ w'.cell? ⟨w.heap.size, 9, none⟩ = some (.int .i64 rd) ∧ w'.cell? ⟨w.heap.size, 10, none⟩ = some (.int .i64 ae) ∧ w'.cell? ⟨w.heap.size, 11, none⟩ = some (.int .i64 ap) ∧ w'.cell? ⟨w.heap.size, 12, none⟩ = some (.slice av nv cv) ∧ w'.cell? ⟨w.heap.size, 13, none⟩ = some (.slice al nl cl))
   (first
     | go_keep
     | exact HKEEP.out _ HK4.out
     | exact HKEEP.out _ HK3.out)
   ((first
     | (have hq := HR3.out; go_at_call 30; go_loud (refine (HSA.out _ _ _ (HK1.out.trans HK3.out) HR3.out.1 HR3.out.2).mono ?_; (rintro e w4 ⟨rfl, hm4⟩); have HK4 : Hid (Kept W1 w4) := Lib.hid (HK3.out.then hm4); have HG4 := Lib.hid (HG3.out.keep hm4); clear hm4 hq))
     | (go_at_call 41; go_loud (refine (HDO2.out _ HM1.out.drew).mono ?_; (rintro e w3 ⟨a1, c1, n1, a2, c2, n2, rfl, hg3, hk3, hv3, hl3⟩); have HG3 := Lib.hid hg3; have HK3 : Hid (Kept W1 w3) := Lib.hid ((Kept.mod (Mod.refl _ _).drew).trans hk3); have HR3 := Lib.hid (And.intro hv3 hl3); clear hg3 hk3 hv3 hl3))))
 all_goals
   go_wp2
   go_ret
   exact ⟨rfl, HG4.out, HK1.out.trans HK4.out⟩
open Go.RowKit Go.Maps
theorem CRd.at {cells : Cm → List Value} {size : Nat} {w : World} {v : Value} {l : List Cm} (h : CRd cells size w v l) {k : Nat} {x : Cm} (hx : l[k]? = some x) : x.Rd w := h.each x (List.mem_of_getElem? hx)
theorem take_snoc' {α : Type} {l : List α} {k : Nat} {x : α} (h : l[k]? = some x) : l.take (k + 1) = l.take k ++ [x] := by
 obtain ⟨h1, h2⟩ := List.getElem?_eq_some_iff.1 h
 rw [List.take_succ_eq_append_getElem h1, h2]
def graphTo (l : List Cx) (k : Nat) : Gr := runG [] ((l.take k).map Cx.r)
theorem graphTo_succ {l : List Cx} {k : Nat} {x : Cx} (h : l[k]? = some x) : graphTo l (k + 1) = (doG (graphTo l k) x.r).1 := by
 unfold graphTo
 rw [take_snoc' h, List.map_append]
 unfold runG
 rw [List.foldl_append]
 rfl
theorem ansBad_at {l : List Cx} {k : Nat} {x : Cx} (h : l[k]? = some x) : ansBad l k = !x.ansIs (doG (graphTo l k) x.r).2 := by
 unfold ansBad
 rw [h]
 rfl
set_option maxRecDepth 100000 in
set_option maxHeartbeats 4000000 in
theorem idxD_any (v : Value) (l : List Cm) (g bm bg : Nat) (w0 w : World) (hv : CRd Cm.c14 14 w v l) (hst : GSt w0 g bm [] w) (hb : w.heap[bg]? = some (.cells #[.pointer (some ⟨g, 0, none⟩)] 97 (0, 0))) (hg : ErrT w0) :
   Calls Tryz.prog 58 #[v, .func (.func 59) #[] #[.pointer (some ⟨bg, 0, none⟩)]] w fun e w' => e = .returned (.int .i64 (placeZ (firstI l.length (ansBad (l.map Cm.x))))) ∧ Mod (fun _ => False) w0 w' := by
 have HV := Lib.hid hv
 have HG := Lib.hid hg
 have HST := Lib.hid hst
 have HB := Lib.hid hb
 obtain ⟨a, c, rfl, hc1, hc2, -⟩ := hv.row.shape
 obtain ⟨m, hm⟩ : ∃ m, m = l.length := ⟨_, rfl⟩
 have HML := Lib.hid hm
 rw [← hm] at HV hc1 ⊢
 clear hv hm hst hb hg
 go_enter Tryz.func58, Tryz.ntmps58
 go_wp2
 go_loopw [8] (fun i wr => ∃ k : Nat, i = .int .i64 (k : Int) ∧ k ≤ m ∧ GSt w0 g bm (graphTo (l.map Cm.x) k) wr ∧ Kept w wr ∧ ∀ j, j < k → ansBad (l.map Cm.x) j = false) (fun i _ => m - (intOf i).toNat)
 case atStart => exact ⟨0, rfl, Nat.zero_le _, HST.out, Kept.refl _, fun j hj => by omega⟩
 case round =>
   obtain ⟨k, rfl, hk, hst, hkp, hok⟩ := hrel
   have HSR := Lib.hid hst
   have HK := Lib.hid hkp
   have HOK := Lib.hid hok
   clear hst hkp hok
   by_cases hkm : k < m
   · obtain ⟨x, hx⟩ : ∃ x, l[k]? = some x := ⟨_, List.getElem?_eq_getElem (by rw [← HML.out]; exact hkm)⟩
     obtain ⟨b, off, e1, hb, hcs⟩ := CRd.ent (cells := Cm.c14) (size := 14) (fun _ => rfl) (by decide) HV.out hx rfl
     subst e1
     have hxx : (l.map Cm.x)[k]? = some x.x := by rw [List.getElem?_map, hx]; rfl
     have HRX := Lib.hid (HK.out.cm (HV.out.at hx))
     have HCL := Lib.hid (ans1_any x g bm (graphTo (l.map Cm.x) k) w0 wr bg HSR.out (HK.out.box HB.out) HRX.out HG.out)
     rw [← graphTo_succ hxx, ← ansBad_at hxx] at HCL
     have hcs : ∀ j, j < 14 → ∀ u, x.c14[j]? = some u → wr.cell? ⟨b, off + (k * 14 + j), none⟩ = some u := fun j hj u hu => HK.out.cell ((hcs j hj).trans hu)
     obtain ⟨ao, co, hvo⟩ := HRX.out.vo_eq
     obtain ⟨av, cv, hvv⟩ := HRX.out.vv_eq
     obtain ⟨al, cl, hvl⟩ := HRX.out.vl_eq
     clear hx hxx HRX
     obtain ⟨⟨xc, xq, ⟨kind, ops, rv, rk, rd⟩, ae, ap, vals, list, fr, to_⟩, vo, vv, vl⟩ := x
     simp only at hvo hvv hvl
     subst hvo hvv hvl
     obtain ⟨no, hno⟩ : ∃ n, n = ops.length := ⟨_, rfl⟩
     obtain ⟨nv, hnv⟩ : ∃ n, n = vals.length := ⟨_, rfl⟩
     obtain ⟨nl, hnl⟩ : ∃ n, n = list.length := ⟨_, rfl⟩
     simp only [Cm.c14, ← hno, ← hnv, ← hnl] at HCL hcs
     have p0 := hcs 0 (by omega) _ rfl
     have p1 := hcs 1 (by omega) _ rfl
     have p2 := hcs 2 (by omega) _ rfl
     have p3 := hcs 3 (by omega) _ rfl
     have p4 := hcs 4 (by omega) _ rfl
     have p5 := hcs 5 (by omega) _ rfl
     have p6 := hcs 6 (by omega) _ rfl
     have p7 := hcs 7 (by omega) _ rfl
     have p8 := hcs 8 (by omega) _ rfl
     have p9 := hcs 9 (by omega) _ rfl
     have p10 := hcs 10 (by omega) _ rfl
     have p11 := hcs 11 (by omega) _ rfl
     have p12 := hcs 12 (by omega) _ rfl
     have p13 := hcs 13 (by omega) _ rfl
     simp only [← Nat.add_assoc, Nat.add_zero] at p0 p1 p2 p3 p4 p5 p6 p7 p8 p9 p10 p11 p12 p13
     have zb := Nat.lt_of_lt_of_le hb HK.out.size
     clear hcs hb hno hnv hnl
     cases hbad : ansBad (l.map Cm.x) k with
     | true =>
       rw [hbad] at HCL
       have HFI : Hid (firstI m (ansBad (l.map Cm.x)) = some k) := Lib.hid (firstI_some hkm HOK.out hbad)
       clear hbad
       go_wp2_with (go_at_call 59; go_loud (refine HCL.out.mono ?_; (rintro e w4 ⟨rfl, hg4, hk4⟩); have HG4 := Lib.hid hg4; have HK4 := Lib.hid (HK.out.trans hk4); clear hg4 hk4))
       go_ret
       exact ⟨by rw [HFI.out]; rfl, HG4.out.mod⟩
     | false =>
       rw [hbad] at HCL
       have HOK2 : Hid (∀ j, j < k + 1 → ansBad (l.map Cm.x) j = false) := Lib.hid (fun j hj => by
         by_cases e : j < k
         · exact HOK.out j e
         · obtain rfl : j = k := by omega
           exact hbad)
       clear hbad
       go_wp2_with (go_at_call 59; go_loud (refine HCL.out.mono ?_; (rintro e w4 ⟨rfl, hg4, hk4⟩); have HG4 := Lib.hid hg4; have HK4 := Lib.hid (HK.out.trans hk4); clear hg4 hk4))
       go_roundw
       case rel => exact ⟨k + 1, by go_num, by omega, HG4.out, HK4.out, HOK2.out⟩
       case measure => simp [intOf]; omega
   · have HFI : Hid (firstI m (ansBad (l.map Cm.x)) = none) := Lib.hid (firstI_none (fun i hi => HOK.out i (by omega)))
     go_wp2
     go_ret
     exact ⟨by rw [HFI.out]; rfl, HSR.out.mod⟩
set_option maxRecDepth 100000 in
set_option maxHeartbeats 2000000 in
theorem answers_any (v : Value) (l : List Cm) (w : World) (hv : CRd Cm.c14 14 w v l) (hg : ErrT w) :
   Calls Tryz.prog 32 #[v] w fun e w' => e = .returned (.int .i64 (placeZ (firstI l.length (ansBad (l.map Cm.x))))) ∧ Mod (fun _ => False) w w' := by
 have HV := Lib.hid hv
 have HG := Lib.hid hg
 obtain ⟨z, hz⟩ : ∃ z, z = placeZ (firstI l.length (ansBad (l.map Cm.x))) := ⟨_, rfl⟩
 have HIX : Hid (∀ g bm bg w', Mod (fun _ => False) w w' → GSt w g bm [] w' → w'.heap[bg]? = some (.cells #[.pointer (some ⟨g, 0, none⟩)] 97 (0, 0)) → Calls Tryz.prog 58 #[v, .func (.func 59) #[] #[.pointer (some ⟨bg, 0, none⟩)]] w' fun e w'' => e = .returned (.int .i64 z) ∧ Mod (fun _ => False) w w'') := Lib.hid (fun g bm bg w' m h1 h2 => by rw [hz]; exact idxD_any v l g bm bg w w' (HV.out.keep m) h1 h2 HG.out)
 rw [← hz]
 obtain ⟨a, c, rfl, -⟩ := hv.row.shape
 clear hv hg hz
 go_enter Tryz.func32, Tryz.ntmps32
 go_wp2_with (first
   | (have hq := HST.out; go_at_call 58; go_loud (refine (HIX.out _ _ _ _ HST.out.2.mod HST.out.2 HST.out.1).mono ?_; (rintro e w3 ⟨rfl, hm3⟩); have HM3 := Lib.hid hm3; clear hm3 hq))
   | (go_at_call 40; refine (snew_any w w (Mod.refl _ _)).mono ?_; (rintro e w2 ⟨rfl, hm2, hst, hz2⟩); have HST : Hid ((w2.alloc (.cells #[.pointer (some ⟨w.heap.size + 1, 0, none⟩)] 97)).heap[w2.heap.size]? = some (.cells #[.pointer (some ⟨w.heap.size + 1, 0, none⟩)] 97 (0, 0)) ∧ GSt w (w.heap.size + 1) w.heap.size [] (w2.alloc (.cells #[.pointer (some ⟨w.heap.size + 1, 0, none⟩)] 97))) := Lib.hid ⟨heap_alloc_new' _ _, hst.keep ((Mod.refl _ _).alloc _)⟩; clear hm2 hst hz2))
 go_ret
 exact ⟨rfl, HM3.out⟩
open Go.RowKit Go.Maps
theorem take_get {α : Type} {l : List α} {k i : Nat} (h : i < k) : (l.take k)[i]? = l[i]? := by rw [List.getElem?_take, if_pos h]
theorem ansBad_take {c : List Cx} {k i : Nat} (h : i < k) : ansBad (c.take k) i = ansBad c i := by
 unfold ansBad
 rw [take_get h, List.take_take, Nat.min_eq_left (by omega)]
theorem numBad_take {c : List Cx} {k i : Nat} (h : i < k) : numBad (c.take k) i = numBad c i := by
 unfold numBad
 rw [take_get h, List.take_take, Nat.min_eq_left (by omega)]
def within (k : Nat) (x : Cx) : Bool := decide (x.to_ ≤ (k : Int)) && (!decide (x.e = 13) && !decide (x.e = 14))
end Go.Proofs.YtpigipgoopeeoaaGreatDoor
