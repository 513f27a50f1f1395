import Derived.Test.YtpigipgoopeeoaaGreatDoorMOn12
set_option linter.unusedVariables false
set_option linter.unusedSimpArgs false
namespace Go.Proofs.YtpigipgoopeeoaaGreatDoor
open Go.RowKit Go.Maps
structure Cx where
 cl : Nat
 sq : Nat
 r : Rqt
 e : Int
 p : Int
 vals : List Val
 list : List Nat
 fr : Int
 to_ : Int
def Cx.nm (c : Cx) : Nm := (c.cl, c.sq)
structure Cm where
 x : Cx
 vo : Value
 vv : Value
 vl : Value
def Cm.c11 (c : Cm) : List Value := [.int .u8 (c.x.cl : Int), .int .u32 (c.x.sq : Int), .int .u8 (c.x.r.kind : Int), c.vo, .int .u32 (c.x.r.v : Int), .int .i64 c.x.r.k, .int .i64 c.x.r.dest, .int .i64 c.x.e, .int .i64 c.x.p, c.vv, c.vl]
def Cm.c13 (c : Cm) : List Value := [.int .u8 (c.x.cl : Int), .int .u32 (c.x.sq : Int), .int .u8 (c.x.r.kind : Int), c.vo, .int .u32 (c.x.r.v : Int), .int .i64 c.x.r.k, .int .i64 c.x.r.dest, .int .i64 c.x.e, .int .i64 c.x.p, c.vv, c.vl, .int .i64 c.x.fr, .int .i64 c.x.to_]
def Cm.c14 (c : Cm) : List Value := [.int .u8 0, .int .u32 0, .int .u32 0, .int .u8 (c.x.cl : Int), .int .u32 (c.x.sq : Int), .int .u8 (c.x.r.kind : Int), c.vo, .int .u32 (c.x.r.v : Int), .int .i64 c.x.r.k, .int .i64 c.x.r.dest, .int .i64 c.x.e, .int .i64 c.x.p, c.vv, c.vl]
structure Cm.Rd (w : World) (c : Cm) : Prop where
 nm : c.x.nm.ok
 v : c.x.r.v < 4294967296
 ops : ORd w c.vo c.x.r.ops
 vals : RdS w 3 c.vv c.x.vals.length (vvcells c.x.vals)
 list : RdS w 1 c.vl c.x.list.length (c.x.list.map (keyV .u32))
theorem Cm.Rd.keep {w w' : World} {c : Cm} (h : c.Rd w) (m : Mod (fun _ => False) w w') : c.Rd w' := ⟨h.nm, h.v, h.ops.keep m, h.vals.keep m, h.list.keep m⟩
structure CRd (cells : Cm → List Value) (size : Nat) (w : World) (v : Value) (l : List Cm) : Prop where
 row : RdS w size v l.length (l.flatMap cells)
 each : ∀ c ∈ l, c.Rd w
theorem CRd.keep {cells : Cm → List Value} {size : Nat} {w w' : World} {v : Value} {l : List Cm} (h : CRd cells size w v l) (m : Mod (fun _ => False) w w') : CRd cells size w' v l := ⟨h.row.keep m, fun c hc => (h.each c hc).keep m⟩
theorem CRd.ent {cells : Cm → List Value} {size : Nat} (hz : ∀ c, (cells c).length = size) (h0 : 0 < size) {w : World} {v : Value} {l : List Cm} (h : CRd cells size w v l) {i : Nat} {x : Cm} (hi : l[i]? = some x) {a : Option Addr} {n c : Nat} (e : v = .slice a n c) :
   ∃ b off, a = some ⟨b, off, none⟩ ∧ b < w.heap.size ∧ ∀ j, j < size → w.cell? ⟨b, off + (i * size + j), none⟩ = (cells x)[j]? := by
 have g := fun j hj => flat_get cells hz l i j x hi (show j < size from hj)
 obtain ⟨a', c', e', -⟩ := h.row.shape
 rw [e] at e'
 injection e' with e1 e2 e3
 rw [e2] at e
 have k : ∀ j, j < size → ∃ u, (cells x)[j]? = some u ∧ ∃ b off, a = some ⟨b, off, none⟩ ∧ b < w.heap.size ∧ w.cell? ⟨b, off + (i * size + j), none⟩ = some u := fun j hj => by
   have hu : ∃ u, (cells x)[j]? = some u := ⟨_, List.getElem?_eq_getElem (by rw [hz]; exact hj)⟩
   obtain ⟨u, hu⟩ := hu
   exact ⟨u, hu, h.row.cell a c e (i * size + j) u (by rw [g j hj]; exact hu)⟩
 obtain ⟨u0, _, b, off, ea, hb, _⟩ := k 0 h0
 refine ⟨b, off, ea, hb, fun j hj => ?_⟩
 obtain ⟨u, hu, b1, off1, ea1, _, h1⟩ := k j hj
 rw [ea] at ea1
 injection ea1 with e1
 injection e1 with e1 e2
 subst e1 e2
 rw [h1, hu]
def placeOf (l : List Cx) (k : Nm) : Option Nat := l.findIdx? fun c => c.nm == k
theorem placeOf_snoc (l : List Cx) (c : Cx) (k : Nm) : placeOf (l ++ [c]) k = (placeOf l k).or (if c.nm = k then some l.length else none) := by
 unfold placeOf
 rw [List.findIdx?_append]
 congr 1
 by_cases h : c.nm = k <;> simp [List.findIdx?_cons, h]
def placeV (l : List Cx) (k : Nm) : Option Value := (placeOf l k).map fun i => .int .i64 (i : Int)
theorem placeV_old {l : List Cx} {c : Cx} (h : placeOf l c.nm ≠ none) : placeV (l ++ [c]) = placeV l := by
 funext k
 unfold placeV
 rw [placeOf_snoc]
 by_cases e : c.nm = k
 · subst e
   cases hp : placeOf l c.nm with
   | none => exact absurd hp h
   | some i => rfl
 · rw [if_neg e, Option.or_none]
theorem placeV_new {l : List Cx} {c : Cx} (h : placeOf l c.nm = none) : placeV (l ++ [c]) = fun k => if k = c.nm then some (.int .i64 (l.length : Int)) else placeV l k := by
 funext k
 unfold placeV
 rw [placeOf_snoc]
 by_cases e : c.nm = k
 · subst e
   rw [h, if_pos rfl, if_pos rfl]
   rfl
 · rw [if_neg e, if_neg (fun e' => e e'.symm), Option.or_none]
set_option maxRecDepth 100000 in
set_option maxHeartbeats 4000000 in
theorem places_any (v : Value) (l : List Cm) (w : World) (hv : CRd Cm.c14 14 w v l) (hl : l.length ≤ 4096) :
   Calls Tryz.prog 27 #[v] w fun e w' => ∃ b n, e = .returned (.map (some b)) ∧ Mod (fun _ => False) w w' ∧ w.heap.size ≤ b ∧ NMap Tryz.prog 90 w' b n (placeV (l.map Cm.x)) := by
 have HV := Lib.hid hv
 obtain ⟨a, c, rfl, hc1, hc2, -⟩ := hv.row.shape
 obtain ⟨m, hm⟩ : ∃ m, m = l.length := ⟨_, rfl⟩
 have HML := Lib.hid hm
 rw [← hm] at HV hc1 hl ⊢
 clear hv hm
 go_enter Tryz.func27, Tryz.ntmps27
 have hmm := @run_makeMap Tryz.prog
 go_wp2
 clear hmm
 go_loopw [11] (fun i wr => ∃ (k n : Nat), i = .int .i64 (k : Int) ∧ k ≤ m ∧ Mod (fun _ => False) w wr ∧ n ≤ k ∧ NMap Tryz.prog 90 wr w.heap.size n (placeV ((l.take k).map Cm.x))) (fun i _ => m - (intOf i).toNat)
 case atStart => exact ⟨0, 0, rfl, Nat.zero_le _, (Mod.refl _ _).alloc _, Nat.le_refl _, NMap.made w⟩
 case round =>
   obtain ⟨k, n, rfl, hk, hm, hn, hN⟩ := hrel
   have HM := Lib.hid hm
   have HN := Lib.hid hN
   clear hm hN
   by_cases hkm : k < m
   · obtain ⟨x, hx⟩ : ∃ x, l[k]? = some x := ⟨_, List.getElem?_eq_getElem (by rw [← HML.out]; exact hkm)⟩
     obtain ⟨b, off, e1, hb, hcs⟩ := CRd.ent (cells := Cm.c14) (size := 14) (fun _ => rfl) (by decide) HV.out hx rfl
     subst e1
     have hr := HV.out.each x (List.mem_of_getElem? hx)
     have HNM := Lib.hid hr.nm
     have hcs : ∀ j, j < 14 → ∀ u, x.c14[j]? = some u → wr.cell? ⟨b, off + (k * 14 + j), none⟩ = some u := fun j hj u hu => HM.out.cell ((hcs j hj).trans hu)
     have HTK : Hid ((l.take (k + 1)).map Cm.x = (l.take k).map Cm.x ++ [x.x]) := Lib.hid (by
       obtain ⟨h1, h2⟩ := List.getElem?_eq_some_iff.1 hx
       rw [List.take_succ_eq_append_getElem h1, h2]; simp)
     have HLEN : Hid (((l.take k).map Cm.x).length = k) := Lib.hid (by rw [List.length_map, List.length_take]; have := HML.out; omega)
     obtain ⟨ao, co, no, hvo⟩ : ∃ a c n, x.vo = .slice a n c := by
       obtain ⟨a, c, e, _⟩ := hr.ops.row.shape
       exact ⟨_, _, _, e⟩
     obtain ⟨av, cv, nv, hvv⟩ : ∃ a c n, x.vv = .slice a n c := by
       obtain ⟨a, c, e, _⟩ := hr.vals.shape
       exact ⟨_, _, _, e⟩
     obtain ⟨al, cl, nl, hvl⟩ : ∃ a c n, x.vl = .slice a n c := by
       obtain ⟨a, c, e, _⟩ := hr.list.shape
       exact ⟨_, _, _, e⟩
     clear hr hx
     obtain ⟨⟨xc, xq, ⟨kind, ops, rv, rk, rd⟩, ae, ap, vals, list, fr, to_⟩, vo, vv, vl⟩ := x
     simp only at hvo hvv hvl
     subst hvo hvv hvl
     have p0 := hcs 0 (by omega) _ rfl
     have p1 := hcs 1 (by omega) _ rfl
     have p2 := hcs 2 (by omega) _ rfl
     have p3 := hcs 3 (by omega) _ rfl
     have p4 := hcs 4 (by omega) _ rfl
     have p5 := hcs 5 (by omega) _ rfl
     have p6 := hcs 6 (by omega) _ rfl
     have p7 := hcs 7 (by omega) _ rfl
     have p8 := hcs 8 (by omega) _ rfl
     have p9 := hcs 9 (by omega) _ rfl
     have p10 := hcs 10 (by omega) _ rfl
     have p11 := hcs 11 (by omega) _ rfl
     have p12 := hcs 12 (by omega) _ rfl
     have p13 := hcs 13 (by omega) _ rfl
     simp only [← Nat.add_assoc, Nat.add_zero] at p0 p1 p2 p3 p4 p5 p6 p7 p8 p9 p10 p11 p12 p13
     have zb := Nat.lt_of_lt_of_le hb HM.out.size
     clear hcs hb
     obtain ⟨W, hW⟩ : ∃ W, W = wr.alloc (.cells #[.int .u8 0, .int .u32 0, .int .u32 0, .int .u8 (xc : Int), .int .u32 (xq : Int), .int .u8 (kind : Int), .slice ao no co, .int .u32 (rv : Int), .int .i64 rk, .int .i64 rd, .int .i64 ae, .int .i64 ap, .slice av nv cv, .slice al nl cl] 67) := ⟨_, rfl⟩
     have HNW : Hid (NMap Tryz.prog 90 W w.heap.size n (placeV ((l.take k).map Cm.x))) := Lib.hid (by rw [hW]; exact HN.out.keep ((Mod.refl _ _).alloc _))
     have HMW : Hid (Mod (fun _ => False) w W) := Lib.hid (by rw [hW]; exact HM.out.alloc _)
     have lk := HNW.out.getOk (k := (xc, xq)) HNM.out
     simp only [nameV] at lk
     cases hp : placeOf ((l.take k).map Cm.x) (xc, xq) with
     | some i =>
       have HP := Lib.hid hp
       have hv : placeV ((l.take k).map Cm.x) (xc, xq) = some (.int .i64 (i : Int)) := by unfold placeV; rw [hp]; rfl
       rw [hv] at lk
       simp only [Option.getD_some, Option.isSome_some] at lk
       rw [hW] at lk
       have HPV : Hid (placeV ((l.take (k + 1)).map Cm.x) = placeV ((l.take k).map Cm.x)) := Lib.hid (by rw [HTK.out]; exact placeV_old (by show placeOf _ (xc, xq) ≠ none; rw [HP.out]; simp))
       clear hp hv hW
       go_wp2
       go_roundw
       case rel => exact ⟨k + 1, n, by go_num, by omega, HM.out.alloc _, by omega, by rw [HPV.out]; exact HN.out.keep ((Mod.refl _ _).alloc _)⟩
       case measure => simp [intOf]; omega
     | none =>
       have HPV : Hid (placeV ((l.take (k + 1)).map Cm.x) = fun j => if j = (xc, xq) then some (.int .i64 (k : Int)) else placeV ((l.take k).map Cm.x) j) := Lib.hid (by rw [HTK.out, placeV_new (by exact hp), HLEN.out]; rfl)
       have hv : placeV ((l.take k).map Cm.x) (xc, xq) = none := by unfold placeV; rw [hp]; rfl
       rw [hv] at lk
       simp only [Option.getD_none, Option.isSome_none] at lk
       obtain ⟨w5, hr5, hN5, hm5⟩ := HNW.out.store (by unfold maxLen; omega) (k := (xc, xq)) HNM.out (.int .i64 (k : Int))
       have HN5 := Lib.hid hN5
       have HM5 : Hid (Mod (fun _ => False) w w5) := Lib.hid (HMW.out.trans' hm5 (fun i hi e => by omega))
       simp only [nameV] at hr5
       rw [hW] at lk hr5
       clear hp hv hW hN5 hm5
       go_wp2
       go_roundw
       case rel => exact ⟨k + 1, n + 1, by go_num, by omega, HM5.out, by omega, by rw [HPV.out]; exact HN5.out⟩
       case measure => simp [intOf]; omega
   · have HALL : Hid ((l.take k).map Cm.x = l.map Cm.x) := Lib.hid (by rw [List.take_of_length_le (by have := HML.out; omega)])
     go_wp2
     go_ret
     exact ⟨w.heap.size, n, rfl, HM.out, Nat.le_refl _, by rw [← HALL.out]; exact HN.out⟩
open Go.RowKit Go.Maps
def firstI (n : Nat) (p : Nat → Bool) : Option Nat := (List.range n).find? p
def placeZ : Option Nat → Int
 | none => -1
 | some i => (i : Int)
theorem firstI_none {n : Nat} {p : Nat → Bool} (h : ∀ i, i < n → p i = false) : firstI n p = none := by
 unfold firstI
 rw [List.find?_eq_none]
 intro i hi
 rw [h i (List.mem_range.1 hi)]
 simp
theorem firstI_some {n k : Nat} {p : Nat → Bool} (hk : k < n) (h : ∀ i, i < k → p i = false) (hp : p k = true) : firstI n p = some k := by
 unfold firstI
 rw [List.find?_range_eq_some]
 exact ⟨hp, List.mem_range.2 hk, fun j hj => by rw [h j hj]; rfl⟩
def lastOf (l : List Cx) (c : Nat) : Option Nat := l.foldl (fun o x => if x.cl = c then some x.sq else o) none
theorem lastOf_snoc (l : List Cx) (x : Cx) (c : Nat) : lastOf (l ++ [x]) c = if x.cl = c then some x.sq else lastOf l c := by simp [lastOf, List.foldl_append]
def numBad (l : List Cx) (i : Nat) : Bool := match l[i]? with
 | none => false
 | some x => match lastOf (l.take i) x.cl with
   | none => false
   | some s => decide (x.sq ≤ s)
theorem zero_u32 (w : World) : (zeroValue 32).run Tryz.prog w = .ok (.int .u32 0) w := Tryz.zeroValue32 w
set_option maxRecDepth 100000 in
set_option maxHeartbeats 4000000 in
theorem numbers_any (v : Value) (l : List Cm) (w : World) (hv : CRd Cm.c14 14 w v l) (hl : l.length ≤ 4096) :
   Calls Tryz.prog 33 #[v] w fun e w' => e = .returned (.int .i64 (placeZ (firstI l.length (numBad (l.map Cm.x))))) ∧ Mod (fun _ => False) w w' := by
 have HV := Lib.hid hv
 obtain ⟨a, c, rfl, hc1, hc2, -⟩ := hv.row.shape
 obtain ⟨m, hm⟩ : ∃ m, m = l.length := ⟨_, rfl⟩
 have HML := Lib.hid hm
 rw [← hm] at HV hc1 hl ⊢
 clear hv hm
 go_enter Tryz.func33, Tryz.ntmps33
 have hmm := @run_makeMap Tryz.prog
 go_wp2
 clear hmm
 go_loopw [11] (fun i wr => ∃ (k : Nat) (es : Ents), i = .int .i64 (k : Int) ∧ k ≤ m ∧ Mod (fun _ => False) w wr ∧ es.length ≤ k ∧ UMap Tryz.prog 5 .u8 wr w.heap.size es ∧ (∀ c, getL c es = (lastOf ((l.take k).map Cm.x) c).map fun s => .int .u32 (s : Int)) ∧ ∀ i, i < k → numBad (l.map Cm.x) i = false) (fun i _ => m - (intOf i).toNat)
 case atStart => exact ⟨0, [], rfl, Nat.zero_le _, (Mod.refl _ _).alloc _, Nat.le_refl _, UMap.made _ _ _ _, fun c => rfl, fun i hi => by omega⟩
 case round =>
   obtain ⟨k, es, rfl, hk, hm, hn, hU, hes, hok⟩ := hrel
   have HM := Lib.hid hm
   have HU := Lib.hid hU
   have HES := Lib.hid hes
   have HOK := Lib.hid hok
   clear hm hU hes hok
   by_cases hkm : k < m
   · obtain ⟨x, hx⟩ : ∃ x, l[k]? = some x := ⟨_, List.getElem?_eq_getElem (by rw [← HML.out]; exact hkm)⟩
     obtain ⟨b, off, e1, hb, hcs⟩ := CRd.ent (cells := Cm.c14) (size := 14) (fun _ => rfl) (by decide) HV.out hx rfl
     subst e1
     have hr := HV.out.each x (List.mem_of_getElem? hx)
     have HNM := Lib.hid hr.nm
     have hcs : ∀ j, j < 14 → ∀ u, x.c14[j]? = some u → wr.cell? ⟨b, off + (k * 14 + j), none⟩ = some u := fun j hj u hu => HM.out.cell ((hcs j hj).trans hu)
     have HXK : Hid ((l.map Cm.x)[k]? = some x.x) := Lib.hid (by rw [List.getElem?_map, hx]; rfl)
     have HTK : Hid ((l.take (k + 1)).map Cm.x = (l.take k).map Cm.x ++ [x.x]) := Lib.hid (by
       obtain ⟨h1, h2⟩ := List.getElem?_eq_some_iff.1 hx
       rw [List.take_succ_eq_append_getElem h1, h2]; simp)
     obtain ⟨ao, co, no, hvo⟩ : ∃ a c n, x.vo = .slice a n c := by
       obtain ⟨a, c, e, _⟩ := hr.ops.row.shape
       exact ⟨_, _, _, e⟩
     obtain ⟨av, cv, nv, hvv⟩ : ∃ a c n, x.vv = .slice a n c := by
       obtain ⟨a, c, e, _⟩ := hr.vals.shape
       exact ⟨_, _, _, e⟩
     obtain ⟨al, cl, nl, hvl⟩ : ∃ a c n, x.vl = .slice a n c := by
       obtain ⟨a, c, e, _⟩ := hr.list.shape
       exact ⟨_, _, _, e⟩
     clear hr hx
     obtain ⟨⟨xc, xq, ⟨kind, ops, rv, rk, rd⟩, ae, ap, vals, list, fr, to_⟩, vo, vv, vl⟩ := x
     simp only at hvo hvv hvl
     subst hvo hvv hvl
     have p0 := hcs 0 (by omega) _ rfl
     have p1 := hcs 1 (by omega) _ rfl
     have p2 := hcs 2 (by omega) _ rfl
     have p3 := hcs 3 (by omega) _ rfl
     have p4 := hcs 4 (by omega) _ rfl
     have p5 := hcs 5 (by omega) _ rfl
     have p6 := hcs 6 (by omega) _ rfl
     have p7 := hcs 7 (by omega) _ rfl
     have p8 := hcs 8 (by omega) _ rfl
     have p9 := hcs 9 (by omega) _ rfl
     have p10 := hcs 10 (by omega) _ rfl
     have p11 := hcs 11 (by omega) _ rfl
     have p12 := hcs 12 (by omega) _ rfl
     have p13 := hcs 13 (by omega) _ rfl
     simp only [← Nat.add_assoc, Nat.add_zero] at p0 p1 p2 p3 p4 p5 p6 p7 p8 p9 p10 p11 p12 p13
     have zb := Nat.lt_of_lt_of_le hb HM.out.size
     clear hcs hb
     have HUW : Hid (UMap Tryz.prog 5 .u8 (wr.alloc (.cells #[.int .u8 0, .int .u32 0, .int .u32 0, .int .u8 (xc : Int), .int .u32 (xq : Int), .int .u8 (kind : Int), .slice ao no co, .int .u32 (rv : Int), .int .i64 rk, .int .i64 rd, .int .i64 ae, .int .i64 ap, .slice av nv cv, .slice al nl cl] 67)) w.heap.size es) := Lib.hid (HU.out.keep ((Mod.refl _ _).alloc _))
     have HMW : Hid (Mod (fun _ => False) w (wr.alloc (.cells #[.int .u8 0, .int .u32 0, .int .u32 0, .int .u8 (xc : Int), .int .u32 (xq : Int), .int .u8 (kind : Int), .slice ao no co, .int .u32 (rv : Int), .int .i64 rk, .int .i64 rd, .int .i64 ae, .int .i64 ap, .slice av nv cv, .slice al nl cl] 67))) := Lib.hid (HM.out.alloc _)
     have lk := HUW.out.getOk Tryz.underlying5 Tryz.underlying123 (zero_u32 _) (u8key HNM.out.1)
     have HTAK : Hid ((l.map Cm.x).take k = (l.take k).map Cm.x) := Lib.hid (by rw [List.map_take])
     simp only [Cx.nm] at lk
     rw [HES.out] at lk
     obtain ⟨w5, hr5, hU5, hm5⟩ := HUW.out.store Tryz.underlying5 Tryz.underlying123 (by unfold maxLen; omega) (u8key HNM.out.1) (.int .u32 (xq : Int))
     simp only [Cx.nm] at hr5 hU5
     have HU5 := Lib.hid hU5
     have HM5 : Hid (Mod (fun _ => False) w w5) := Lib.hid (HMW.out.trans' hm5 (fun i hi e => by omega))
     have HES5 : Hid (∀ c, getL c (putL xc (.int .u32 (xq : Int)) es) = (lastOf ((l.take (k + 1)).map Cm.x) c).map fun s => .int .u32 (s : Int)) := Lib.hid (fun c => by
       rw [getL_putL, HTK.out, lastOf_snoc]
       by_cases e : xc = c
       · rw [if_pos e, if_pos e]; rfl
       · rw [if_neg e, if_neg e, HES.out])
     have HLN5 : Hid ((putL xc (.int .u32 (xq : Int)) es).length ≤ k + 1) := Lib.hid (by have := putL_length xc (.int .u32 (xq : Int)) es; omega)
     clear hU5 hm5
     cases hp : lastOf ((l.take k).map Cm.x) xc with
     | none =>
       rw [hp] at lk
       simp only [Option.map_none, Option.getD_none, Option.isSome_none] at lk
       have HOKN : Hid (∀ i, i < k + 1 → numBad (l.map Cm.x) i = false) := Lib.hid (fun i hi => by
         by_cases e : i < k
         · exact HOK.out i e
         · obtain rfl : i = k := by omega
           unfold numBad
           rw [HXK.out]
           simp only
           rw [HTAK.out, hp])
       clear hp
       go_wp2
       go_roundw
       case rel => exact ⟨k + 1, _, by go_num, by omega, HM5.out, HLN5.out, HU5.out, HES5.out, HOKN.out⟩
       case measure => simp [intOf]; omega
     | some s =>
       rw [hp] at lk
       simp only [Option.map_some, Option.getD_some, Option.isSome_some] at lk
       by_cases hsq : xq ≤ s
       · have HFI : Hid (firstI m (numBad (l.map Cm.x)) = some k) := Lib.hid (firstI_some hkm HOK.out (by
           unfold numBad
           rw [HXK.out]
           simp only
           rw [HTAK.out, hp]
           simpa using hsq))
         have hsqi : (xq : Int) ≤ (s : Int) := by omega
         clear hp
         go_wp2
         go_ret
         exact ⟨by rw [HFI.out]; rfl, HMW.out⟩
       · have HOKN : Hid (∀ i, i < k + 1 → numBad (l.map Cm.x) i = false) := Lib.hid (fun i hi => by
           by_cases e : i < k
           · exact HOK.out i e
           · obtain rfl : i = k := by omega
             unfold numBad
             rw [HXK.out]
             simp only
             rw [HTAK.out, hp]
             simpa using hsq)
         have hsqi : ¬ (xq : Int) ≤ (s : Int) := by omega
         clear hp
         go_wp2
         go_roundw
         case rel => exact ⟨k + 1, _, by go_num, by omega, HM5.out, HLN5.out, HU5.out, HES5.out, HOKN.out⟩
         case measure => simp [intOf]; omega
   · have HFI : Hid (firstI m (numBad (l.map Cm.x)) = none) := Lib.hid (firstI_none (fun i hi => HOK.out i (by omega)))
     go_wp2
     go_ret
     exact ⟨by rw [HFI.out]; rfl, HM.out⟩
structure VGood (x : Vtx) : Prop where
 there : x.there = true
 id : 1 ≤ x.id ∧ x.id ≤ 40
 prise : Rising Ent.key x.props
 hrise : Rising Ent.key x.halves
 props : ∀ p ∈ x.props, p.key ≤ 3 ∧ p.val.ok = true ∧ p.val.k ≠ 0
 halves : ∀ h ∈ x.halves, 1 ≤ h.key ∧ h.key ≤ 40 ∧ h.key ≠ x.id ∧ h.val.ok = true
 few : x.halves.length ≤ 16
structure Good (L : Gr) : Prop where
 rise : Rising Vtx.id L
 each : ∀ x ∈ L, VGood x
 pair : ∀ x ∈ L, ∀ h ∈ x.halves, ∃ y ∈ L, y.id = h.key ∧ (⟨x.id, h.val⟩ : Ent) ∈ y.halves
theorem Good.nil : Good [] := ⟨List.Pairwise.nil, by simp, by simp⟩
theorem Rising.short {α : Type} {key : α → Nat} {l : List α} (h : Rising key l) {b m : Nat} (hb : ∀ x ∈ l, b ≤ key x ∧ key x < m) : l.length ≤ m - b := by
 rcases rising_bound h hb with c | c
 · omega
 · subst c; simp
theorem Good.short {L : Gr} (h : Good L) : L.length ≤ 40 := h.rise.short (b := 1) (m := 41) (fun x hx => by have := (h.each x hx).id; omega)
theorem VGood.props_short {x : Vtx} (h : VGood x) : x.props.length ≤ 4 := h.prise.short (b := 0) (m := 4) (fun p hp => by have := (h.props p hp).1; omega)
theorem findV_none {L : Gr} {v : Nat} : findV L v = none ↔ ∀ x ∈ L, x.id ≠ v := by
 unfold findV
 rw [List.find?_eq_none]
 simp
theorem findV_mem {L : Gr} {v : Nat} {x : Vtx} (h : findV L v = some x) : x ∈ L ∧ x.id = v := by
 unfold findV at h
 exact ⟨List.mem_of_find?_eq_some h, by simpa using List.find?_some h⟩
theorem entX_mem {l : List Ent} {f : Nat} {v : Val} (h : entX l f = some v) : (⟨f, v⟩ : Ent) ∈ l := by
 unfold entX at h
 rw [Option.map_eq_some_iff] at h
 obtain ⟨e, he, rfl⟩ := h
 have h1 := List.mem_of_find?_eq_some he
 have h2 : e.key = f := by simpa using List.find?_some he
 subst h2
 exact h1
theorem entX_isNone {l : List Ent} {f : Nat} : entX l f = none ↔ ∀ e ∈ l, e.key ≠ f := by
 unfold entX
 rw [Option.map_eq_none_iff, List.find?_eq_none]
 simp
theorem entX_isSome {l : List Ent} {f : Nat} {v : Val} (h : Rising Ent.key l) : entX l f = some v ↔ (⟨f, v⟩ : Ent) ∈ l := by
 refine ⟨entX_mem, fun hm => ?_⟩
 cases hx : entX l f with
 | none => exact absurd rfl (entX_isNone.1 hx _ hm)
 | some u =>
   have := h.uniq (entX_mem hx) hm rfl
   injection this with _ e
   rw [e]
theorem setH_mem {x : Vtx} {f : Nat} {v : Val} {b : Bool} (h : Rising Ent.key x.halves) {e : Ent} : e ∈ (setH x f v b).halves ↔ (e ∈ x.halves ∧ e.key ≠ f) ∨ (b = true ∧ e = ⟨f, v⟩) := by
 unfold setH
 simp only
 rw [layG_mem h]
 cases b <;> simp
theorem layV_mem {x y : Vtx} {L : Gr} (h : Rising Vtx.id L) : y ∈ layV x L ↔ (y ∈ L ∧ y.id ≠ x.id) ∨ (x.there = true ∧ y = x) := by
 unfold layV
 rw [layG_mem h]
 cases x.there <;> simp
theorem layV_rise {x : Vtx} {L : Gr} (h : Rising Vtx.id L) : Rising Vtx.id (layV x L) := Rising.lay h
theorem setH_less {x : Vtx} {f : Nat} {v : Val} (hr : Rising Ent.key x.halves) : (setH x f v false).halves.length ≤ x.halves.length := by
 unfold setH
 simp only [Bool.not_false]
 rw [layG_done]
 exact List.length_filter_le _ _
theorem VGood.set {x : Vtx} (h : VGood x) {f : Nat} {v : Val} (hf : 1 ≤ f ∧ f ≤ 40) (hne : f ≠ x.id) (hv : v.ok = true) (hl : x.halves.length < 16) : VGood (setH x f v true) := by
 refine ⟨h.there, h.id, h.prise, Rising.lay h.hrise, h.props, fun e he => ?_, ?_⟩
 · rcases (setH_mem h.hrise).1 he with ⟨h1, _⟩ | ⟨_, rfl⟩
   · exact h.halves e h1
   · exact ⟨hf.1, hf.2, hne, hv⟩
 · have := layG_length (key := Ent.key) (x := (⟨f, v⟩ : Ent)) (t := x.halves) (d := !true)
   show (layG Ent.key ⟨f, v⟩ (!true) x.halves).length ≤ 16
   omega
theorem VGood.cut {x : Vtx} (h : VGood x) (f : Nat) (v : Val) : VGood (setH x f v false) := by
 refine ⟨h.there, h.id, h.prise, Rising.lay h.hrise, h.props, fun e he => ?_, Nat.le_trans (setH_less h.hrise) h.few⟩
 rcases (setH_mem h.hrise).1 he with ⟨h1, _⟩ | ⟨h1, _⟩
 · exact h.halves e h1
 · cases h1
theorem VGood.setp {x : Vtx} (h : VGood x) {k : Nat} {v : Val} (hk : k ≤ 3) (hv : v.ok = true) : VGood (setP x k v) := by
 refine ⟨h.there, h.id, Rising.lay h.prise, h.hrise, fun e he => ?_, h.halves, h.few⟩
 unfold setP at he
 simp only at he
 rw [layG_mem h.prise] at he
 rcases he with ⟨h1, _⟩ | ⟨h1, rfl⟩
 · exact h.props e h1
 · exact ⟨hk, hv, by simpa using h1⟩
theorem Good.same {L : Gr} (h : Good L) {v v' : Vtx} (hv : v ∈ L) (hg : VGood v') (hid : v'.id = v.id) (hh : v'.halves = v.halves) : Good (layV v' L) := by
 refine ⟨layV_rise h.rise, fun x hx => ?_, fun x hx e he => ?_⟩
 · rcases (layV_mem h.rise).1 hx with ⟨h1, _⟩ | ⟨_, rfl⟩
   · exact h.each x h1
   · exact hg
 · have key : ∃ x0 ∈ L, x0.id = x.id ∧ x0.halves = x.halves := by
     rcases (layV_mem h.rise).1 hx with ⟨h1, _⟩ | ⟨_, rfl⟩
     · exact ⟨x, h1, rfl, rfl⟩
     · exact ⟨v, hv, hid.symm, hh.symm⟩
   obtain ⟨x0, hx0, e1, e2⟩ := key
   rw [← e2] at he
   obtain ⟨y, hy, hyi, hym⟩ := h.pair x0 hx0 e he
   rw [e1] at hym
   by_cases c : y.id = v.id
   · have := h.rise.uniq hy hv c
     subst this
     exact ⟨v', (layV_mem h.rise).2 (.inr ⟨hg.there, rfl⟩), by rw [hid]; exact hyi, by rw [hh]; exact hym⟩
   · exact ⟨y, (layV_mem h.rise).2 (.inl ⟨hy, by rw [hid]; exact c⟩), hyi, hym⟩
theorem Good.two {L : Gr} (h : Good L) {v u : Vtx} (hv : v ∈ L) (hu : u ∈ L) (hne : v.id ≠ u.id) {val : Val} {b : Bool} (gv : VGood (setH v u.id val b)) (gu : VGood (setH u v.id val b)) :
   Good (layV (setH u v.id val b) (layV (setH v u.id val b) L)) := by
 have r1 : Rising Vtx.id (layV (setH v u.id val b) L) := layV_rise h.rise
 have mem : ∀ x, x ∈ layV (setH u v.id val b) (layV (setH v u.id val b) L) ↔ (x ∈ L ∧ x.id ≠ v.id ∧ x.id ≠ u.id) ∨ x = setH v u.id val b ∨ x = setH u v.id val b := by
   intro x
   rw [layV_mem r1, layV_mem h.rise]
   constructor
   · rintro (⟨⟨h1, h2⟩ | ⟨_, rfl⟩, h3⟩ | ⟨_, rfl⟩)
     · exact .inl ⟨h1, h2, h3⟩
     · exact .inr (.inl rfl)
     · exact .inr (.inr rfl)
   · rintro (⟨h1, h2, h3⟩ | rfl | rfl)
     · exact .inl ⟨.inl ⟨h1, h2⟩, h3⟩
     · exact .inl ⟨.inr ⟨gv.there, rfl⟩, hne⟩
     · exact .inr ⟨gu.there, rfl⟩
 have rv := (h.each v hv).hrise
 have ru := (h.each u hu).hrise
 refine ⟨layV_rise r1, fun x hx => ?_, fun x hx e he => ?_⟩
 · rcases (mem x).1 hx with ⟨h1, _⟩ | rfl | rfl
   · exact h.each x h1
   · exact gv
   · exact gu
 ·
   have stand : ∀ y ∈ L, ∀ k : Ent, k ∈ y.halves → (y = v → k.key ≠ u.id) → (y = u → k.key ≠ v.id) → ∃ z ∈ layV (setH u v.id val b) (layV (setH v u.id val b) L), z.id = y.id ∧ k ∈ z.halves := by
     intro y hy k hk n1 n2
     by_cases c1 : y.id = v.id
     · have := h.rise.uniq hy hv c1
       subst this
       exact ⟨_, (mem _).2 (.inr (.inl rfl)), rfl, (setH_mem rv).2 (.inl ⟨hk, n1 rfl⟩)⟩
     · by_cases c2 : y.id = u.id
       · have := h.rise.uniq hy hu c2
         subst this
         exact ⟨_, (mem _).2 (.inr (.inr rfl)), rfl, (setH_mem ru).2 (.inl ⟨hk, n2 rfl⟩)⟩
       · exact ⟨y, (mem y).2 (.inl ⟨hy, c1, c2⟩), rfl, hk⟩
   rcases (mem x).1 hx with ⟨h1, h2, h3⟩ | rfl | rfl
   · obtain ⟨y, hy, hyi, hym⟩ := h.pair x h1 e he
     obtain ⟨z, hz, z1, z2⟩ := stand y hy _ hym (fun _ => h3) (fun _ => h2)
     exact ⟨z, hz, z1.trans hyi, z2⟩
   · rcases (setH_mem rv).1 he with ⟨h1, h2⟩ | ⟨hb, rfl⟩
     · obtain ⟨y, hy, hyi, hym⟩ := h.pair v hv e h1
       obtain ⟨z, hz, z1, z2⟩ := stand y hy _ hym (fun ey => by subst ey; exact absurd hyi.symm (by have := ((h.each _ hv).halves e h1).2.2.1; exact this)) (fun ey => by subst ey; exact absurd hyi.symm h2)
       exact ⟨z, hz, z1.trans hyi, z2⟩
     · exact ⟨_, (mem _).2 (.inr (.inr rfl)), rfl, (setH_mem ru).2 (.inr ⟨hb, rfl⟩)⟩
   · rcases (setH_mem ru).1 he with ⟨h1, h2⟩ | ⟨hb, rfl⟩
     · obtain ⟨y, hy, hyi, hym⟩ := h.pair u hu e h1
       obtain ⟨z, hz, z1, z2⟩ := stand y hy _ hym (fun ey => by subst ey; exact absurd hyi.symm h2) (fun ey => by subst ey; exact absurd hyi.symm (by have := ((h.each _ hu).halves e h1).2.2.1; exact this))
       exact ⟨z, hz, z1.trans hyi, z2⟩
     · exact ⟨_, (mem _).2 (.inr (.inl rfl)), rfl, (setH_mem rv).2 (.inr ⟨hb, rfl⟩)⟩
theorem opOK_parts {o : Opr} (h : opOK o = true) : (1 ≤ o.kind ∧ o.kind ≤ 9) ∧ (1 ≤ o.a ∧ o.a ≤ 40) ∧ (o.two = true → (1 ≤ o.b ∧ o.b ≤ 40) ∧ o.b ≠ o.a) ∧ o.key ≤ 3 ∧ o.val.ok = true := by
 unfold opOK at h
 simp only [Bool.and_eq_true, decide_eq_true_eq, numB] at h
 obtain ⟨⟨⟨⟨⟨h1, h2⟩, h3⟩, h4⟩, h5⟩, h6⟩ := h
 refine ⟨⟨h1, h2⟩, h3, fun ht => ?_, ?_, ?_⟩
 · rw [if_pos ht] at h4
   simpa using h4
 · split at h5
   · simpa using h5
   · simp at h5; omega
 · split at h6
   · exact h6
   · simp at h6
     have e := ((noVal_iff 0 0 ⟨#[]⟩).1 rfl).2.2
     rw [h6]
     simp [noVal, Val.ok, e]
theorem Good.one {L : Gr} (h : Good L) {o : Opr} (ho : opOK o = true) : Good (oneG L o).g := by
 obtain ⟨hk, ha, hb, hkey, hval⟩ := opOK_parts ho
 unfold oneG
 by_cases k1 : o.kind = 1
 · rw [if_pos k1]
   cases hf : findV L o.a with
   | some x => simp; exact h
   | none =>
     simp only [Option.isSome_none, Bool.false_eq_true, if_false]
     have hn := findV_none.1 hf
     refine ⟨layV_rise h.rise, fun x hx => ?_, fun x hx e he => ?_⟩
     · rcases (layV_mem h.rise).1 hx with ⟨h1, _⟩ | ⟨_, rfl⟩
       · exact h.each x h1
       · exact ⟨rfl, ha, List.Pairwise.nil, List.Pairwise.nil, by simp, by simp, by simp⟩
     · rcases (layV_mem h.rise).1 hx with ⟨h1, _⟩ | ⟨_, rfl⟩
       · obtain ⟨y, hy, hyi, hym⟩ := h.pair x h1 e he
         exact ⟨y, (layV_mem h.rise).2 (.inl ⟨hy, hn y hy⟩), hyi, hym⟩
       · simp at he
 · rw [if_neg k1]
   cases hf : findV L o.a with
   | none => exact h
   | some v =>
     obtain ⟨hv, hvi⟩ := findV_mem hf
     simp only
     by_cases k2 : o.kind = 2
     · rw [if_pos k2]
       by_cases hl : 0 < v.halves.length
       · rw [if_pos hl]; exact h
       · rw [if_neg hl]
         have hv0 : v.halves = [] := List.length_eq_zero_iff.1 (by omega)
         refine ⟨layV_rise h.rise, fun x hx => ?_, fun x hx e he => ?_⟩
         · rcases (layV_mem h.rise).1 hx with ⟨h1, _⟩ | ⟨h1, _⟩
           · exact h.each x h1
           · cases h1
         · rcases (layV_mem h.rise).1 hx with ⟨h1, _⟩ | ⟨h1, _⟩
           · obtain ⟨y, hy, hyi, hym⟩ := h.pair x h1 e he
             refine ⟨y, (layV_mem h.rise).2 (.inl ⟨hy, fun c => ?_⟩), hyi, hym⟩
             have := h.rise.uniq hy hv (c.trans hvi.symm)
             subst this
             rw [hv0] at hym
             simp at hym
           · cases h1
     · rw [if_neg k2]
       by_cases k3 : o.kind = 3
       · rw [if_pos k3]
         exact h.same hv ((h.each v hv).setp hkey hval) rfl rfl
       · rw [if_neg k3]
         by_cases k4 : o.kind = 4
         · rw [if_pos k4]; exact h
         · rw [if_neg k4]
           by_cases k5 : o.kind = 5
           · rw [if_pos k5]
             have hb := hb (by unfold Opr.two; simp [k5])
             cases hu : findV L o.b with
             | none => exact h
             | some u =>
               obtain ⟨hum, hui⟩ := findV_mem hu
               simp only
               split
               · exact h
               · split
                 · exact h
                 · rename_i n1 n2
                   rw [← hui] at hb ⊢
                   rw [← hvi] at hb ⊢
                   exact h.two hv hum (Ne.symm hb.2) ((h.each v hv).set hb.1 hb.2 hval (by omega)) ((h.each u hum).set (by rw [hvi]; exact ha) (Ne.symm hb.2) hval (by omega))
           · rw [if_neg k5]
             by_cases k6 : o.kind = 6 ∨ o.kind = 7
             · rw [if_pos k6]
               have hb := hb (by unfold Opr.two; rcases k6 with k | k <;> simp [k])
               cases he : entX v.halves o.b with
               | none => exact h
               | some val =>
                 simp only
                 by_cases k7 : o.kind = 7
                 · rw [if_pos k7]; exact h
                 · rw [if_neg k7]
                   cases hu : findV L o.b with
                   | none =>
                     exfalso
                     obtain ⟨y, hy, hyi, _⟩ := h.pair v hv _ (entX_mem he)
                     exact findV_none.1 hu y hy hyi
                   | some u =>
                     obtain ⟨hum, hui⟩ := findV_mem hu
                     simp only
                     rw [← hui] at hb ⊢
                     rw [← hvi] at hb ⊢
                     exact h.two hv hum (Ne.symm hb.2) ((h.each v hv).cut _ _) ((h.each u hum).cut _ _)
             · rw [if_neg k6]
               split
               · exact h
               · split
                 · split
                   · exact h
                   · exact h
                 · exact h
theorem Good.run {ops : List Opr} : ∀ {L L' : Gr} {us vs : List Val}, Good L → (∀ o ∈ ops, opOK o = true) → ops.foldl okStep (some (L, us)) = some (L', vs) → Good L' := by
 induction ops with
 | nil => intro L L' us vs h _ e; simp at e; rw [← e.1]; exact h
 | cons o r ih =>
   intro L L' us vs h ho e
   rw [List.foldl_cons] at e
   by_cases hz : (oneG L o).e = 0
   · have : okStep (some (L, us)) o = some ((oneG L o).g, us ++ (oneG L o).vals) := by simp [okStep, hz]
     rw [this] at e
     exact ih (h.one (ho o (by simp))) (fun p hp => ho p (by simp [hp])) e
   · have : okStep (some (L, us)) o = none := by simp [okStep, hz]
     rw [this, okStep_none] at e
     cases e
theorem checkR_tx {r : Rqt} (h : checkR r = 0) (hk : r.kind = 1) : (∀ o ∈ r.ops, opOK o = true) ∧ 1 ≤ r.ops.length ∧ r.ops.length ≤ 6 := by
 unfold checkR at h
 split at h
 · cases h
 · split at h
   · cases h
   · split at h
     · cases h
     · rename_i h1 h2 h3
       refine ⟨fun o ho => ?_, by omega, by omega⟩
       rw [Bool.not_eq_false] at h3
       exact List.all_eq_true.1 h3 o ho
theorem Good.do {L : Gr} (h : Good L) (r : Rqt) : Good (doG L r).1 := by
 unfold doG
 split
 · exact h
 · rename_i hc
   split
   · rename_i hk
     cases hr : okRun L r.ops with
     | none => exact h
     | some p => exact Good.run (us := []) (vs := p.2) h (checkR_tx (by simpa using hc) hk).1 hr
   · split
     · exact h
     · split
       · exact h
       · exact h
theorem Good.tame {l : List Vs} (h : Good (l.map Vs.x)) : Tame l := by
 refine ⟨?_, ?_, fun s hs => ?_⟩
 · have := h.rise
   unfold Rising at this ⊢
   rw [List.pairwise_map] at this
   exact this
 · have := h.short; rw [List.length_map] at this; omega
 · have hg := h.each s.x (List.mem_map_of_mem hs)
   have := hg.props_short
   have := hg.few
   exact ⟨hg.there, by omega, by omega⟩
end Go.Proofs.YtpigipgoopeeoaaGreatDoor
