import Derived.Test.YtpigipgoopeeoaaGreatDoorMOn06
set_option linter.unusedVariables false
set_option linter.unusedSimpArgs false
namespace Go.Proofs.YtpigipgoopeeoaaGreatDoor
open Go.RowKit
def layS {α : Type} (key : α → Nat) (x : α) (s : List α × Bool) (y : α) : List α × Bool :=
 (s.1 ++ (if !s.2 && decide (key x < key y) then [x] else []) ++ (if key y = key x then [] else [y]), s.2 || decide (key x < key y))
def layT {α : Type} (key : α → Nat) (x : α) (d : Bool) (t : List α) : List α × Bool := t.foldl (layS key x) ([], d)
def layG {α : Type} (key : α → Nat) (x : α) : Bool → List α → List α
 | d, [] => if d then [] else [x]
 | d, y :: r => (if !d && decide (key x < key y) then [x] else []) ++ (if key y = key x then [] else [y]) ++ layG key x (d || decide (key x < key y)) r
section
variable {α : Type} (key : α → Nat) (x : α)
theorem layT_snoc (d : Bool) (t : List α) (y : α) : layT key x d (t ++ [y]) = layS key x (layT key x d t) y := by simp [layT]
theorem layF (t : List α) : ∀ (o : List α) (d : Bool), (if (t.foldl (layS key x) (o, d)).2 then (t.foldl (layS key x) (o, d)).1 else (t.foldl (layS key x) (o, d)).1 ++ [x]) = o ++ layG key x d t := by
 induction t with
 | nil => intro o d; cases d <;> simp [layG]
 | cons y r ih =>
   intro o d
   rw [List.foldl_cons]
   refine (ih _ _).trans ?_
   simp only [layG, List.append_assoc]
theorem layT_end (d : Bool) (t : List α) : (if (layT key x d t).2 then (layT key x d t).1 else (layT key x d t).1 ++ [x]) = layG key x d t :=
 (layF key x t [] d).trans (List.nil_append _)
theorem layS_length (s : List α × Bool) (y : α) : (layS key x s y).1.length + (if (layS key x s y).2 then 0 else 1) ≤ s.1.length + (if s.2 then 0 else 1) + 1 := by
 unfold layS
 obtain ⟨o, d⟩ := s
 by_cases h1 : key x < key y <;> by_cases h2 : key y = key x <;> cases d <;> simp [h1, h2] <;> omega
theorem layT_length (d : Bool) (t : List α) : (layT key x d t).1.length + (if (layT key x d t).2 then 0 else 1) ≤ t.length + 1 := by
 have gen : ∀ (t : List α) (s : List α × Bool), (t.foldl (layS key x) s).1.length + (if (t.foldl (layS key x) s).2 then 0 else 1) ≤ s.1.length + (if s.2 then 0 else 1) + t.length := by
   intro t
   induction t with
   | nil => intro s; exact Nat.le_refl _
   | cons y r ih =>
     intro s
     rw [List.foldl_cons]
     have h1 := ih (layS key x s y)
     have h2 := layS_length key x s y
     simp only [List.length_cons]
     omega
 have := gen t ([], d)
 unfold layT
 cases d <;> simp at this ⊢ <;> omega
end
structure GrAt (w : World) (g : Nat) (v : Value) (ls : List Vs) : Prop where
 box : w.heap[g]? = some (.cells #[v] 28 (0, 0))
 lst : LRd w v ls
theorem GrAt.keep {w w' : World} {g : Nat} {v : Value} {ls : List Vs} (h : GrAt w g v ls) (m : Mod (fun _ => False) w w') : GrAt w' g v ls := ⟨m.heap h.box (fun f => f), h.lst.keep m⟩
def atI (l : List Vs) (v : Nat) : Int := match l.findIdx? (fun s => s.x.id == v) with
 | some i => (i : Int)
 | none => -1
theorem atI_some {l : List Vs} {v k : Nat} {x : Vs} (hx : l[k]? = some x) (hv : x.x.id = v) (hb : ∀ s ∈ l.take k, s.x.id ≠ v) : atI l v = k := by
 obtain ⟨h1, h2⟩ := List.getElem?_eq_some_iff.1 hx
 have : l.findIdx? (fun s => s.x.id == v) = some k := by
   rw [List.findIdx?_eq_some_iff_getElem]
   refine ⟨h1, by rw [h2]; simpa using hv, fun j hj => ?_⟩
   have := hb (l[j]) (by rw [List.mem_take_iff_getElem]; exact ⟨j, by omega, rfl⟩)
   simpa using this
 unfold atI
 rw [this]
theorem atI_none {l : List Vs} {v : Nat} (hb : ∀ s ∈ l, s.x.id ≠ v) : atI l v = -1 := by
 have : l.findIdx? (fun s => s.x.id == v) = none := by
   rw [List.findIdx?_eq_none_iff]
   intro s hs
   simpa using hb s hs
 unfold atI
 rw [this]
set_option maxRecDepth 100000 in
set_option maxHeartbeats 1000000 in
theorem at_any (g : Nat) (v : Value) (l : List Vs) (f : Nat) (w : World) (hg : GrAt w g v l) :
   Calls Tryz.prog 23 #[.pointer (some ⟨g, 0, none⟩), .int .u32 (f : Int)] w fun e w' => e = .returned (.int .i64 (atI l f)) ∧ Mod (fun _ => False) w w' := by
 have HV := Lib.hid hg.lst
 obtain ⟨a, c, rfl, hc1, hc2, -⟩ := hg.lst.row.shape
 have g0 := cell_of_row hg.box 0
 simp at g0
 obtain ⟨n, hn⟩ : ∃ n, n = l.length := ⟨_, rfl⟩
 have HN := Lib.hid hn
 rw [← hn] at HV hc1 g0
 clear hn hg
 go_enter Tryz.func23, Tryz.ntmps23
 go_wp2
 go_loopw [12] (fun i wr => ∃ k : Nat, i = .int .i64 k ∧ k ≤ n ∧ (∀ s ∈ l.take k, s.x.id ≠ f) ∧ Mod (fun _ => False) w wr) (fun i _ => n - (intOf i).toNat)
 case atStart => exact ⟨0, rfl, Nat.zero_le _, by simp, Mod.refl _ _⟩
 case round =>
   obtain ⟨k, rfl, hk, hh, hm⟩ := hrel
   have HM := Lib.hid hm
   have HH := Lib.hid hh
   clear hm hh
   by_cases hkn : k < n
   · obtain ⟨x, hx⟩ : ∃ x, l[k]? = some x := ⟨_, List.getElem?_eq_getElem (by rw [← HN.out]; exact hkn)⟩
     obtain ⟨b, off, e0, hb, r0, r1, r2, r3⟩ := HV.out.ent hx rfl
     have r0 := HM.out.cell r0
     have r1 := HM.out.cell r1
     have r2 := HM.out.cell r2
     have r3 := HM.out.cell r3
     have zb : b < wr.heap.size := Nat.lt_of_lt_of_le hb HM.out.size
     have HVR := Lib.hid (HV.out.at hx)
     have HTK := Lib.hid (take_snoc hx)
     have HIN : Hid (x.x.id = f → atI l f = k) := Lib.hid (fun e => atI_some hx e HH.out)
     clear hx hb
     obtain ⟨⟨id, there, xs, ys⟩, vp, vh⟩ := x
     obtain ⟨np, ap, cp, rfl⟩ : ∃ np ap cp, vp = .slice ap np cp := by
       obtain ⟨a, c, e, _⟩ := HVR.out.props.shape
       exact ⟨_, _, _, e⟩
     obtain ⟨nh, ah, ch, rfl⟩ : ∃ np ap cp, vh = .slice ap np cp := by
       obtain ⟨a, c, e, _⟩ := HVR.out.halves.shape
       exact ⟨_, _, _, e⟩
     simp only at r0 r1 r2 r3 HIN
     subst e0
     clear HVR
     have HM2 := Lib.hid (HM.out.alloc (.cells #[.int .u32 (id : Int), .bool there, .slice ap np cp, .slice ah nh ch] 104))
     by_cases hi : id = f
     · have HE := Lib.hid (HIN.out hi)
       subst hi
       go_wp2
       go_ret
       exact ⟨by rw [HE.out]; rfl, HM2.out⟩
     · have hi' : (id : Int) ≠ (f : Int) := by omega
       go_wp2
       go_roundw
       case rel => exact ⟨k + 1, by go_num, by omega, fun s hs => by
         rw [HTK.out] at hs
         rcases List.mem_append.1 hs with hs | hs
         · exact HH.out s hs
         · rw [List.mem_singleton] at hs; subst hs; exact hi, HM2.out⟩
       case measure => simp [intOf]; omega
   · have HE : Hid (atI l f = -1) := Lib.hid (atI_none (by
       have h := HH.out
       rwa [List.take_of_length_le (by have := HN.out; omega)] at h))
     go_wp2
     go_ret
     exact ⟨by rw [HE.out]; rfl, HM.out⟩
open Go.RowKit
def noVal : Val := ⟨0, 0, ⟨#[]⟩⟩
def entX (l : List Ent) (f : Nat) : Option Val := (l.find? fun e => e.key == f).map Ent.val
theorem entX_some {l : List Ent} {f k : Nat} {y : Ent} (hx : l[k]? = some y) (hv : y.key = f) (hb : ∀ s ∈ l.take k, s.key ≠ f) : entX l f = some y.val := by
 obtain ⟨h1, h2⟩ := List.getElem?_eq_some_iff.1 hx
 have : l.find? (fun e => e.key == f) = some y := by
   rw [List.find?_eq_some_iff_getElem]
   refine ⟨by simpa using hv, k, h1, h2, fun j hj => ?_⟩
   have := hb (l[j]) (by rw [List.mem_take_iff_getElem]; exact ⟨j, by omega, rfl⟩)
   simpa using this
 unfold entX
 rw [this]
 rfl
theorem entX_none {l : List Ent} {f : Nat} (hb : ∀ s ∈ l, s.key ≠ f) : entX l f = none := by
 have : l.find? (fun e => e.key == f) = none := by
   rw [List.find?_eq_none]
   intro s hs
   simpa using hb s hs
 unfold entX
 rw [this]
 rfl
structure RtAt (w : World) (wx : World) : Prop where
 mod : Mod (fun _ => False) w wx
 ret : wx.heap[w.heap.size + 1]? = some (.cells #[.int .u8 0, .int .i64 0, zval] 77 (0, 0))
theorem RtAt.begin (w : World) (o : Array Value) : RtAt w ((w.alloc (.cells o 104)).alloc (.cells #[.int .u8 0, .int .i64 0, zval] 77)) :=
 ⟨((Mod.refl _ _).alloc _).alloc _, by
   have h := heap_alloc_new' (w.alloc (.cells o 104)) (.cells #[.int .u8 0, .int .i64 0, zval] 77)
   simpa using h⟩
theorem RtAt.more {w wx wy : World} (h : RtAt w wx) (m : Mod (fun _ => False) wx wy) : RtAt w wy := ⟨h.mod.trans m, m.heap h.ret (fun f => f)⟩
set_option maxRecDepth 100000 in
set_option maxHeartbeats 2000000 in
theorem dhalf_any (x : Vtx) (vp vh : Value) (f : Nat) (w : World) (hx : VRd w vp vh x) :
   Calls Tryz.prog 51 #[vtxV x vp vh, .int .u32 (f : Int)] w fun e w' => e = .returned (.tuple #[((entX x.halves f).getD noVal).v, .bool (entX x.halves f).isSome]) ∧ Mod (fun _ => False) w w' := by
 obtain ⟨id, there, ps, hs⟩ := x
 obtain ⟨ap, cp, rfl, -⟩ := hx.props.shape
 obtain ⟨ah, ch, rfl, hc1, hc2, -⟩ := hx.halves.shape
 have HH := Lib.hid hx.halves
 simp only at hc1 HH
 clear hx
 simp only [vtxV]
 generalize ps.length = np
 obtain ⟨n, hn⟩ : ∃ n, n = hs.length := ⟨_, rfl⟩
 have HN := Lib.hid hn
 rw [← hn] at HH hc1 ⊢
 clear hn
 have HB := Lib.hid (RtAt.begin w #[.int .u32 (id : Int), .bool there, .slice ap np cp, .slice ah n ch])
 go_enter Tryz.func51, Tryz.ntmps51
 go_wp2
 go_loopw [11] (fun i wr => ∃ k : Nat, i = .int .i64 k ∧ k ≤ n ∧ (∀ s ∈ hs.take k, s.key ≠ f) ∧ RtAt w wr) (fun i _ => n - (intOf i).toNat)
 case atStart => exact ⟨0, rfl, Nat.zero_le _, by simp, HB.out⟩
 case round =>
   obtain ⟨k, rfl, hk, hh, hm⟩ := hrel
   have HM := Lib.hid hm
   have HK := Lib.hid hh
   have r0 := cell_of_row hm.ret 0
   have r1 := cell_of_row hm.ret 1
   have r2 := cell_of_row hm.ret 2
   have f0 := free_of_row hm.ret 0
   have f1 := free_of_row hm.ret 1
   have f2 := free_of_row hm.ret 2
   have zr := lt_of_block hm.ret
   simp at r0 r1 r2
   have HFIN : Hid (∀ (wy : World) (u0 u1 u2 : Value), Mod (fun _ => False) wr wy → Mod (fun _ => False) w (((wy.setCell ⟨w.heap.size + 1, 0, none⟩ u0).setCell ⟨w.heap.size + 1, 1, none⟩ u1).setCell ⟨w.heap.size + 1, 2, none⟩ u2)) := Lib.hid (fun wy u0 u1 u2 m => by
     have hlt : ¬ (w.heap.size + 1 < w.heap.size) := by omega
     exact (((HM.out.mod.trans m).setCell (fun h => absurd h hlt) _).setCell (fun h => absurd h hlt) _).setCell (fun h => absurd h hlt) _)
   clear hm hh HB
   by_cases hkn : k < n
   · obtain ⟨y, hy⟩ : ∃ x, hs[k]? = some x := ⟨_, List.getElem?_eq_getElem (by rw [← HN.out]; exact hkn)⟩
     obtain ⟨b, off, e0, hb, p0, p1, p2, p3⟩ := HH.out.ent2 hy rfl
     have p0 := HM.out.mod.cell p0
     have p1 := HM.out.mod.cell p1
     have p2 := HM.out.mod.cell p2
     have p3 := HM.out.mod.cell p3
     have zb : b < wr.heap.size := Nat.lt_of_lt_of_le hb HM.out.mod.size
     have HTK := Lib.hid (take_snoc hy)
     have HIN : Hid (y.key = f → entX hs f = some y.val) := Lib.hid (fun e => entX_some hy e HK.out)
     clear hy hb
     obtain ⟨key, ⟨vk, vn, vs⟩⟩ := y
     simp only at p0 p1 p2 p3 HIN
     subst e0
     have HM2 := Lib.hid (HM.out.more ((Mod.refl (fun _ => False) wr).alloc (.cells #[.int .u32 (key : Int), .int .u8 (vk : Int), .int .i64 vn, .string vs] 112)))
     by_cases hi : key = f
     · have HE := Lib.hid (HIN.out hi)
       subst hi
       have hr := heap_alloc_old (o' := .cells #[.int .u32 (key : Int), .int .u8 (vk : Int), .int .i64 vn, .string vs] 112) (row_setCell (row_setCell (row_setCell HM.out.ret 0 (.int .u8 (vk : Int))) 1 (.int .i64 vn)) 2 (.string vs))
       have q0 := cell_of_row hr 0
       have q1 := cell_of_row hr 1
       have q2 := cell_of_row hr 2
       simp at q0 q1 q2
       go_wp2
       refine bodyPost_ret (v := .tuple #[.agg #[.int .u8 (vk : Int), .int .i64 vn, .string vs], .bool true]) (by simp [results, Tryz.results51, go_sem, q0, q1, q2]) rfl ⟨?_, ?_⟩
       · rw [HE.out]; rfl
       · exact (HFIN.out _ _ _ _ (Mod.refl _ _)).alloc _
     · have hi' : (key : Int) ≠ (f : Int) := by omega
       go_wp2
       go_roundw
       case rel => exact ⟨k + 1, by go_num, by omega, fun s hs => by
         rw [HTK.out] at hs
         rcases List.mem_append.1 hs with hs | hs
         · exact HK.out s hs
         · rw [List.mem_singleton] at hs; subst hs; exact hi, HM2.out⟩
       case measure => simp [intOf]; omega
   · have HE : Hid (entX hs f = none) := Lib.hid (entX_none (by
       have h := HK.out
       rwa [List.take_of_length_le (by have := HN.out; omega)] at h))
     go_wp2
     refine bodyPost_ret (v := .tuple #[.agg #[.int .u8 0, .int .i64 0, zval], .bool false]) (by simp [results, Tryz.results51, go_sem, r0, r1, r2, zval]) rfl ⟨?_, ?_⟩
     · rw [HE.out]; rfl
     · exact HFIN.out _ _ _ _ (Mod.refl _ _)
set_option maxRecDepth 100000 in
set_option maxHeartbeats 2000000 in
theorem dprop_any (x : Vtx) (vp vh : Value) (f : Nat) (w : World) (hx : VRd w vp vh x) :
   Calls Tryz.prog 53 #[vtxV x vp vh, .int .u8 (f : Int)] w fun e w' => e = .returned ((entX x.props f).getD noVal).v ∧ Mod (fun _ => False) w w' := by
 obtain ⟨id, there, hs, ps⟩ := x
 obtain ⟨ap, cp, rfl, -⟩ := hx.halves.shape
 obtain ⟨ah, ch, rfl, hc1, hc2, -⟩ := hx.props.shape
 have HH := Lib.hid hx.props
 simp only at hc1 HH
 clear hx
 simp only [vtxV]
 generalize ps.length = np
 obtain ⟨n, hn⟩ : ∃ n, n = hs.length := ⟨_, rfl⟩
 have HN := Lib.hid hn
 rw [← hn] at HH hc1 ⊢
 clear hn
 have HB := Lib.hid (RtAt.begin w #[.int .u32 (id : Int), .bool there, .slice ah n ch, .slice ap np cp])
 go_enter Tryz.func53, Tryz.ntmps53
 go_wp2
 go_loopw [10] (fun i wr => ∃ k : Nat, i = .int .i64 k ∧ k ≤ n ∧ (∀ s ∈ hs.take k, s.key ≠ f) ∧ RtAt w wr) (fun i _ => n - (intOf i).toNat)
 case atStart => exact ⟨0, rfl, Nat.zero_le _, by simp, HB.out⟩
 case round =>
   obtain ⟨k, rfl, hk, hh, hm⟩ := hrel
   have HM := Lib.hid hm
   have HK := Lib.hid hh
   have r0 := cell_of_row hm.ret 0
   have r1 := cell_of_row hm.ret 1
   have r2 := cell_of_row hm.ret 2
   have f0 := free_of_row hm.ret 0
   have f1 := free_of_row hm.ret 1
   have f2 := free_of_row hm.ret 2
   have zr := lt_of_block hm.ret
   simp at r0 r1 r2
   have HFIN : Hid (∀ (wy : World) (u0 u1 u2 : Value), Mod (fun _ => False) wr wy → Mod (fun _ => False) w (((wy.setCell ⟨w.heap.size + 1, 0, none⟩ u0).setCell ⟨w.heap.size + 1, 1, none⟩ u1).setCell ⟨w.heap.size + 1, 2, none⟩ u2)) := Lib.hid (fun wy u0 u1 u2 m => by
     have hlt : ¬ (w.heap.size + 1 < w.heap.size) := by omega
     exact (((HM.out.mod.trans m).setCell (fun h => absurd h hlt) _).setCell (fun h => absurd h hlt) _).setCell (fun h => absurd h hlt) _)
   clear hm hh HB
   by_cases hkn : k < n
   · obtain ⟨y, hy⟩ : ∃ x, hs[k]? = some x := ⟨_, List.getElem?_eq_getElem (by rw [← HN.out]; exact hkn)⟩
     obtain ⟨b, off, e0, hb, p0, p1, p2, p3⟩ := HH.out.ent2 hy rfl
     have p0 := HM.out.mod.cell p0
     have p1 := HM.out.mod.cell p1
     have p2 := HM.out.mod.cell p2
     have p3 := HM.out.mod.cell p3
     have zb : b < wr.heap.size := Nat.lt_of_lt_of_le hb HM.out.mod.size
     have HTK := Lib.hid (take_snoc hy)
     have HIN : Hid (y.key = f → entX hs f = some y.val) := Lib.hid (fun e => entX_some hy e HK.out)
     clear hy hb
     obtain ⟨key, ⟨vk, vn, vs⟩⟩ := y
     simp only at p0 p1 p2 p3 HIN
     subst e0
     have HM2 := Lib.hid (HM.out.more ((Mod.refl (fun _ => False) wr).alloc (.cells #[.int .u8 (key : Int), .int .u8 (vk : Int), .int .i64 vn, .string vs] 145)))
     by_cases hi : key = f
     · have HE := Lib.hid (HIN.out hi)
       subst hi
       have hr := heap_alloc_old (o' := .cells #[.int .u8 (key : Int), .int .u8 (vk : Int), .int .i64 vn, .string vs] 145) (row_setCell (row_setCell (row_setCell HM.out.ret 0 (.int .u8 (vk : Int))) 1 (.int .i64 vn)) 2 (.string vs))
       have q0 := cell_of_row hr 0
       have q1 := cell_of_row hr 1
       have q2 := cell_of_row hr 2
       simp at q0 q1 q2
       go_wp2
       refine bodyPost_ret (v := .agg #[.int .u8 (vk : Int), .int .i64 vn, .string vs]) (by simp [results, Tryz.results53, go_sem, q0, q1, q2]) rfl ⟨?_, ?_⟩
       · rw [HE.out]; rfl
       · exact (HFIN.out _ _ _ _ (Mod.refl _ _)).alloc _
     · have hi' : (key : Int) ≠ (f : Int) := by omega
       go_wp2
       go_roundw
       case rel => exact ⟨k + 1, by go_num, by omega, fun s hs => by
         rw [HTK.out] at hs
         rcases List.mem_append.1 hs with hs | hs
         · exact HK.out s hs
         · rw [List.mem_singleton] at hs; subst hs; exact hi, HM2.out⟩
       case measure => simp [intOf]; omega
   · have HE : Hid (entX hs f = none) := Lib.hid (entX_none (by
       have h := HK.out
       rwa [List.take_of_length_le (by have := HN.out; omega)] at h))
     go_wp2
     refine bodyPost_ret (v := .agg #[.int .u8 0, .int .i64 0, zval]) (by simp [results, Tryz.results53, go_sem, r0, r1, r2, zval]) rfl ⟨?_, ?_⟩
     · rw [HE.out]; rfl
     · exact HFIN.out _ _ _ _ (Mod.refl _ _)
structure Opr where
 kind : Nat
 a : Nat
 b : Nat
 key : Nat
 val : Val
structure Rqt where
 kind : Nat
 ops : List Opr
 v : Nat
 k : Int
 dest : Int
structure Ans where
 e : Nat
 at_ : Nat
 vals : List Val
 list : List Nat
def Opr.two (o : Opr) : Bool := decide (o.kind = 5) || decide (o.kind = 6) || decide (o.kind = 7)
def Opr.hasKey (o : Opr) : Bool := decide (o.kind = 3) || decide (o.kind = 4) || decide (o.kind = 9)
def Opr.hasVal (o : Opr) : Bool := decide (o.kind = 3) || decide (o.kind = 5) || decide (o.kind = 9)
def opOK (o : Opr) : Bool :=
 decide (1 ≤ o.kind) && decide (o.kind ≤ 9) && numB o.a && (if o.two then numB o.b && decide (o.b ≠ o.a) else decide (o.b = 0)) &&
 (if o.hasKey then decide (o.key ≤ 3) else decide (o.key = 0)) && (if o.hasVal then o.val.ok else decide (o.val = noVal))
def checkR (r : Rqt) : Nat :=
 if r.kind < 1 ∨ 3 < r.kind ∨ (r.kind = 2 ∧ (r.k < 0 ∨ 8 < r.k)) ∨ (r.kind = 3 ∧ (r.dest < 0 ∨ 3 < r.dest)) then 1
 else if r.kind = 1 then
   if r.ops.length < 1 ∨ 6 < r.ops.length then 2
   else if r.ops.all opOK = false then 3
   else if r.v ≠ 0 ∨ r.k ≠ 0 ∨ r.dest ≠ 0 then 3 else 0
 else if 0 < r.ops.length ∨ numB r.v = false ∨ (r.kind = 2 ∧ r.dest ≠ 0) ∨ (r.kind = 3 ∧ r.k ≠ 0) then 3 else 0
abbrev Gr := List Vtx
def findV (L : Gr) (v : Nat) : Option Vtx := L.find? fun x => x.id == v
def layV (x : Vtx) (L : Gr) : Gr := layG Vtx.id x (!x.there) L
def propV (x : Vtx) (k : Nat) : Val := (entX x.props k).getD noVal
def setP (x : Vtx) (k : Nat) (v : Val) : Vtx := { x with props := layG Ent.key ⟨k, v⟩ (decide (v.k = 0)) x.props }
def setH (x : Vtx) (f : Nat) (v : Val) (there : Bool) : Vtx := { x with halves := layG Ent.key ⟨f, v⟩ (!there) x.halves }
structure One where
 e : Nat
 g : Gr
 vals : List Val
def oneG (L : Gr) (o : Opr) : One :=
 if o.kind = 1 then
   if (findV L o.a).isSome then ⟨7, L, []⟩ else ⟨0, layV ⟨o.a, true, [], []⟩ L, []⟩
 else match findV L o.a with
 | none => ⟨6, L, []⟩
 | some v =>
   if o.kind = 2 then (if 0 < v.halves.length then ⟨8, L, []⟩ else ⟨0, layV ⟨o.a, false, [], []⟩ L, []⟩)
   else if o.kind = 3 then ⟨0, layV (setP v o.key o.val) L, []⟩
   else if o.kind = 4 then ⟨0, L, [propV v o.key]⟩
   else if o.kind = 5 then
     match findV L o.b with
     | none => ⟨6, L, []⟩
     | some u =>
       if (entX v.halves o.b).isSome then ⟨7, L, []⟩
       else if 16 ≤ v.halves.length ∨ 16 ≤ u.halves.length then ⟨10, L, []⟩
       else ⟨0, layV (setH u o.a o.val true) (layV (setH v o.b o.val true) L), []⟩
   else if o.kind = 6 ∨ o.kind = 7 then
     match entX v.halves o.b with
     | none => ⟨6, L, []⟩
     | some val =>
       if o.kind = 7 then ⟨0, L, [val]⟩
       else match findV L o.b with
         | none => ⟨0, layV (setH v o.b noVal false) L, []⟩
         | some u => ⟨0, layV (setH u o.a noVal false) (layV (setH v o.b noVal false) L), []⟩
   else if o.kind = 8 then ⟨0, L, [⟨1, (v.halves.length : Int), ⟨#[]⟩⟩]⟩
   else if o.kind = 9 then (if propV v o.key = o.val then ⟨0, L, []⟩ else ⟨9, L, []⟩)
   else ⟨0, L, []⟩
def okStep (s : Option (Gr × List Val)) (o : Opr) : Option (Gr × List Val) :=
 s.bind fun p => if (oneG p.1 o).e = 0 then some ((oneG p.1 o).g, p.2 ++ (oneG p.1 o).vals) else none
def okRun (L : Gr) (ops : List Opr) : Option (Gr × List Val) := ops.foldl okStep (some (L, []))
def failG : Gr → Nat → List Opr → Nat × Nat
 | _, i, [] => (0, i)
 | L, i, o :: r => if (oneG L o).e = 0 then failG (oneG L o).g (i + 1) r else ((oneG L o).e, i)
def nearG (L : Gr) (v : Nat) : Nat → Nat → Bool
 | 0, x => x == v
 | d + 1, x => nearG L v d x || L.any fun y => nearG L v d y.id && (y.halves.any fun h => h.key == x)
def withinG (L : Gr) (v k : Nat) : List Nat := (L.filter fun x => nearG L v k x.id).map Vtx.id
def doG (L : Gr) (r : Rqt) : Gr × Ans :=
 if checkR r ≠ 0 then (L, ⟨checkR r, 0, [], []⟩)
 else if r.kind = 1 then
   match okRun L r.ops with
   | some p => (p.1, ⟨0, 0, p.2, []⟩)
   | none => (L, ⟨(failG L 0 r.ops).1, (failG L 0 r.ops).2, [], []⟩)
 else if (findV L r.v).isNone then (L, ⟨6, 0, [], []⟩)
 else if r.kind = 2 then (L, ⟨0, 0, [], withinG L r.v r.k.toNat⟩)
 else (L, ⟨0, 0, [], []⟩)
theorem okRun_snoc (L : Gr) (ops : List Opr) (o : Opr) : okRun L (ops ++ [o]) = okStep (okRun L ops) o := by simp [okRun]
theorem okStep_none (t : List Opr) : t.foldl okStep none = none := by
 induction t with
 | nil => rfl
 | cons o r ih => rw [List.foldl_cons]; exact ih
theorem fail_at : ∀ (pre : List Opr) (L : Gr) (us : List Val) (i : Nat) (o : Opr) (post : List Opr) (L' : Gr) (vs : List Val),
   pre.foldl okStep (some (L, us)) = some (L', vs) → (oneG L' o).e ≠ 0 → failG L i (pre ++ o :: post) = ((oneG L' o).e, i + pre.length) ∧ (pre ++ o :: post).foldl okStep (some (L, us)) = none
 | [], L, us, i, o, post, L', vs, h, he => by
   simp at h
   obtain ⟨rfl, rfl⟩ := h
   refine ⟨by simp [failG, he], ?_⟩
   rw [List.nil_append, List.foldl_cons]
   have : okStep (some (L, us)) o = none := by simp [okStep, he]
   rw [this, okStep_none]
 | p :: pre, L, us, i, o, post, L', vs, h, he => by
   rw [List.foldl_cons] at h
   by_cases hp : (oneG L p).e = 0
   · have e : okStep (some (L, us)) p = some ((oneG L p).g, us ++ (oneG L p).vals) := by simp [okStep, hp]
     rw [e] at h
     obtain ⟨h1, h2⟩ := fail_at pre _ _ (i + 1) o post L' vs h he
     refine ⟨?_, ?_⟩
     · rw [List.cons_append, failG, if_pos hp, h1, List.length_cons]
       congr 1; omega
     · rw [List.cons_append, List.foldl_cons, e, h2]
   · have e : okStep (some (L, us)) p = none := by simp [okStep, hp]
     rw [e, okStep_none] at h
     cases h
theorem okRun_fail {L L' : Gr} {ops : List Opr} {k : Nat} {o : Opr} {vs : List Val} (h : okRun L (ops.take k) = some (L', vs)) (ho : ops[k]? = some o) (he : (oneG L' o).e ≠ 0) :
   okRun L ops = none ∧ failG L 0 ops = ((oneG L' o).e, k) := by
 obtain ⟨hk, hx⟩ := List.getElem?_eq_some_iff.1 ho
 have e : ops = ops.take k ++ o :: ops.drop (k + 1) := by
   rw [← hx, ← List.drop_eq_getElem_cons hk, List.take_append_drop]
 obtain ⟨h1, h2⟩ := fail_at (ops.take k) L [] 0 o (ops.drop (k + 1)) L' vs h he
 rw [← e] at h1 h2
 exact ⟨h2, by rw [h1, List.length_take]; congr 1; omega⟩
theorem okRun_next {L L' : Gr} {ops : List Opr} {k : Nat} {o : Opr} {vs : List Val} (h : okRun L (ops.take k) = some (L', vs)) (ho : ops[k]? = some o) (he : (oneG L' o).e = 0) :
   okRun L (ops.take (k + 1)) = some ((oneG L' o).g, vs ++ (oneG L' o).vals) := by
 rw [take_snoc ho, okRun_snoc, h]
 simp [okStep, he]
section
variable {α : Type} {key : α → Nat}
def Rising (key : α → Nat) (l : List α) : Prop := l.Pairwise fun x y => key x < key y
theorem layG_done (x : α) : ∀ l : List α, layG key x true l = l.filter fun y => !decide (key y = key x)
 | [] => rfl
 | y :: r => by
   rw [layG, Bool.true_or, layG_done x r, List.filter_cons]
   by_cases h : key y = key x <;> simp [h]
theorem filter_ne_self {x : α} {l : List α} (h : ∀ y ∈ l, key y ≠ key x) : (l.filter fun y => !decide (key y = key x)) = l := by
 rw [List.filter_eq_self]
 intro y hy
 simpa using h y hy
theorem layG_open (x : α) : ∀ l : List α, Rising key l → layG key x false l = l.filter (fun y => decide (key y < key x)) ++ x :: l.filter (fun y => decide (key x < key y))
 | [], _ => by simp [layG]
 | y :: r, h => by
   obtain ⟨h1, h2⟩ := List.pairwise_cons.1 h
   rcases Nat.lt_trichotomy (key y) (key x) with c | c | c
   · have n1 : ¬ key x < key y := by omega
     have n2 : ¬ key y = key x := by omega
     rw [layG, show (false || decide (key x < key y)) = false by simp [n1], layG_open x r h2]
     simp [n1, n2, c]
   · have n1 : ¬ key x < key y := by omega
     have n2 : ¬ key y < key x := by omega
     rw [layG, show (false || decide (key x < key y)) = false by simp [n1], layG_open x r h2]
     simp [n1, n2, c]
   · have n2 : ¬ key y = key x := by omega
     have n3 : ¬ key y < key x := by omega
     have g : ∀ z ∈ r, key x < key z := fun z hz => by have := h1 z hz; omega
     have e1 : r.filter (fun y => decide (key y < key x)) = [] := by
       rw [List.filter_eq_nil_iff]; intro z hz; have := g z hz; simp; omega
     have e2 : r.filter (fun y => decide (key x < key y)) = r := by
       rw [List.filter_eq_self]; intro z hz; simpa using g z hz
     rw [layG]
     have e3 : layG key x (false || decide (key x < key y)) r = r := by
       have : (false || decide (key x < key y)) = true := by simp [c]
       rw [this, layG_done, filter_ne_self (fun z hz => by have := g z hz; omega)]
     rw [e3]
     simp [c, n2, n3, e1, e2]
theorem layG_mem {x y : α} {d : Bool} {l : List α} (h : Rising key l) : y ∈ layG key x d l ↔ (y ∈ l ∧ key y ≠ key x) ∨ (d = false ∧ y = x) := by
 cases d with
 | true => rw [layG_done]; simp
 | false =>
   rw [layG_open x l h]
   simp only [List.mem_append, List.mem_filter, List.mem_cons, decide_eq_true_eq, true_and]
   constructor
   · rintro (⟨h1, h2⟩ | rfl | ⟨h1, h2⟩)
     · exact .inl ⟨h1, by omega⟩
     · exact .inr rfl
     · exact .inl ⟨h1, by omega⟩
   · rintro (⟨h1, h2⟩ | rfl)
     · rcases Nat.lt_or_gt_of_ne h2 with c | c
       · exact .inl ⟨h1, c⟩
       · exact .inr (.inr ⟨h1, c⟩)
     · exact .inr (.inl rfl)
theorem Rising.lay {x : α} {d : Bool} {l : List α} (h : Rising key l) : Rising key (layG key x d l) := by
 cases d with
 | true => rw [layG_done]; exact List.Pairwise.filter _ h
 | false =>
   rw [layG_open x l h]
   unfold Rising
   rw [List.pairwise_append]
   refine ⟨List.Pairwise.filter _ h, List.pairwise_cons.2 ⟨fun y hy => ?_, List.Pairwise.filter _ h⟩, fun a ha b hb => ?_⟩
   · simpa using (List.mem_filter.1 hy).2
   · have h1 : key a < key x := by simpa using (List.mem_filter.1 ha).2
     rcases List.mem_cons.1 hb with rfl | hb
     · exact h1
     · have h2 : key x < key b := by simpa using (List.mem_filter.1 hb).2
       omega
theorem Rising.uniq {l : List α} (h : Rising key l) {x y : α} (hx : x ∈ l) (hy : y ∈ l) (e : key x = key y) : x = y := by
 induction l with
 | nil => cases hx
 | cons z r ih =>
   obtain ⟨h1, h2⟩ := List.pairwise_cons.1 h
   rcases List.mem_cons.1 hx with rfl | hx' <;> rcases List.mem_cons.1 hy with rfl | hy'
   · rfl
   · have := h1 y hy'; omega
   · have := h1 x hx'; omega
   · exact ih h2 hx' hy'
theorem rising_bound {l : List α} (h : Rising key l) {b m : Nat} (hb : ∀ x ∈ l, b ≤ key x ∧ key x < m) : b + l.length ≤ m ∨ l = [] := by
 induction l generalizing b with
 | nil => exact .inr rfl
 | cons x r ih =>
   obtain ⟨h1, h2⟩ := List.pairwise_cons.1 h
   have hx := hb x (by simp)
   rcases ih (b := b + 1) h2 (fun y hy => by have := h1 y hy; have := hb y (by simp [hy]); omega) with c | c
   · left; simp only [List.length_cons]; omega
   · subst c; left; simp; omega
end
end Go.Proofs.YtpigipgoopeeoaaGreatDoor
