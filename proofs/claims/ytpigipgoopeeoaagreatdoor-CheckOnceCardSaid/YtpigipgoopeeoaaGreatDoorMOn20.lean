import Derived.Test.YtpigipgoopeeoaaGreatDoorMOn13
import Derived.Test.YtpigipgoopeeoaaGreatDoorMOn17
import Derived.Test.YtpigipgoopeeoaaGreatDoorMOn18
import Derived.Test.YtpigipgoopeeoaaGreatDoorMOn19
import Derived.Deep.OwnRows
set_option linter.unusedVariables false
set_option linter.unusedSimpArgs false
namespace Go.Proofs.YtpigipgoopeeoaaGreatDoor
open Go.RowKit
def farH (l : List Vs) (d : Nat) (f : List Nat) (k : Nat) : List Nat := if 0 ≤ atI l k ∧ f.getD (atI l k).toNat 1 = 0 then f.set (atI l k).toNat (d + 1) else f
def farX (l : List Vs) (d : Nat) (f : List Nat) (i : Nat) : List Nat := match l[i]? with
 | some s => if f.getD i 0 = d then (s.x.halves.map Ent.key).foldl (farH l d) f else f
 | none => f
def farD (l : List Vs) (d : Nat) (f : List Nat) : List Nat := (List.range l.length).foldl (farX l d) f
def farU (l : List Vs) (v : Nat) (k : Nat) : List Nat := (List.range k).foldl (fun f d => farD l (d + 1) f) ((List.replicate l.length 0).set (atI l v).toNat 1)
theorem farH_len (l : List Vs) (d : Nat) (f : List Nat) (k : Nat) : (farH l d f k).length = f.length := by unfold farH; split <;> simp
theorem farHs_len (l : List Vs) (d : Nat) : ∀ (t : List Nat) (f : List Nat), (t.foldl (farH l d) f).length = f.length
 | [], f => rfl
 | k :: r, f => by rw [List.foldl_cons, farHs_len l d r, farH_len]
theorem farX_len (l : List Vs) (d : Nat) (f : List Nat) (i : Nat) : (farX l d f i).length = f.length := by
 unfold farX
 split
 · split
   · exact farHs_len _ _ _ _
   · rfl
 · rfl
theorem farXs_len (l : List Vs) (d : Nat) : ∀ (t : List Nat) (f : List Nat), (t.foldl (farX l d) f).length = f.length
 | [], f => rfl
 | k :: r, f => by rw [List.foldl_cons, farXs_len l d r, farX_len]
theorem farU_succ (l : List Vs) (v k : Nat) : farU l v (k + 1) = farD l (k + 1) (farU l v k) := by
 unfold farU
 rw [List.range_succ, List.foldl_append]
 rfl
theorem farU_len (l : List Vs) (v k : Nat) : (farU l v k).length = l.length := by
 induction k with
 | zero => simp [farU]
 | succ k ih => rw [farU_succ, farD, farXs_len, ih]
theorem atI_cases (l : List Vs) (v : Nat) : atI l v = -1 ∨ ∃ j : Nat, j < l.length ∧ atI l v = (j : Int) := by
 unfold atI
 cases h : l.findIdx? (fun s => s.x.id == v) with
 | none => exact .inl rfl
 | some i =>
   rw [List.findIdx?_eq_some_iff_getElem] at h
   exact .inr ⟨i, h.1, rfl⟩
def farA (f : List Nat) : Array Value := (f.map fun x : Nat => Value.int .i64 (x : Int)).toArray
theorem farA_get (f : List Nat) (i : Nat) : (farA f)[i]? = f[i]?.map fun x : Nat => Value.int .i64 (x : Int) := by simp [farA]
theorem farA_set (f : List Nat) (i u : Nat) : (farA f).setIfInBounds i (.int .i64 (u : Int)) = farA (f.set i u) := by
 apply Array.ext'
 simp [farA, List.map_set]
structure WiAt (w : World) (b : Nat) (f : List Nat) (wx : World) : Prop where
 mod : Mod (fun _ => False) w wx
 box : wx.heap[b]? = some (.cells (farA f) 3 (0, 0))
 lo : w.heap.size ≤ b
theorem WiAt.keep {w wx wy : World} {b : Nat} {f : List Nat} (h : WiAt w b f wx) (m : Mod (fun _ => False) wx wy) : WiAt w b f wy := ⟨h.mod.trans m, m.heap h.box (fun f => f), h.lo⟩
theorem WiAt.set {w wx : World} {b : Nat} {f : List Nat} (h : WiAt w b f wx) (j u : Nat) : WiAt w b (f.set j u) (wx.setCell ⟨b, j, none⟩ (.int .i64 (u : Int))) :=
 ⟨h.mod.setCell (fun hlt => absurd hlt (Nat.not_lt.2 h.lo)) _, by rw [row_setCell h.box, farA_set], h.lo⟩
theorem WiAt.cell {w wx : World} {b : Nat} {f : List Nat} (h : WiAt w b f wx) {j u : Nat} (hj : f[j]? = some u) : wx.cell? ⟨b, j, none⟩ = some (.int .i64 (u : Int)) := by
 rw [cell_of_row h.box, farA_get, hj]; rfl
theorem infoInt : (Tryz.prog.info? 3).map (fun i => (i.zero, i.size, i.bytes)) = some (some (.int .i64 0), 1, 8) := by kernel_rfl
theorem made_far (n : Nat) : madeCells #[Value.int .i64 0] n = farA (List.replicate n 0) := by
 apply Array.ext
 · rw [size_madeCells]; simp [farA]
 · intro i h1 h2
   have h3 : i < n := by rw [size_madeCells] at h1; simpa using h1
   have e : (madeCells #[Value.int .i64 0] n)[i]? = some (Value.int .i64 0) := by simp [madeCells, h3, Nat.mod_one]
   have e2 : (farA (List.replicate n 0))[i]? = some (Value.int .i64 0) := by rw [farA_get]; simp [h3]
   rw [Array.getElem?_eq_getElem h1] at e
   rw [Array.getElem?_eq_getElem h2] at e2
   exact Option.some.inj (e.trans e2.symm)
theorem make_far (n : Nat) (hn : n ≤ 1000) (w : World) : (Instr.makeSlice 71 (.int .i64 (n : Int)) (.int .i64 (n : Int))).run Tryz.prog w = .ok (.slice (some ⟨w.heap.size, 0, none⟩) n n) (w.alloc (.cells (farA (List.replicate n 0)) 3)) := by
 rw [← made_far]
 exact run_make_row' 71 3 (.int .i64 0) 8 Tryz.underlying71 infoInt rfl .i64 .i64 n (by omega) (by omega) w
def withP (l : List Vs) (f : List Nat) (m : Nat) : List Nat := (List.range m).flatMap fun i => if 0 < f.getD i 0 then (l[i]?.map fun s => s.x.id).toList else []
theorem withP_succ (l : List Vs) (f : List Nat) (m : Nat) : withP l f (m + 1) = withP l f m ++ if 0 < f.getD m 0 then (l[m]?.map fun s => s.x.id).toList else [] := by
 unfold withP
 rw [List.range_succ, List.flatMap_append]
 simp
theorem withP_len (l : List Vs) (f : List Nat) (m : Nat) : (withP l f m).length ≤ m := by
 induction m with
 | zero => simp [withP]
 | succ m ih =>
   rw [withP_succ, List.length_append]
   have : (if 0 < f.getD m 0 then (l[m]?.map fun s => s.x.id).toList else []).length ≤ 1 := by
     split
     · cases l[m]? <;> simp
     · simp
   omega
def withU (l : List Vs) (v k : Nat) : List Nat := withP l (farU l v k) l.length
theorem withU_eq (l : List Vs) (v k : Nat) : withU l v k = withP l (farU l v k) l.length := rfl
set_option maxRecDepth 100000 in
set_option maxHeartbeats 4000000 in
theorem within_any (g : Nat) (gv : Value) (l : List Vs) (v K : Nat) (w : World) (hg : GrAt w g gv l) (hl : l.length ≤ 900) (hK : K ≤ 8) (hv : ∃ i : Nat, atI l v = (i : Int) ∧ i < l.length) :
   Calls Tryz.prog 24 #[.pointer (some ⟨g, 0, none⟩), .int .u32 (v : Int), .int .i64 (K : Int)] w fun e w' => ∃ vo, e = .returned vo ∧ SegN w w' vo (withU l v K) := by
 have HG := Lib.hid hg
 obtain ⟨i0, hi0, hi0l⟩ := hv
 have g0 := cell_of_row hg.box 0
 simp at g0
 have zg := lt_of_block hg.box
 obtain ⟨ag, cg, hve, hcg1, hcg2, -⟩ := hg.lst.row.shape
 subst hve
 obtain ⟨n, hn⟩ : ∃ n, n = l.length := ⟨_, rfl⟩
 have HN := Lib.hid hn
 rw [← hn] at g0 hcg1 HG hl hi0l
 have HAT : Hid (∀ (f : Nat) (w' : World), Mod (fun _ => False) w w' → Calls Tryz.prog 23 #[.pointer (some ⟨g, 0, none⟩), .int .u32 (f : Int)] w' fun e w'' => e = .returned (.int .i64 (atI l f)) ∧ Mod (fun _ => False) w' w'') := Lib.hid (fun f w' m => at_any g _ l f w' (HG.out.keep m))
 have HMK := Lib.hid (fun w' => make_far n (by omega) w')
 have HL := Lib.hid hl
 have hmk := make_far n (by omega) w
 have HU0 : Hid (WiAt w w.heap.size (List.replicate n 0) (w.alloc (.cells (farA (List.replicate n 0)) 3))) := Lib.hid ⟨(Mod.refl _ _).alloc _, heap_alloc_new' w _, Nat.le_refl _⟩
 have HI0 := Lib.hid hi0
 have HR0 : Hid ((List.replicate n 0)[i0]? = some 0) := Lib.hid (by simp [hi0l])
 have hn1 : (i0 : Int) < (n : Int) := by omega
 clear hg hn hl hi0
 go_enter Tryz.func24, Tryz.ntmps24
 go_wp2_with (go_at_call 23; refine (HAT.out v _ ((Mod.refl (fun _ => False) w).alloc _)).mono ?_; (rintro e w1 ⟨rfl, hm1⟩); rw [HI0.out]; have HU1 := Lib.hid (HU0.out.keep hm1); have p1 := HU1.out.cell HR0.out; have fz1 := free_of_row HU1.out.box i0; have z1 := lt_of_block HU1.out.box; clear hm1)
 obtain ⟨b, hb⟩ : ∃ b, b = w.heap.size := ⟨_, rfl⟩
 have HB := Lib.hid hb
 rw [← hb] at HU1 fz1 z1 p1 ⊢
 obtain ⟨W2, hW2⟩ : ∃ W2, W2 = w1.setCell ⟨b, i0, none⟩ (.int .i64 1) := ⟨_, rfl⟩
 have HU2 : Hid (WiAt w b (farU l v 0) W2) := Lib.hid (by
   have h := HU1.out.set i0 1
   rw [hW2]
   have e : farU l v 0 = (List.replicate n 0).set i0 1 := by unfold farU; rw [HI0.out, ← HN.out]; rfl
   rw [e]
   exact h)
 rw [← hW2]
 clear hb hW2 fz1 z1 p1 HU1 HU0 hmk HMK
 go_loopw [8] (fun d wr => ∃ k : Nat, d = .int .i64 ((k : Int) + 1) ∧ k ≤ K ∧ WiAt w b (farU l v k) wr) (fun d _ => K + 1 - (intOf d).toNat)
 case atStart => exact ⟨0, rfl, Nat.zero_le _, HU2.out⟩
 case round =>
   obtain ⟨k, rfl, hk, hu⟩ := hrel
   have HU := Lib.hid hu
   have g1 := hu.mod.cell g0
   have zg1 : g < wr.heap.size := Nat.lt_of_lt_of_le zg hu.mod.size
   clear hu HU2
   by_cases hkK : k < K
   · have hkK' : (k : Int) + 1 ≤ (K : Int) := by omega
     obtain ⟨W3, hW3⟩ : ∃ W3, W3 = wr := ⟨_, rfl⟩
     have HW3 : Hid (WiAt w b ((List.range 0).foldl (farX l (k + 1)) (farU l v k)) W3) := Lib.hid (by rw [hW3]; exact HU.out)
     subst hW3
     go_wp2
     go_loopw [38] (fun i wr => ∃ m : Nat, i = .int .i64 (m : Int) ∧ m ≤ n ∧ WiAt w b ((List.range m).foldl (farX l (k + 1)) (farU l v k)) wr) (fun i _ => n - (intOf i).toNat)
     case atStart => exact ⟨0, rfl, Nat.zero_le _, HW3.out⟩
     case round =>
       obtain ⟨m, rfl, hm, hu⟩ := hrel
       obtain ⟨f, hf⟩ : ∃ f, f = (List.range m).foldl (farX l (k + 1)) (farU l v k) := ⟨_, rfl⟩
       have HF : Hid (farX l (k + 1) f m = (List.range (m + 1)).foldl (farX l (k + 1)) (farU l v k)) := Lib.hid (by rw [List.range_succ, List.foldl_append, hf]; rfl)
       have HFL : Hid (f.length = n) := Lib.hid (by rw [hf, farXs_len, farU_len]; exact HN.out.symm)
       rw [← hf] at hu
       have HUM := Lib.hid hu
       have HFE0 := Lib.hid hf
       clear hu hf HW3
       by_cases hmn : m < n
       · obtain ⟨s, hs⟩ : ∃ s, l[m]? = some s := ⟨_, List.getElem?_eq_getElem (by rw [← HN.out]; exact hmn)⟩
         obtain ⟨bl, offl, e0, hbl, r0, r1, r2, r3⟩ := HG.out.lst.ent hs rfl
         have r0 := HUM.out.mod.cell r0
         have r1 := HUM.out.mod.cell r1
         have r2 := HUM.out.mod.cell r2
         have r3 := HUM.out.mod.cell r3
         have zbl : bl < wr.heap.size := Nat.lt_of_lt_of_le hbl HUM.out.mod.size
         have HVR := Lib.hid (HG.out.lst.at hs)
         have HFX : Hid (farX l (k + 1) f m = if f.getD m 0 = k + 1 then (s.x.halves.map Ent.key).foldl (farH l (k + 1)) f else f) := Lib.hid (by unfold farX; rw [hs])
         obtain ⟨fm, hfm⟩ : ∃ fm, f[m]? = some fm := ⟨_, List.getElem?_eq_getElem (by rw [HFL.out]; exact hmn)⟩
         have hfd : f.getD m 0 = fm := by rw [List.getD_eq_getElem?_getD, hfm]; rfl
         rw [hfd] at HFX
         have q0 := HUM.out.cell hfm
         have zb := lt_of_block HUM.out.box
         subst e0
         clear hs hbl hfm hfd
         obtain ⟨⟨id, thr, xs, ys⟩, vp, vh⟩ := s
         obtain ⟨np, ap, cp, rfl⟩ : ∃ np ap cp, vp = .slice ap np cp := by
           obtain ⟨a, c, e, _⟩ := HVR.out.props.shape
           exact ⟨_, _, _, e⟩
         obtain ⟨ah, ch, hvh, hch1, hch2⟩ : ∃ a c, vh = .slice a ys.length c ∧ ys.length ≤ c ∧ c ≤ 9223372036854775807 := by
           obtain ⟨a, c, e, h1, h2, _⟩ := HVR.out.halves.shape
           exact ⟨_, _, e, h1, h2⟩
         subst hvh
         obtain ⟨nh, hnh⟩ : ∃ nh, nh = ys.length := ⟨_, rfl⟩
         have HNH := Lib.hid hnh
         simp only at r0 r1 r2 r3 HFX
         rw [← hnh] at r3 hch1 HVR
         clear hnh
         by_cases hfk : fm = k + 1
         · subst hfk
           have HFX2 := Lib.hid (HFX.out.trans (if_pos rfl))
           have HA := Lib.hid (HUM.out.keep ((Mod.refl (fun _ => False) wr).alloc (.cells #[.int .u32 (id : Int), .bool thr, .slice ap np cp, .slice ah nh ch] 104)))
           have HTK0 : Hid (WiAt w b (((ys.map Ent.key).take 0).foldl (farH l (k + 1)) f) (wr.alloc (.cells #[.int .u32 (id : Int), .bool thr, .slice ap np cp, .slice ah nh ch] 104))) := HA
           clear HFX
           go_wp2
           go_loopw [52] (fun i wr => ∃ j : Nat, i = .int .i64 (j : Int) ∧ j ≤ nh ∧ WiAt w b (((ys.map Ent.key).take j).foldl (farH l (k + 1)) f) wr) (fun i _ => nh - (intOf i).toNat)
           case atStart => exact ⟨0, rfl, Nat.zero_le _, HTK0.out⟩
           case round =>
             obtain ⟨j, rfl, hj, hu⟩ := hrel
             obtain ⟨f2, hf2⟩ : ∃ f2, f2 = ((ys.map Ent.key).take j).foldl (farH l (k + 1)) f := ⟨_, rfl⟩
             have HF2 := Lib.hid hf2
             have HF2L : Hid (f2.length = n) := Lib.hid (by rw [hf2, farHs_len]; exact HFL.out)
             rw [← hf2] at hu
             have HUJ := Lib.hid hu
             clear hu hf2 HTK0 HA
             by_cases hjn : j < nh
             · obtain ⟨y, hy⟩ : ∃ y, ys[j]? = some y := ⟨_, List.getElem?_eq_getElem (by rw [← HNH.out]; exact hjn)⟩
               obtain ⟨bh, offh, e0, hbh, p0, p1, p2, p3⟩ := HVR.out.halves.ent2 hy (a := ah) (c := ch) (by rw [HNH.out])
               have p0 := HUJ.out.mod.cell p0
               have p1 := HUJ.out.mod.cell p1
               have p2 := HUJ.out.mod.cell p2
               have p3 := HUJ.out.mod.cell p3
               have zbh : bh < wr.heap.size := Nat.lt_of_lt_of_le hbh HUJ.out.mod.size
               have HTJ : Hid (((ys.map Ent.key).take (j + 1)).foldl (farH l (k + 1)) f = farH l (k + 1) f2 y.key) := Lib.hid (by
                 rw [take_snoc (x := y.key) (by rw [List.getElem?_map, hy]; rfl), List.foldl_append, ← HF2.out]; rfl)
               subst e0
               clear hy hbh
               obtain ⟨key, vk, vn, vs⟩ := y
               simp only at p0 p1 p2 p3 HTJ
               have HCA := Lib.hid (HAT.out key _ (HUJ.out.mod.alloc (.cells #[.int .u32 (key : Int), .int .u8 (vk : Int), .int .i64 vn, .string vs] 112)))
               have HUA := Lib.hid (HUJ.out.keep ((Mod.refl (fun _ => False) wr).alloc (.cells #[.int .u32 (key : Int), .int .u8 (vk : Int), .int .i64 vn, .string vs] 112)))
               rcases atI_cases l key with ha | ⟨q, hq, ha⟩
               · rw [ha] at HCA
                 have HFE : Hid (farH l (k + 1) f2 key = f2) := Lib.hid (by unfold farH; rw [ha]; simp)
                 clear ha
                 go_wp2_with (go_at_call 23; refine HCA.out.mono ?_; (rintro e w5 ⟨rfl, hm5⟩); have HU5 := Lib.hid (HUA.out.keep hm5); clear hm5)
                 go_roundw
                 case rel => exact ⟨j + 1, by go_num, by omega, by rw [HTJ.out, HFE.out]; exact HU5.out⟩
                 case measure => simp [intOf]; omega
               · rw [ha] at HCA
                 obtain ⟨fq, hfq⟩ : ∃ fq, f2[q]? = some fq := ⟨_, List.getElem?_eq_getElem (by rw [HF2L.out, HN.out]; exact hq)⟩
                 have HFE : Hid (farH l (k + 1) f2 key = if fq = 0 then f2.set q (k + 1 + 1) else f2) := Lib.hid (by
                   have e : f2.getD q 1 = fq := by rw [List.getD_eq_getElem?_getD, hfq]; rfl
                   unfold farH
                   rw [ha, Int.toNat_natCast, e]
                   simp)
                 have HFQ := Lib.hid hfq
                 have hqn : (q : Int) < (n : Int) := by rw [HN.out]; omega
                 clear ha hfq hq
                 by_cases hz : fq = 0
                 · subst hz
                   have HFE2 := Lib.hid (HFE.out.trans (if_pos rfl))
                   go_wp2_with (go_at_call 23; refine HCA.out.mono ?_; (rintro e w5 ⟨rfl, hm5⟩); have HU5 := Lib.hid (HUA.out.keep hm5); have p5 := HU5.out.cell HFQ.out; have p5f := free_of_row HU5.out.box q; have z5 := lt_of_block HU5.out.box; clear hm5)
                   go_roundw
                   case rel => exact ⟨j + 1, by go_num, by omega, by
                     rw [HTJ.out, HFE2.out]
                     have h := HU5.out.set q (k + 1 + 1)
                     exact h⟩
                   case measure => simp [intOf]; omega
                 · have HFE2 := Lib.hid (HFE.out.trans (if_neg hz))
                   have hz' : ((fq : Int) == 0) = false := by simp; omega
                   go_wp2_with (go_at_call 23; refine HCA.out.mono ?_; (rintro e w5 ⟨rfl, hm5⟩); have HU5 := Lib.hid (HUA.out.keep hm5); have p5 := HU5.out.cell HFQ.out; have z5 := lt_of_block HU5.out.box; clear hm5)
                   go_roundw
                   case rel => exact ⟨j + 1, by go_num, by omega, by rw [HTJ.out, HFE2.out]; exact HU5.out⟩
                   case measure => simp [intOf]; omega
             · have HEND : Hid (farX l (k + 1) f m = f2) := Lib.hid (by
                 rw [HFX2.out, HF2.out, List.take_of_length_le (by rw [List.length_map]; have := HNH.out; omega)])
               go_wp2
               go_roundw
               case rel => exact ⟨m + 1, by go_num, by omega, by rw [← HF.out, HEND.out]; exact HUJ.out⟩
               case measure => simp [intOf]; omega
         · have HFX2 := Lib.hid (HFX.out.trans (if_neg hfk))
           have hfk' : ((fm : Int) == (k : Int) + 1) = false := by simp; omega
           have hfk'' : (fm : Int) ≠ (k : Int) + 1 := by omega
           have HA := Lib.hid (HUM.out.keep ((Mod.refl (fun _ => False) wr).alloc (.cells #[.int .u32 (id : Int), .bool thr, .slice ap np cp, .slice ah nh ch] 104)))
           go_wp2
           go_roundw
           case rel => exact ⟨m + 1, by go_num, by omega, by rw [← HF.out, HFX2.out]; exact HA.out⟩
           case measure => simp [intOf]; omega
       · obtain rfl : m = n := by omega
         have HEND : Hid (farU l v (k + 1) = f) := Lib.hid (by
           rw [farU_succ, farD, ← HN.out]
           exact HFE0.out.symm)
         go_wp2
         go_roundw
         case rel => exact ⟨k + 1, by go_num, by omega, by rw [HEND.out]; exact HUM.out⟩
         case measure => simp [intOf]; omega
   · obtain rfl : k = K := by omega
     have hkK' : ¬ (k : Int) + 1 ≤ (k : Int) := by omega
     have HS0 : Hid (SegN w wr (.slice none 0 0) []) := Lib.hid (SegN.nil HU.out.mod)
     obtain ⟨i1, hi1, hz0, hz1, hz2⟩ := info_parts infoU32
     have HI : Hid (Tryz.prog.info? 32 = some i1 ∧ i1.zero = some (.int .u32 0) ∧ i1.size = 1 ∧ i1.bytes = 4) := ⟨hi1, hz0, hz1, hz2⟩
     clear hi1 hz0 hz1 hz2
     obtain ⟨fu, hfu⟩ : ∃ fu, fu = farU l v k := ⟨_, rfl⟩
     have HFU := Lib.hid hfu
     have HFL : Hid (fu.length = n) := Lib.hid (by rw [hfu, farU_len]; exact HN.out.symm)
     rw [← hfu] at HU
     clear hfu
     obtain ⟨W4, hW4⟩ : ∃ W4, W4 = wr := ⟨_, rfl⟩
     rw [← hW4] at HU HS0
     subst hW4
     have HS1 : Hid (SegN w W4 (.slice none 0 0) (withP l fu 0)) := HS0
     go_wp2
     go_loopw [81, 14] (fun i o wr => ∃ m : Nat, i = .int .i64 (m : Int) ∧ m ≤ n ∧ WiAt w b fu wr ∧ SegN w wr o (withP l fu m) ∧ ∀ c, o.ownBlock = some c → c ≠ b) (fun i _ _ => n - (intOf i).toNat)
     case atStart => exact ⟨0, rfl, Nat.zero_le _, HU.out, HS1.out, fun c hc => by simp [Value.ownBlock] at hc⟩
     case round =>
       obtain ⟨m, rfl, hm, hu, hs, hob⟩ := hrel
       have HUM := Lib.hid hu
       have HO := Lib.hid hs
       have HOB := Lib.hid hob
       clear hu hs hob HU HS0 HS1
       obtain ⟨os, hos⟩ : ∃ os, os = withP l fu m := ⟨_, rfl⟩
       have HOS := Lib.hid hos
       have HLE : Hid (os.length ≤ m) := Lib.hid (by rw [hos]; exact withP_len l fu m)
       rw [← hos] at HO
       clear hos
       obtain ⟨ao, co, hvv⟩ : ∃ ao co, u14 = .slice ao os.length co := by
         obtain ⟨a, c, e, _⟩ := HO.out.seg.rdS.shape
         exact ⟨_, _, e⟩
       subst hvv
       obtain ⟨no, hno⟩ : ∃ no, no = os.length := ⟨_, rfl⟩
       have HNO := Lib.hid hno
       have HRW : Hid (Seg wr 32 1 (.slice ao no co) no (os.map (keyV .u32))) := Lib.hid (by have h := HO.out.seg; rwa [← hno] at h)
       rw [← hno] at HLE HO HOB ⊢
       clear hno
       by_cases hmn : m < n
       · obtain ⟨s, hs⟩ : ∃ s, l[m]? = some s := ⟨_, List.getElem?_eq_getElem (by rw [← HN.out]; exact hmn)⟩
         obtain ⟨bl, offl, e0, hbl, r0, r1, r2, r3⟩ := HG.out.lst.ent hs rfl
         have r0 := HUM.out.mod.cell r0
         have r1 := HUM.out.mod.cell r1
         have r2 := HUM.out.mod.cell r2
         have r3 := HUM.out.mod.cell r3
         have zbl : bl < wr.heap.size := Nat.lt_of_lt_of_le hbl HUM.out.mod.size
         have HVR := Lib.hid (HG.out.lst.at hs)
         obtain ⟨fm, hfm⟩ : ∃ fm, fu[m]? = some fm := ⟨_, List.getElem?_eq_getElem (by rw [HFL.out]; exact hmn)⟩
         have HWP : Hid (withP l fu (m + 1) = os ++ if 0 < fm then [s.x.id] else []) := Lib.hid (by
           have hfd : fu.getD m 0 = fm := by rw [List.getD_eq_getElem?_getD, hfm]; rfl
           rw [withP_succ, ← HOS.out, hfd, hs]
           rfl)
         have q0 := HUM.out.cell hfm
         have zb := lt_of_block HUM.out.box
         subst e0
         clear hs hbl hfm
         obtain ⟨⟨id, thr, xs, ys⟩, vp, vh⟩ := s
         obtain ⟨np, ap, cp, rfl⟩ : ∃ np ap cp, vp = .slice ap np cp := by
           obtain ⟨a, c, e, _⟩ := HVR.out.props.shape
           exact ⟨_, _, _, e⟩
         obtain ⟨nh, ah, ch, rfl⟩ : ∃ np ap cp, vh = .slice ap np cp := by
           obtain ⟨a, c, e, _⟩ := HVR.out.halves.shape
           exact ⟨_, _, _, e⟩
         simp only at r0 r1 r2 r3 HWP
         clear HVR
         obtain ⟨wq, hwq⟩ : ∃ wq, wq = wr.alloc (.cells #[.int .u32 (id : Int), .bool thr, .slice ap np cp, .slice ah nh ch] 104) := ⟨_, rfl⟩
         have HMQ : Hid (Mod (fun _ => False) wr wq) := Lib.hid (by rw [hwq]; exact (Mod.refl _ _).alloc _)
         have HWQ := Lib.hid hwq
         have HUQ := Lib.hid (HUM.out.keep HMQ.out)
         have HOQ := Lib.hid (HO.out.keep HMQ.out)
         clear hwq
         by_cases hf0 : 0 < fm
         · have hf0' : (0 : Int) < (fm : Int) := by omega
           have HWP2 : Hid (withP l fu (m + 1) = os ++ [id]) := Lib.hid (by rw [HWP.out, if_pos hf0])
           have HRW1 : Hid (Seg (wq.alloc (.cells #[.int .u32 (id : Int)] 32)) 32 1 (.slice ao no co) no (os.map (keyV .u32))) := Lib.hid (HRW.out.mod (HMQ.out.alloc _) (fun _ _ f => f))
           have HSX := Lib.hid (src_cells (w := wq) (n0 := wr.heap.size + 1) (by rw [HWQ.out]; simp) (size := 1) 32 #[.int .u32 (id : Int)] rfl (by simp [Value.oneCell']))
           have HBQ : Hid (b < wq.heap.size) := Lib.hid (lt_of_block HUQ.out.box)
           rw [HWQ.out] at HRW1 HSX
           go_wp2_with (at_builtin; refine wpList_append_seg rfl (.tmp 91) (.tmp 94) 37 rfl i1 _ 1 4 Tryz.underlying37 HI.out.1 HI.out.2.1 HI.out.2.2.1 HI.out.2.2.2 rfl (by decide) rfl HRW1.out _ 1 _ rfl HSX.out (by have := HLE.out; have := HL.out; unfold maxLen; omega) (by have := HLE.out; have := HL.out; omega) ?_; intro v4 w4 hs4 hg4 ho4; rw [← HWQ.out] at hg4 ho4; have H4 := Lib.hid (HOQ.out.snoc (k := id) (by rw [← HNO.out]; exact hs4) hg4 ho4); have HU4 : Hid (WiAt w b fu w4) := Lib.hid ⟨H4.out.mod, grown_heap hg4 (heap_alloc_old HUQ.out.box) HOB.out, HUQ.out.lo⟩; have HOB4 : Hid (∀ c, v4.ownBlock = some c → c ≠ b) := Lib.hid (fun c hc => by rcases ho4 with e | e; exact HOB.out c (e ▸ hc); rw [e] at hc; simp at hc; have := HBQ.out; omega); (obtain ⟨a4, c4, n4, rfl⟩ : ∃ a c n, v4 = .slice a n c := (by obtain ⟨a, c, e, _⟩ := hs4.shape; exact ⟨_, _, _, e⟩)); clear hs4 hg4 ho4)
           go_roundw
           case rel => exact ⟨m + 1, by go_num, by omega, HU4.out, by rw [HWP2.out]; exact H4.out, HOB4.out⟩
           case measure => simp [intOf]; omega
         · have hf0' : ¬ (0 : Int) < (fm : Int) := by omega
           have HWP2 : Hid (withP l fu (m + 1) = os) := Lib.hid (by rw [HWP.out, if_neg hf0, List.append_nil])
           rw [HWQ.out] at HUQ HOQ
           go_wp2
           go_roundw
           case rel => exact ⟨m + 1, by go_num, by omega, HUQ.out, by rw [HWP2.out]; exact HOQ.out, HOB.out⟩
           case measure => simp [intOf]; omega
       · obtain rfl : m = n := by omega
         go_wp2
         go_ret
         refine ⟨_, rfl, ?_⟩
         rw [withU_eq, ← HFU.out, ← HN.out, ← HOS.out]
         exact HO.out
theorem atI_iff {l : List Vs} (hr : Rising keyS l) {j : Nat} {s : Vs} (hj : l[j]? = some s) (k : Nat) : atI l k = (j : Int) ↔ s.x.id = k := by
 constructor
 · intro h
   unfold atI at h
   cases hf : l.findIdx? (fun s => s.x.id == k) with
   | none => rw [hf] at h; simp at h
   | some i =>
     rw [hf] at h
     have e : i = j := by have h' : (i : Int) = (j : Int) := by { simpa using h }; omega
     subst e
     rw [List.findIdx?_eq_some_iff_getElem] at hf
     obtain ⟨h1, h2, -⟩ := hf
     have : l[i] = s := by rw [List.getElem?_eq_getElem h1] at hj; injection hj
     rw [this] at h2
     simpa using h2
 · intro h
   refine atI_some hj h (fun t ht e => ?_)
   obtain ⟨i, hi, rfl⟩ := List.mem_take_iff_getElem.1 ht
   obtain ⟨h1, h2⟩ := List.getElem?_eq_some_iff.1 hj
   have hij : i < j := by omega
   have := (List.pairwise_iff_getElem.1 hr) i j (by omega) h1 hij
   rw [h2] at this
   unfold keyS at this
   omega
theorem farH_get {l : List Vs} (hr : Rising keyS l) {d k : Nat} {f : List Nat} (hf : f.length = l.length) {j : Nat} {s : Vs} (hj : l[j]? = some s) :
   (farH l d f k).getD j 0 = if f.getD j 0 = 0 ∧ s.x.id = k then d + 1 else f.getD j 0 := by
 have hjl : j < l.length := (List.getElem?_eq_some_iff.1 hj).1
 unfold farH
 by_cases e : s.x.id = k
 · have ha := (atI_iff hr hj k).2 e
   rw [ha]
   have e2 : (f.getD j 1 = 0) ↔ f.getD j 0 = 0 := by simp [List.getD_eq_getElem?_getD, List.getElem?_eq_getElem (show j < f.length by omega)]
   by_cases h0 : f.getD j 0 = 0
   · have c : (0 : Int) ≤ (j : Int) ∧ f.getD ((j : Int).toNat) 1 = 0 := ⟨by omega, by simpa using e2.2 h0⟩
     rw [if_pos c, if_pos ⟨h0, e⟩]
     simp [List.getD_eq_getElem?_getD, List.getElem?_set, show j < f.length by omega]
   · have c : ¬ ((0 : Int) ≤ (j : Int) ∧ f.getD ((j : Int).toNat) 1 = 0) := fun h => h0 (e2.1 (by simpa using h.2))
     rw [if_neg c, if_neg (fun h => h0 h.1)]
 · rw [if_neg (fun h : f.getD j 0 = 0 ∧ s.x.id = k => e h.2)]
   by_cases h : 0 ≤ atI l k ∧ f.getD (atI l k).toNat 1 = 0
   · rw [if_pos h]
     obtain ⟨i, hi⟩ : ∃ i : Nat, atI l k = (i : Int) := ⟨(atI l k).toNat, by omega⟩
     have hne : i ≠ j := by
       intro c
       subst c
       exact e ((atI_iff hr hj k).1 hi)
     rw [hi]
     simp [List.getD_eq_getElem?_getD, List.getElem?_set, hne]
   · rw [if_neg h]
theorem farHs_get {l : List Vs} (hr : Rising keyS l) {d : Nat} {j : Nat} {s : Vs} (hj : l[j]? = some s) : ∀ (t : List Nat) {f : List Nat}, f.length = l.length →
   (t.foldl (farH l d) f).getD j 0 = if f.getD j 0 = 0 ∧ s.x.id ∈ t then d + 1 else f.getD j 0
 | [], f, hf => by simp
 | k :: r, f, hf => by
   rw [List.foldl_cons, farHs_get hr hj r (by rw [farH_len]; exact hf), farH_get hr hf hj]
   by_cases h0 : f.getD j 0 = 0
   · by_cases e : s.x.id = k
     · simp only [List.getD_eq_getElem?_getD] at *; simp [h0, e]
     · simp only [List.getD_eq_getElem?_getD] at *; simp [h0, e]
   · simp only [List.getD_eq_getElem?_getD] at *; simp [h0]
def farQ (l : List Vs) (d : Nat) (f : List Nat) (m x : Nat) : Prop := ∃ i s, i < m ∧ f.getD i 0 = d ∧ l[i]? = some s ∧ x ∈ s.x.halves.map Ent.key
theorem farXs_get {l : List Vs} (hr : Rising keyS l) {d : Nat} (hd : 1 ≤ d) {j : Nat} {s : Vs} (hj : l[j]? = some s) {f : List Nat} (hf : f.length = l.length) : ∀ m, m ≤ l.length →
   (farQ l d f m s.x.id ∧ f.getD j 0 = 0 → ((List.range m).foldl (farX l d) f).getD j 0 = d + 1) ∧ (¬ (farQ l d f m s.x.id ∧ f.getD j 0 = 0) → ((List.range m).foldl (farX l d) f).getD j 0 = f.getD j 0)
 | 0, _ => ⟨fun h => by obtain ⟨⟨i, s, h1, _⟩, _⟩ := h; omega, fun _ => rfl⟩
 | m + 1, hm => by
   obtain ⟨ih1, ih2⟩ := farXs_get hr hd hj hf m (by omega)
   obtain ⟨s', hs'⟩ : ∃ s', l[m]? = some s' := ⟨l[m], List.getElem?_eq_getElem (by omega)⟩
   obtain ⟨jh1, jh2⟩ := farXs_get hr hd hs' hf m (by omega)
   have hlen : ((List.range m).foldl (farX l d) f).length = l.length := by rw [farXs_len, hf]
   have hc : ((List.range m).foldl (farX l d) f).getD m 0 = d ↔ f.getD m 0 = d := by
     by_cases c : farQ l d f m s'.x.id ∧ f.getD m 0 = 0
     · rw [jh1 c, c.2]; constructor <;> intro h <;> omega
     · rw [jh2 c]
   rw [List.range_succ, List.foldl_append, List.foldl_cons, List.foldl_nil]
   generalize (List.range m).foldl (farX l d) f = F at *
   have hX : farX l d F m = if F.getD m 0 = d then (s'.x.halves.map Ent.key).foldl (farH l d) F else F := by unfold farX; rw [hs']
   have hE : farQ l d f (m + 1) s.x.id ↔ farQ l d f m s.x.id ∨ (f.getD m 0 = d ∧ s.x.id ∈ s'.x.halves.map Ent.key) := by
     constructor
     · rintro ⟨i, t, h1, h2, h3, h4⟩
       by_cases c : i = m
       · subst c
         rw [hs'] at h3
         injection h3 with h3
         subst h3
         exact .inr ⟨h2, h4⟩
       · exact .inl ⟨i, t, by omega, h2, h3, h4⟩
     · rintro (⟨i, t, h1, h2, h3, h4⟩ | ⟨h1, h2⟩)
       · exact ⟨i, t, by omega, h2, h3, h4⟩
       · exact ⟨m, s', by omega, h1, hs', h2⟩
   rw [hX, hE]
   by_cases c : f.getD m 0 = d
   · rw [if_pos (hc.2 c), farHs_get hr hj _ hlen]
     by_cases h0 : f.getD j 0 = 0
     · by_cases h1 : farQ l d f m s.x.id
       · refine ⟨fun _ => ?_, fun n => absurd ⟨.inl h1, h0⟩ n⟩
         rw [ih1 ⟨h1, h0⟩, if_neg (fun h => by omega)]
       · have e := ih2 (fun h => h1 h.1)
         rw [e, h0]
         by_cases h2 : s.x.id ∈ s'.x.halves.map Ent.key
         · exact ⟨fun _ => if_pos ⟨rfl, h2⟩, fun n => absurd ⟨.inr ⟨c, h2⟩, rfl⟩ n⟩
         · exact ⟨fun n => (n.1.elim (fun n => absurd n h1) (fun n => absurd n.2 h2)), fun _ => if_neg (fun n => h2 n.2)⟩
     · rw [ih2 (fun h => h0 h.2)]
       exact ⟨fun h => absurd h.2 h0, fun _ => if_neg (fun n => h0 n.1)⟩
   · rw [if_neg (fun h => c (hc.1 h))]
     refine ⟨fun ⟨h, h0⟩ => ih1 ⟨h.elim id (fun n => absurd n.1 c), h0⟩, fun h => ih2 (fun n => h ⟨.inl n.1, n.2⟩)⟩
theorem nearG_up {L : Gr} {v x : Nat} {d e : Nat} (h : nearG L v d x = true) (hde : d ≤ e) : nearG L v e x = true := by
 induction e with
 | zero => have : d = 0 := by omega
           subst this; exact h
 | succ e ih =>
   by_cases c : d = e + 1
   · subst c; exact h
   · rw [nearG, ih (by omega), Bool.true_or]
theorem nearG_step {L : Gr} {v d x : Nat} : nearG L v (d + 1) x = true ↔ nearG L v d x = true ∨ ∃ y ∈ L, nearG L v d y.id = true ∧ x ∈ y.halves.map Ent.key := by
 rw [nearG, Bool.or_eq_true, List.any_eq_true]
 simp only [Bool.and_eq_true, List.any_eq_true, beq_iff_eq, List.mem_map]
def FarOK (l : List Vs) (v k : Nat) (f : List Nat) : Prop := ∀ j s, l[j]? = some s →
 (f.getD j 0 = 0 ∧ nearG (l.map Vs.x) v k s.x.id = false) ∨ ∃ u, u ≤ k ∧ f.getD j 0 = u + 1 ∧ nearG (l.map Vs.x) v u s.x.id = true ∧ ∀ u' < u, nearG (l.map Vs.x) v u' s.x.id = false
theorem farU_ok {l : List Vs} (hr : Rising keyS l) {v : Nat} (hv : ∃ i : Nat, atI l v = (i : Int) ∧ i < l.length) : ∀ k, FarOK l v k (farU l v k)
 | 0 => by
   intro j s hj
   obtain ⟨i, hi, hil⟩ := hv
   have hjl : j < l.length := (List.getElem?_eq_some_iff.1 hj).1
   unfold farU
   rw [hi]
   by_cases c : i = j
   · subst c
     right
     refine ⟨0, by omega, by simp [List.getD_eq_getElem?_getD, hjl], ?_, by omega⟩
     simp [nearG, (atI_iff hr hj v).1 hi]
   · left
     refine ⟨by simp [List.getD_eq_getElem?_getD, List.getElem?_set, c, hjl], ?_⟩
     have : ¬ s.x.id = v := fun e => by
       have := (atI_iff hr hj v).2 e
       rw [hi] at this
       omega
     simpa [nearG] using this
 | k + 1 => by
   have ih := farU_ok hr hv k
   have hlen : (farU l v k).length = l.length := farU_len l v k
   rw [farU_succ]
   generalize farU l v k = f at ih hlen
   intro j s hj
   obtain ⟨h1, h2⟩ := farXs_get hr (d := k + 1) (by omega) hj hlen l.length (Nat.le_refl _)
   unfold farD
   rcases ih j s hj with ⟨a, b⟩ | ⟨u, a, b, c, d⟩
   · by_cases hE : farQ l (k + 1) f l.length s.x.id
     · right
       refine ⟨k + 1, by omega, h1 ⟨hE, a⟩, ?_, fun u' hu => ?_⟩
       · obtain ⟨i, t, e1, e2, e3, e4⟩ := hE
         rw [nearG_step]
         right
         refine ⟨t.x, List.mem_map_of_mem (List.mem_of_getElem? e3), ?_, e4⟩
         rcases ih i t e3 with ⟨f1, _⟩ | ⟨u, f1, f2, f3, _⟩
         · omega
         · have : u = k := by omega
           subst this; exact f3
       · cases hn : nearG (l.map Vs.x) v u' s.x.id with
         | false => rfl
         | true => rw [nearG_up hn (show u' ≤ k by omega)] at b; cases b
     · left
       refine ⟨by rw [h2 (fun h => hE h.1)]; exact a, ?_⟩
       cases hn : nearG (l.map Vs.x) v (k + 1) s.x.id with
       | false => rfl
       | true =>
         rcases nearG_step.1 hn with c | ⟨y, hy, c1, c2⟩
         · rw [b] at c; cases c
         · obtain ⟨t, ht, rfl⟩ := List.mem_map.1 hy
           obtain ⟨i, hi, hti⟩ := List.mem_iff_getElem.1 ht
           have hi2 : l[i]? = some t := by rw [List.getElem?_eq_getElem hi, hti]
           rcases ih i t hi2 with ⟨_, f2⟩ | ⟨u, f1, f2, f3, _⟩
           · rw [c1] at f2; cases f2
           · by_cases cu : u = k
             · subst cu
               exact absurd ⟨i, t, hi, f2, hi2, c2⟩ hE
             · have : nearG (l.map Vs.x) v (u + 1) s.x.id = true := nearG_step.2 (.inr ⟨_, hy, f3, c2⟩)
               rw [nearG_up this (show u + 1 ≤ k by omega)] at b
               cases b
   · right
     refine ⟨u, by omega, ?_, c, d⟩
     rw [h2 (fun h => by omega)]; exact b
theorem withP_near {l : List Vs} {v k : Nat} {f : List Nat} (h : FarOK l v k f) : ∀ m, m ≤ l.length → withP l f m = (((l.take m).map Vs.x).filter fun x => nearG (l.map Vs.x) v k x.id).map Vtx.id
 | 0, _ => by simp [withP]
 | m + 1, hm => by
   obtain ⟨s, hs⟩ : ∃ s, l[m]? = some s := ⟨l[m], List.getElem?_eq_getElem (by omega)⟩
   rw [withP_succ, withP_near h m (by omega), take_snoc hs, List.map_append, List.filter_append, List.map_append, hs]
   congr 1
   rcases h m s hs with ⟨a, b⟩ | ⟨u, a, b, c, d⟩
   · rw [if_neg (by omega)]
     simp [b]
   · rw [if_pos (by omega)]
     simp [nearG_up c a]
theorem withU_near {l : List Vs} (hr : Rising keyS l) {v k : Nat} (hv : ∃ i : Nat, atI l v = (i : Int) ∧ i < l.length) : withU l v k = withinG (l.map Vs.x) v k := by
 rw [withU_eq, withP_near (farU_ok hr hv k) l.length (Nat.le_refl _), List.take_length]
 rfl
open Go.RowKit
theorem one_any (g : Nat) (v : Value) (l : List Vs) (o : Opr) (w : World) (hg : GrAt w g v l) (ht : Tame l) (hf : o.Fits) (ho : opOK o = true) :
   Calls Tryz.prog 26 #[.pointer (some ⟨g, 0, none⟩), o.v] w (OneP g l o w) := by
 obtain ⟨hk, -, hab, -, -⟩ := opOK_parts ho
 obtain ⟨kind, a, b, key, vk, vn, vs⟩ := o
 simp only at hk
 cases ha : findV (l.map Vs.x) a with
 | none =>
   by_cases h1 : kind = 1
   · subst h1; exact one_1 g v l a b key vk vn vs w hg ht hf
   · exact one_none g v l kind a b key vk vn vs w hg ht hf h1 ha
 | some x =>
   have hks : kind = 1 ∨ kind = 2 ∨ kind = 3 ∨ kind = 4 ∨ kind = 5 ∨ kind = 6 ∨ kind = 7 ∨ kind = 8 ∨ kind = 9 := by omega
   rcases hks with rfl | rfl | rfl | rfl | rfl | rfl | rfl | rfl | rfl
   · exact one_1 g v l a b key vk vn vs w hg ht hf
   · exact one_2 g v l a b key vk vn vs w hg ht hf x ha
   · exact one_3 g v l a b key vk vn vs w hg ht hf x ha
   · exact one_4 g v l a b key vk vn vs w hg ht hf x ha
   · cases hb : findV (l.map Vs.x) b with
     | none => exact one_5none g v l a b key vk vn vs w hg ht hf x ha hb
     | some u => exact one_5 g v l a b key vk vn vs w hg ht hf x ha u hb
   · cases hb : findV (l.map Vs.x) b with
     | none => exact one_6a g v l a b key vk vn vs w hg ht hf x ha hb
     | some u => exact one_6b g v l a b key vk vn vs w hg ht hf x ha u hb (Lib.hid (fun e => (hab (by simp [Opr.two])).2 e.symm))
   · exact one_7 g v l a b key vk vn vs w hg ht hf x ha
   · exact one_8 g v l a b key vk vn vs w hg ht hf x ha
   · exact one_9 g v l a b key vk vn vs w hg ht hf x ha
end Go.Proofs.YtpigipgoopeeoaaGreatDoor
