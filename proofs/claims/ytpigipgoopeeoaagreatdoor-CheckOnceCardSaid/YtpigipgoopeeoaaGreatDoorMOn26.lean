import Derived.Test.YtpigipgoopeeoaaGreatDoorMOn25
set_option linter.unusedVariables false
set_option linter.unusedSimpArgs false
namespace Go.Proofs.YtpigipgoopeeoaaGreatDoor
open Go.RowKit Go.Maps
theorem seg_one (w : World) (v : Nat) : Seg (w.alloc (.cells #[.int .u32 (v : Int)] 32)) 32 1 (.slice (some ⟨w.heap.size, 0, none⟩) 1 1) 1 [.int .u32 (v : Int)] :=
 ⟨rfl, by simp [Value.oneCell'], .inr ⟨w.heap.size, 0, 1, _, rfl, heap_alloc_new' _ _, Nat.le_refl _, by decide, by simp, rfl⟩⟩
theorem infoU32h : (Tryz.prog.info? 32).map (fun i => (i.zero, i.size, i.bytes)) = some (some (.int .u32 0), 1, 4) := by kernel_rfl
structure Go1 (L : Gr) (ks ks' nx : List Nat) (E : Nat → Prop) : Prop where
 seen : ∀ x, x ∈ ks' ↔ x ∈ ks ∨ E x
 next : ∀ x, x ∈ nx ↔ x ∈ ks' ∧ x ∉ ks
 nodup : nx.Nodup
theorem nodup_len {l1 l2 : List Nat} (h : l1.Nodup) (hs : ∀ x ∈ l1, x ∈ l2) : l1.length ≤ l2.length := by
 induction l1 generalizing l2 with
 | nil => simp
 | cons x r ih =>
   obtain ⟨h1, h2⟩ := List.nodup_cons.1 h
   have hx : x ∈ l2 := hs x (by simp)
   have := ih (l2 := l2.erase x) h2 (fun y hy => (List.mem_erase_of_ne (fun e => h1 (by rw [← e]; exact hy))).2 (hs y (by simp [hy])))
   rw [List.length_erase_of_mem hx] at this
   have := List.length_pos_of_mem hx
   simp only [List.length_cons]
   omega
theorem Go1.len {L : Gr} {ks ks' nx : List Nat} {E : Nat → Prop} (h : Go1 L ks ks' nx E) : nx.length ≤ ks'.length := nodup_len h.nodup (fun x hx => ((h.next x).1 hx).1)
theorem Go1.old {L : Gr} {ks ks' nx : List Nat} {E E' : Nat → Prop} (h : Go1 L ks ks' nx E) {x : Nat} (hx : x ∈ ks') (hE : ∀ y, E' y ↔ E y ∨ y = x) : Go1 L ks ks' nx E' :=
 ⟨fun y => by
   rw [hE, h.seen]
   constructor
   · rintro (a | a)
     · exact .inl a
     · exact .inr (.inl a)
   · rintro (a | a | rfl)
     · exact .inl a
     · exact .inr a
     · exact (h.seen y).1 hx, h.next, h.nodup⟩
theorem Go1.fresh {L : Gr} {ks ks' nx : List Nat} {E E' : Nat → Prop} (h : Go1 L ks ks' nx E) {x : Nat} (hr : ks'.Pairwise (· < ·)) (hx : x ∉ ks') (hE : ∀ y, E' y ↔ E y ∨ y = x) : Go1 L ks (seenIn x ks') (nx ++ [x]) E' := by
 have hk : x ∉ ks := fun a => hx ((h.seen x).2 (.inl a))
 refine ⟨fun y => ?_, fun y => ?_, ?_⟩
 · rw [seenIn_mem hr, hE, h.seen, or_assoc]
 · rw [List.mem_append, List.mem_singleton, seenIn_mem hr, h.next]
   constructor
   · rintro (⟨a, b⟩ | rfl)
     · exact ⟨.inl a, b⟩
     · exact ⟨.inr rfl, hk⟩
   · rintro ⟨a | a, b⟩
     · exact .inl ⟨a, b⟩
     · exact .inr a
 · rw [List.nodup_append]
   refine ⟨h.nodup, by simp, ?_⟩
   intro a ha b hb e
   rw [List.mem_singleton] at hb
   subst hb
   exact hx (e ▸ ((h.next a).1 ha).1)
theorem Go1.iff {L : Gr} {ks ks' nx : List Nat} {E E' : Nat → Prop} (h : Go1 L ks ks' nx E) (hE : ∀ y, E' y ↔ E y) : Go1 L ks ks' nx E' := ⟨fun y => by rw [hE, h.seen], h.next, h.nodup⟩
theorem seg_box2 {w : World} {e : TypeId} {size n : Nat} {v : Value} {xs : List Value} (h : Seg w e size v n xs) {b : Nat} (hb : v.ownBlock = some b) : ∃ cur, w.heap[b]? = some (.cells cur e (0, 0)) := by
 rcases h.2.2 with ⟨rfl, _⟩ | ⟨g, off, cap, cur, rfl, hg, _⟩
 · simp [Value.ownBlock] at hb
 · simp [Value.ownBlock] at hb
   subst hb
   exact ⟨cur, hg⟩
theorem seg_off_walk {w : World} {e : TypeId} {size n r : Nat} {v : Value} {xs : List Value} (h : Seg w e size v n xs) (hr : ∃ o : Obj, w.heap[r]? = some o ∧ o.isWalk = true) : v.ownBlock ≠ some r := by
 intro hb
 obtain ⟨cur, hc⟩ := seg_box2 h hb
 obtain ⟨o, ho, hw⟩ := hr
 rw [hc] at ho
 cases ho
 simp [Obj.isWalk] at hw
theorem edge_at {L : Gr} (hL : Good L) {z : Vtx} (hz : z ∈ L) (x : Nat) : edgeG L z.id x ↔ ∃ h ∈ z.halves, h.key = x := by
 constructor
 · rintro ⟨u, hu, e, h⟩
   rw [hL.rise.uniq hu hz e] at h
   exact h
 · rintro h
   exact ⟨z, hz, rfl, h⟩
theorem zero_boolU (w : World) : (zeroValue 4).run Tryz.prog w = .ok (.bool false) w := Tryz.zeroValue4 w
set_option maxRecDepth 100000 in
set_option maxHeartbeats 8000000 in
theorem hops_any (g bm : Nat) (ns : List Node) (v k : Nat) (w : World) (hp : PG w g bm ns) (hL : Good (ns.map Node.x)) (hv : ∃ y ∈ ns.map Node.x, y.id = v) (hk : k ≤ 8) :
   Calls Tryz.prog 62 #[.pointer (some ⟨g, 0, none⟩), .int .u32 (v : Int), .int .i64 (k : Int)] w fun e w' => ∃ vo, e = .returned vo ∧ SegN w w' vo (withinG (ns.map Node.x) v k) := by
 have HP := Lib.hid hp
 have HL := Lib.hid hL
 have HVI := Lib.hid hv
 have hlow : ∀ x, (∃ y ∈ ns.map Node.x, y.id = x) → x ≤ 40 := fun x ⟨y, hy, e⟩ => by have := (hL.each y hy).id; omega
 have HLO := Lib.hid hlow
 have hv40 := hlow v hv
 have g0 := cell_of_row hp.cell 0
 have zg := lt_of_block hp.cell
 simp at g0
 obtain ⟨w1, s1, hU1, hM1⟩ := (UMap.made Tryz.prog 32 .u32 w).store Tryz.underlying32 Tryz.underlying160 (by decide) (u32key (k := v) (by omega)) (.bool true)
 have HS0 : Hid (Sn w w.heap.size [v] (w1.alloc (.cells #[.int .u32 (v : Int)] 32))) := Lib.hid ⟨((((Mod.refl (fun _ => False) w).alloc _).trans' hM1 (fun i hi e => by omega))).alloc _, hU1.keep ((Mod.refl _ _).alloc _), by simp, fun x hx => by rw [List.mem_singleton] at hx; omega, Nat.le_refl _⟩
 have HSG0 := Lib.hid (seg_one w1 v)
 have HR0 : Hid (Ring (ns.map Node.x) v 0 (fun x => x ∈ [v]) [v]) := Lib.hid (Ring.start _ _ (fun x => by simp))
 obtain ⟨i0, hi, hz0, hz1, hz2⟩ := info_parts infoU32h
 have HI : Hid (Tryz.prog.info? 32 = some i0 ∧ i0.zero = some (.int .u32 0) ∧ i0.size = 1 ∧ i0.bytes = 4) := ⟨hi, hz0, hz1, hz2⟩
 clear hi hz0 hz1 hz2
 have hmm := @run_makeMap Tryz.prog
 clear hp hL hv hlow hv40 hU1 hM1
 go_enter Tryz.func62, Tryz.ntmps62
 go_wp2
 generalize w.heap.size = bs at HS0 ⊢
 go_loopw [19, 8] (fun i rv wr => ∃ (d : Nat) (ks ring : List Nat), i = .int .i64 (d : Int) ∧ d ≤ k ∧ Sn w bs ks wr ∧ Seg wr 32 1 rv ring.length (ring.map (keyV .u32)) ∧ Ring (ns.map Node.x) v d (fun x => x ∈ ks) ring) (fun i _ _ => k - (intOf i).toNat)
 case atStart => exact ⟨0, [v], [v], rfl, Nat.zero_le _, HS0.out, HSG0.out, HR0.out⟩
 case round =>
   obtain ⟨wa, hwa⟩ : ∃ wa : World, wa = wr := ⟨_, rfl⟩
   subst hwa
   obtain ⟨d, ks, ring, rfl, hd, hsn, hsg, hrg⟩ := hrel
   have HSN := Lib.hid hsn
   have HSG := Lib.hid hsg
   have HRG := Lib.hid hrg
   obtain ⟨ar, cr, hrv, hr1, hr2, -⟩ := hsg.rdS.shape
   subst hrv
   obtain ⟨nr, hnr⟩ : ∃ nr, nr = ring.length := ⟨_, rfl⟩
   have HNR := Lib.hid hnr
   rw [← hnr] at HSG hr1 ⊢
   clear hsn hsg hrg hnr HS0 HSG0 HR0
   by_cases hdk : d < k
   · go_wp2
     go_loopw [23, 9] (fun i nv wr => ∃ (j : Nat) (ks' nx : List Nat), i = .int .i64 (j : Int) ∧ j ≤ nr ∧ Sn w bs ks' wr ∧ Nx wa bs nv nx wr ∧ Go1 (ns.map Node.x) ks ks' nx (fun x => ∃ y ∈ ring.take j, edgeG (ns.map Node.x) y x)) (fun i _ _ => nr - (intOf i).toNat)
     case atStart => exact ⟨0, ks, [], rfl, Nat.zero_le _, HSN.out, Nx.nil _ _, ⟨fun x => by simp, fun x => by simp, List.nodup_nil⟩⟩
     case round =>
       obtain ⟨wb, hwb⟩ : ∃ wb : World, wb = wr := ⟨_, rfl⟩
       subst hwb
       obtain ⟨j, ks', nx, rfl, hj, hsn, hnx, hgo⟩ := hrel
       have HSB := Lib.hid hsn
       have HNX := Lib.hid hnx
       have HGO := Lib.hid hgo
       obtain ⟨an, cn, hnv, -⟩ := hnx.seg.shape
       subst hnv
       obtain ⟨nn, hnn⟩ : ∃ nn, nn = nx.length := ⟨_, rfl⟩
       have HNN := Lib.hid hnn
       rw [← hnn] at HNX ⊢
       clear hsn hnx hgo hnn
       by_cases hjn : j < nr
       · obtain ⟨y, hy⟩ : ∃ y, ring[j]? = some y := ⟨_, List.getElem?_eq_getElem (by rw [← HNR.out]; exact hjn)⟩
         have hyn := HRG.out.near y (List.mem_of_getElem? hy)
         obtain ⟨z, hz, hzy⟩ := near_in HL.out HVI.out d y hyn
         have hfv : findV (ns.map Node.x) y = some z := (findV_iff HL.out.rise).2 ⟨hz, hzy⟩
         rw [findN_map] at hfv
         obtain ⟨ny, hny, hzx⟩ := Option.map_eq_some_iff.1 hfv
         obtain ⟨hnm, hni⟩ := findN_mem hny
         have hy40 : y < 4294967296 := by have := HLO.out y ⟨z, hz, hzy⟩; omega
         have la := HP.out.nm.look HSB.out.mod hy40
         rw [hny] at la
         simp only [ptrN] at la
         have hna := HP.out.nm.each ny hnm
         have hnb := hna.mod HSB.out.mod (fun _ _ f => f)
         have b1 := cell_of_row hnb.box 1
         have zb := lt_of_block hnb.box
         have g0w := g0
         have zgw := zg
         have g0 := HSB.out.mod.cell g0
         have zg : g < wb.heap.size := Nat.lt_of_lt_of_le zg HSB.out.mod.size
         simp at b1
         have hrs := (HSG.out.mod HNX.out.mod (fun b hb e => mem_map_block HSN.out HSG.out hb e)).rdS
         obtain ⟨br, offr, ear, hbr, hcr⟩ := hrs.cell _ _ rfl j (.int .u32 (y : Int)) (by rw [List.getElem?_map, hy]; rfl)
         subst ear
         have HED : Hid (∀ x, edgeG (ns.map Node.x) y x ↔ ∃ h ∈ ny.x.halves, h.key = x) := Lib.hid (fun x => by
           have h := edge_at HL.out (List.mem_map_of_mem hnm : ny.x ∈ ns.map Node.x) x
           rw [hni] at h; exact h)
         have HTK : Hid (ring.take (j + 1) = ring.take j ++ [y]) := Lib.hid (by
           obtain ⟨h1, h2⟩ := List.getElem?_eq_some_iff.1 hy
           rw [List.take_succ_eq_append_getElem h1, h2])
         have HNY := Lib.hid (And.intro hnm hna)
         have hown := hnb.edges.own
         have HRI := Lib.hid (UMap.rising hnb.edges (int_keyed Tryz.underlying32))
         have HME : Hid (ny.me < w.heap.size) := Lib.hid hna.edges.lt
         clear hyn hz hzy hfv hny hzx hnm hna hnb hrs hy
         go_wp2_with (first
           | (at_range; refine wpList_range_own _ rfl _ 141 rfl 32 77 (int_keyed Tryz.underlying32) Tryz.underlying141 _ ny.me (pents ny.x.halves).length _ rfl hown ?_; intro w0 hrg0 hg0 hs0)
           | go_in)
         go_frame
         go_loopw [9] (fun nv wr => ∃ (left : Lit → Bool) (cnt : Nat) (ss ks2 nx2 : List Nat), wr.ranges Tryz.prog 32 rawE ny.me wb.heap.size (pents ny.x.halves).length (entsD .u32 (pents ny.x.halves)) left cnt ∧ CollU .u32 (pents ny.x.halves) left ss ∧ Sn w bs ks2 wr ∧ Nx wa bs nv nx2 wr ∧ Go1 (ns.map Node.x) ks ks2 nx2 (fun x => (∃ y' ∈ ring.take j, edgeG (ns.map Node.x) y' x) ∨ x ∈ ss))
           (fun _ wr => wr.rangeLeft ny.me wb.heap.size)
         case atStart =>
           have m0 : Mod (fun _ => False) wb w0 := (Mod.refl _ _).grown hg0 (fun b hb _ => by cases hb)
           exact ⟨_, _, [], ks', nx, hrg0, CollU.start _ _, HSB.out.more m0 (fun _ f => f.elim), by have h := HNX.out.more m0 (fun _ f => f.elim) (fun _ _ f => f); exact h, HGO.out.iff (fun x => by simp)⟩
         case round =>
           obtain ⟨left, cnt, ss, ks2, nx2, hrg, hC, hsn2, hnx2, hgo2⟩ := hrel
           obtain ⟨an2, cn2, hnv2, -⟩ := hnx2.seg.shape
           subst hnv2
           obtain ⟨nn2, hnn2⟩ : ∃ nn2, nn2 = nx2.length := ⟨_, rfl⟩
           have HNN2 := Lib.hid hnn2
           have HLE2 : Hid (nn2 ≤ 41) := Lib.hid (by have h1 := hgo2.len; have h2 := hsn2.len; omega)
           have HNV2 := Lib.hid hnx2
           rw [← hnn2] at HNV2 ⊢
           clear hnn2
           go_wp2_with (first
             | (at_next; refine wpList_next_ranges _ rfl _ rfl 32 (int_keyed Tryz.underlying32) rawE (keyV .u32) id (fun key kl hk => by obtain ⟨x, hx, _⟩ := key_nat (by simp) Tryz.underlying32 hk; exact ⟨x, hx⟩) (fun v _ _ => ⟨v, rfl⟩) ny.me wb.heap.size (pents ny.x.halves).length _ _ _ rfl hrg ?_ ?_)
             | go_in)
           · intro hc0 hl0
             have HGE : Hid (Go1 (ns.map Node.x) ks ks2 nx2 (fun x => ∃ y' ∈ ring.take (j + 1), edgeG (ns.map Node.x) y' x)) := Lib.hid (hgo2.iff (fun x => by
               have hperm := hC.perm HRI.out hl0
               have key : x ∈ ss ↔ edgeG (ns.map Node.x) y x := by
                 rw [hperm.mem_iff, HED.out]
                 simp [pents, entF]
               simp only [HTK.out, List.mem_append, List.mem_singleton, key]
               constructor
               · rintro ⟨y', h1 | h1, h2⟩
                 · exact .inl ⟨y', h1, h2⟩
                 · exact .inr (h1 ▸ h2)
               · rintro (⟨y', h1, h2⟩ | h2)
                 · exact ⟨y', .inl h1, h2⟩
                 · exact ⟨y, .inr rfl, h2⟩))
             have HSE := Lib.hid hsn2
             clear hrg hC hsn2 hnx2 hgo2 hown hrg0 hc0 hl0
             go_wp2
             go_roundw
             case rel => exact ⟨j + 1, ks2, nx2, by go_num, by omega, HSE.out, by have h := HNV2.out; exact h, HGE.out⟩
             case measure => simp [intOf]; omega
           · intro x c kl yd yp wx cnt2 hkey hlk hv hat hrg2 hlt hg2 hs2 hen
             obtain ⟨x', ex, rfl, _⟩ := key_nat (by simp) Tryz.underlying32 hkey
             obtain rfl : x = x' := keyV_inj ex
             have hC2 := hC.step hlk hat
             have hhas : (getL x (pents ny.x.halves)).isSome = true := by rw [← entsD_has .u32]; exact has_true_of_atKey hat
             obtain ⟨h, hh, hhk⟩ : ∃ h ∈ ny.x.halves, h.key = x := by
               rw [getL_pents, Option.isSome_map] at hhas
               obtain ⟨e, he⟩ := Option.isSome_iff_exists.1 hhas
               exact ⟨_, entX_mem he, rfl⟩
             have hxin : ∃ u ∈ ns.map Node.x, u.id = x := by
               obtain ⟨u, hu, e1, _⟩ := HL.out.pair ny.x (List.mem_map_of_mem HNY.out.1) h hh
               exact ⟨u, hu, e1.trans hhk⟩
             have hx40 := HLO.out x hxin
             have hxb : x < 4294967296 := by omega
             have hfx : ∃ u, findN ns x = some u := by
               obtain ⟨u, hu, e⟩ := hxin
               have h1 : findV (ns.map Node.x) x = some u := (findV_iff HL.out.rise).2 ⟨hu, e⟩
               rw [findN_map] at h1
               obtain ⟨n1, h2, _⟩ := Option.map_eq_some_iff.1 h1
               exact ⟨n1, h2⟩
             obtain ⟨nu, hnu⟩ := hfx
             have hwb := HSB.out.map.lt
             have mI : Mod (fun i => i = wb.heap.size) wr wx := (Mod.refl _ wr).grown hg2 (fun b hb _ => by injection hb with hb; exact hb.symm)
             have hwa : wa.heap.size ≤ wb.heap.size := HNX.out.mod.size
             have hww : w.heap.size ≤ wa.heap.size := HSN.out.mod.size
             have HSX := Lib.hid (hsn2.more mI (fun b e => ⟨by omega, by omega⟩))
             have HNVX := Lib.hid (HNV2.out.more mI (fun b e => .inl (by omega)) (fun b hb e => by subst e; exact seg_off_walk HNV2.out.seg hrg.iter_walk hb))
             have lg := HP.out.nm.look HSX.out.mod hxb
             rw [hnu] at lg
             simp only [ptrN] at lg
             have lk := HSX.out.map.get Tryz.underlying32 Tryz.underlying160 (zero_boolU wx) (u32key hxb)
             rw [bset_get] at lk
             have g0 := HSX.out.mod.cell g0w
             have zg : g < wx.heap.size := Nat.lt_of_lt_of_le zgw HSX.out.mod.size
             have HGO2 := Lib.hid hgo2
             have HRG2 := Lib.hid hrg2
             have HC2 := Lib.hid hC2
             have HLT : Hid (cnt2 < wr.rangeLeft ny.me wb.heap.size) := Lib.hid (by rw [hrg.left_eq]; exact hlt)
             have HB := Lib.hid (And.intro hwb (And.intro hwa hww))
             have HX40 := Lib.hid hx40
             have HXB := Lib.hid hxb
             clear hrg hC hsn2 hnx2 hgo2 hown hrg0 hg2 hg0 hs0 hs2 hC2 hrg2 hkey hlk hv hat hhas hlt ex hxin hh hhk hnu hx40 mI hwb hwa hww hxb
             simp only [keyV] at hen
             by_cases hks : x ∈ ks2
             · rw [if_pos hks] at lk
               have HGX : Hid (Go1 (ns.map Node.x) ks ks2 nx2 (fun x_1 => (∃ y' ∈ ring.take j, edgeG (ns.map Node.x) y' x_1) ∨ x_1 ∈ ss ++ [x])) := Lib.hid (HGO2.out.old hks (fun y => by simp [or_assoc]))
               clear hks
               go_wp2
               go_roundw
               case rel => exact ⟨_, cnt2, _, ks2, nx2, HRG2.out, HC2.out, HSX.out, by have h := HNVX.out; exact h, HGX.out⟩
               case measure => rw [HRG2.out.left_eq]; exact HLT.out
             · rw [if_neg hks] at lk
               have HGX : Hid (Go1 (ns.map Node.x) ks (seenIn x ks2) (nx2 ++ [x]) (fun x_1 => (∃ y' ∈ ring.take j, edgeG (ns.map Node.x) y' x_1) ∨ x_1 ∈ ss ++ [x])) := Lib.hid (HGO2.out.fresh HSX.out.rise hks (fun y => by simp [or_assoc]))
               obtain ⟨w5, s5, hU5, hM5⟩ := HSX.out.map.store Tryz.underlying32 Tryz.underlying160 (by have := HSX.out.len; rw [bset_len]; unfold maxLen; omega) (u32key HXB.out) (.bool true)
               have HS5 := Lib.hid ((HSX.out.put HX40.out hM5 hU5).more ((Mod.refl (fun _ => False) w5).alloc (.cells #[.int .u32 (x : Int)] 32)) (fun _ f => f.elim))
               have HN5 := Lib.hid ((HNVX.out.more hM5 (fun b e => .inr e) (fun b hb e => mem_map_block HSX.out HNVX.out.seg hb e)).more ((Mod.refl (fun _ => False) w5).alloc (.cells #[.int .u32 (x : Int)] 32)) (fun _ f => f.elim) (fun _ _ f => f))
               have HSG5 : Hid (Seg (w5.alloc (.cells #[.int .u32 (x : Int)] 32)) 32 1 (.slice an2 nn2 cn2) nn2 (nx2.map (keyV .u32))) := Lib.hid (by have h := HN5.out.seg; rw [← HNN2.out] at h; exact h)
               have HR5 := Lib.hid ((HRG2.out.kept hM5.oneGrown (fun e => by injection e with e; have := HSX.out.new; have := HME.out; omega) (fun e => by injection e with e; have := HB.out.1; omega)).alloc (.cells #[.int .u32 (x : Int)] 32))
               have HSF := Lib.hid (src_cells (w := w5) rfl (size := 1) 32 #[.int .u32 (x : Int)] rfl (by simp [Value.oneCell']))
               have HFIN : Hid (∀ v6 w6, Seg w6 32 1 v6 (nn2 + 1) (nx2.map (keyV .u32) ++ [.int .u32 (x : Int)]) → (w5.alloc (.cells #[.int .u32 (x : Int)] 32)).grownBy w6 (Value.slice an2 nn2 cn2).ownBlock → (v6.ownBlock = (Value.slice an2 nn2 cn2).ownBlock ∨ v6.ownBlock = some (w5.alloc (.cells #[.int .u32 (x : Int)] 32)).heap.size) → Sn w bs (seenIn x ks2) w6 ∧ Nx wa bs v6 (nx2 ++ [x]) w6 ∧ w6.ranges Tryz.prog 32 rawE ny.me wb.heap.size (pents ny.x.halves).length (entsD .u32 (pents ny.x.halves)) (fun z => left z && !z.sameKey (.int .u32 (x : Int))) cnt2) := Lib.hid (fun v6 w6 hs6 hg6 ho6 => by
                 have own : ∀ b, (Value.slice an2 nn2 cn2).ownBlock = some b → wa.heap.size ≤ b := fun b hb => HN5.out.own b hb
                 refine ⟨HS5.out.more (mod_grown hg6) (fun b hb => ⟨by have := own b hb; have := HB.out.2.2; omega, mem_map_block HS5.out HSG5.out hb⟩), HN5.out.snoc (by rw [← HNN2.out]; exact hs6) hg6 ho6, HR5.out.kept hg6 (fun e => ?_) (fun e => ?_)⟩
                 · have := own _ e.symm; have := HME.out; have := HB.out.2.2; omega
                 · exact seg_off_walk HSG5.out HR5.out.iter_walk e.symm)
               clear hks hU5 hM5
               go_wp2_with (at_builtin; refine wpList_append_seg rfl (.tmp 56) (.tmp 58) 37 rfl i0 _ 1 4 Tryz.underlying37 HI.out.1 HI.out.2.1 HI.out.2.2.1 HI.out.2.2.2 rfl (by decide) rfl HSG5.out _ 1 _ rfl HSF.out (by have := HLE2.out; unfold maxLen; omega) (by have := HLE2.out; omega) ?_; intro v6 w6 hs6 hg6 ho6; have HF := Lib.hid (HFIN.out v6 w6 hs6 hg6 ho6); (obtain ⟨a6, c6, n6, rfl⟩ : ∃ a c n, v6 = .slice a n c := (by obtain ⟨a, c, e, _⟩ := hs6.shape; exact ⟨_, _, _, e⟩)); clear hs6 hg6 ho6)
               go_roundw
               case rel => exact ⟨_, cnt2, _, _, _, HF.out.2.2, HC2.out, HF.out.1, HF.out.2.1, HGX.out⟩
               case measure => rw [HF.out.2.2.left_eq]; exact HLT.out
       · have HGA : Hid (Go1 (ns.map Node.x) ks ks' nx (fun x => ∃ y ∈ ring, edgeG (ns.map Node.x) y x)) := Lib.hid (by
           have h := HGO.out
           rwa [List.take_of_length_le (by have := HNR.out; omega)] at h)
         have HRN : Hid (Ring (ns.map Node.x) v (d + 1) (fun x => x ∈ ks') nx) := Lib.hid (HRG.out.next HGA.out.seen HGA.out.next)
         go_wp2
         go_roundw
         case rel => exact ⟨d + 1, ks', nx, by go_num, by omega, HSB.out, HNX.out.seg, HRN.out⟩
         case measure => simp [intOf]; omega
   · obtain rfl : d = k := by omega
     have HW : Hid (ks = withinG (ns.map Node.x) v d) := Lib.hid (HRG.out.all HL.out HVI.out HSN.out.rise (fun x => Iff.rfl))
     have HK : Hid (Calls Tryz.prog 63 #[.func (.func 90) #[] #[.pointer (some ⟨wa.heap.size, 0, none⟩)]] (wa.alloc (.cells #[.map (some bs)] 160)) fun e w' => ∃ v, e = .returned v ∧ SegN wa w' v ks) := Lib.hid (by
       have h := sortedKeysBo bs (bset ks) wa HSN.out.map (by have := HSN.out.len; rw [bset_len]; omega)
       have e : (bset ks).map (·.1) = ks := by simp [bset, Function.comp_def]
       rw [e] at h
       exact h)
     go_wp2_with (first
       | (go_at_call 76; refine (keysBo (some bs) wa).mono ?_; (rintro e w1 ⟨rfl, rfl⟩))
       | (go_at_call 63; refine HK.out.mono ?_; (rintro e w2 ⟨v, rfl, hs⟩); have HS := Lib.hid hs; clear hs))
     go_ret
     refine ⟨_, rfl, ?_⟩
     rw [← HW.out]
     exact ⟨HS.out.seg, fun b hb => Nat.le_trans HSN.out.mod.size (HS.out.own b hb), HSN.out.mod.trans HS.out.mod⟩
open Go.RowKit
def twoK (k : Nat) : Bool := decide (k = 5) || decide (k = 6) || decide (k = 7)
def keyK (k : Nat) : Bool := decide (k = 3) || decide (k = 4) || decide (k = 9)
def valK (k : Nat) : Bool := decide (k = 3) || decide (k = 5) || decide (k = 9)
def kindK (k : Nat) : Bool := decide (1 ≤ k) && decide (k ≤ 9)
theorem results_tmp4 {fn : Func} {t u v x : Tmp} (h : fn.results = #[.tmp t, .tmp u, .tmp v, .tmp x]) (tmps : Array Value) (P : Program) (w : World) :
   (results fn tmps).run P w = .ok (.tuple #[tmps.getD t undef, tmps.getD u undef, tmps.getD v undef, tmps.getD x undef]) w := by
 simp [results, h]
set_option maxRecDepth 100000 in
set_option maxHeartbeats 4000000 in
theorem uses_any (k : Nat) (w : World) : Calls Tryz.prog 96 #[.int .u8 (k : Int)] w fun e w' => e = .returned (.tuple #[.bool (twoK k), .bool (keyK k), .bool (valK k), .bool (kindK k)]) ∧ w = w' := by
 by_cases h : k < 1 ∨ 9 < k
 · have HT : Hid (twoK k = false ∧ keyK k = false ∧ valK k = false ∧ kindK k = false) := Lib.hid (by
     unfold twoK keyK valK kindK
     refine ⟨?_, ?_, ?_, ?_⟩ <;> simp <;> omega)
   have k1 : ((k : Int) == 1) = false := by simp; omega
   have k2 : ((k : Int) == 2) = false := by simp; omega
   have k3 : ((k : Int) == 3) = false := by simp; omega
   have k4 : ((k : Int) == 4) = false := by simp; omega
   have k5 : ((k : Int) == 5) = false := by simp; omega
   have k6 : ((k : Int) == 6) = false := by simp; omega
   have k7 : ((k : Int) == 7) = false := by simp; omega
   have k8 : ((k : Int) == 8) = false := by simp; omega
   have k9 : ((k : Int) == 9) = false := by simp; omega
   clear h
   go_enter Tryz.func96, Tryz.ntmps96
   go_wp2
   (try simp only [Exit.inBlock, Exit.then]); refine bodyPost_ret (results_tmp4 rfl _ _ _) rfl ?_
   exact ⟨by rw [HT.out.1, HT.out.2.1, HT.out.2.2.1, HT.out.2.2.2]; rfl, rfl⟩
 · have hk : k = 1 ∨ k = 2 ∨ k = 3 ∨ k = 4 ∨ k = 5 ∨ k = 6 ∨ k = 7 ∨ k = 8 ∨ k = 9 := by omega
   clear h
   rcases hk with rfl | rfl | rfl | rfl | rfl | rfl | rfl | rfl | rfl
   all_goals
     go_enter Tryz.func96, Tryz.ntmps96
     go_wp2
     (try simp only [Exit.inBlock, Exit.then]); refine bodyPost_ret (results_tmp4 rfl _ _ _) rfl ?_
     exact ⟨rfl, rfl⟩
theorem uses_K (k : Nat) (z : Int) (hz : z = (k : Int)) (t x v o : Bool) (h : twoK k = t ∧ keyK k = x ∧ valK k = v ∧ kindK k = o) (w : World) : Calls Tryz.prog 96 #[.int .u8 z] w fun e w' => e = .returned (.tuple #[.bool t, .bool x, .bool v, .bool o]) ∧ w = w' := by
 subst hz
 have := uses_any k w
 rw [h.1, h.2.1, h.2.2.1, h.2.2.2] at this
 exact this
theorem noVal_ok : Val.ok noVal = true := by kernel_rfl
theorem number_b (a : Nat) (b : Bool) (h : numB a = b) (w : World) : Calls Tryz.prog 70 #[.int .u32 (a : Int)] w fun e w' => e = .returned (.bool b) ∧ w = w' := by
 have := number_any a w
 rw [h] at this
 exact this
theorem check_b (k : Nat) (n : Int) (s : ByteArray) (hv : Val.Fits ⟨k, n, s⟩) (b : Bool) (h : Val.ok ⟨k, n, s⟩ = b) (c : Int) (hc : codeB b = c) (w w0 : World) (m : Mod (fun _ => False) w0 w) : Calls Tryz.prog 97 #[.agg #[.int .u8 (k : Int), .int .i64 n, .string s]] w fun e w' => e = .returned (.int .i64 c) ∧ Mod (fun _ => False) w0 w' := by
 have h1 := check_any ⟨k, n, s⟩ hv w
 rw [h, hc] at h1
 exact h1.mono fun e w' ⟨he, hm⟩ => ⟨he, m.trans hm⟩
set_option maxRecDepth 100000 in
set_option maxHeartbeats 4000000 in
theorem formed_1 (a b key vk : Nat) (vn : Int) (vs : ByteArray) (w : World) (hv : Val.Fits ⟨vk, vn, vs⟩) :
   Calls Tryz.prog 84 #[.agg #[.int .u8 1, .int .u32 (a : Int), .int .u32 (b : Int), .int .u8 (key : Int), .int .u8 (vk : Int), .int .i64 vn, .string vs]] w fun e w' => e = .returned (.bool (opOK ⟨1, a, b, key, ⟨vk, vn, vs⟩⟩)) ∧ Mod (fun _ => False) w w' := by
 have HU := Lib.hid (uses_K 1 1 rfl false false false true ⟨rfl, rfl, rfl, rfl⟩)
 have HV := Lib.hid hv
 have HM : Hid (∀ o : Obj, Mod (fun _ => False) w (w.alloc o)) := Lib.hid (fun o => (Mod.refl _ _).alloc o)
 obtain ⟨r, hr⟩ : ∃ r, opOK ⟨1, a, b, key, ⟨vk, vn, vs⟩⟩ = r := ⟨_, rfl⟩
 rw [hr]
 have HR := Lib.hid hr
 clear hr hv
 cases hna : numB a with
 | false =>
   have HNA := Lib.hid (number_b a false hna)
   have HQ : Hid (false = r) := Lib.hid (by rw [← HR.out]; symm; simp [opOK, Opr.two, Opr.hasKey, Opr.hasVal, noVal_iff, hna])
   clear HR
   clear hna
   go_enter Tryz.func84, Tryz.ntmps84
   go_wp2_with (first
     | (go_at_call 96; refine (HU.out _).mono ?_; (rintro e w1 ⟨rfl, rfl⟩))
     | (go_at_call 70; refine (HNA.out _).mono ?_; (rintro e w1 ⟨rfl, rfl⟩)))
   go_ret
   exact ⟨ret_bool HQ.out, HM.out _⟩
 | true =>
   have HNA := Lib.hid (number_b a true hna)
   by_cases hk : key = 0
   rotate_left
   · have hk2 : ((key : Int) != 0) = true := by simp; omega
     have HQ : Hid (false = r) := Lib.hid (by rw [← HR.out]; symm; simp [opOK, Opr.two, Opr.hasKey, Opr.hasVal, noVal_iff, hna, hk])
     clear HR
     clear hna hk
     go_enter Tryz.func84, Tryz.ntmps84
     go_wp2_with (first
       | (go_at_call 96; refine (HU.out _).mono ?_; (rintro e w1 ⟨rfl, rfl⟩))
       | (go_at_call 70; refine (HNA.out _).mono ?_; (rintro e w1 ⟨rfl, rfl⟩)))
     go_ret
     exact ⟨ret_bool HQ.out, HM.out _⟩
   · subst hk
     by_cases hv1 : vk = 0
     rotate_left
     · have hv2 : ¬ (vk : Int) = 0 := by omega
       have HQ : Hid (false = r) := Lib.hid (by rw [← HR.out]; symm; simp [opOK, Opr.two, Opr.hasKey, Opr.hasVal, noVal_iff, hna, hv1])
       clear HR
       clear hna hv1
       go_enter Tryz.func84, Tryz.ntmps84
       go_wp2_with (first
         | (go_at_call 96; refine (HU.out _).mono ?_; (rintro e w1 ⟨rfl, rfl⟩))
         | (go_at_call 70; refine (HNA.out _).mono ?_; (rintro e w1 ⟨rfl, rfl⟩)))
       go_ret
       exact ⟨ret_bool HQ.out, HM.out _⟩
     subst hv1
     by_cases hv1 : vn = 0
     rotate_left
     · have hv2 : ¬ vn = 0 := hv1
       have HQ : Hid (false = r) := Lib.hid (by rw [← HR.out]; symm; simp [opOK, Opr.two, Opr.hasKey, Opr.hasVal, noVal_iff, hna, hv1])
       clear HR
       clear hna hv1
       go_enter Tryz.func84, Tryz.ntmps84
       go_wp2_with (first
         | (go_at_call 96; refine (HU.out _).mono ?_; (rintro e w1 ⟨rfl, rfl⟩))
         | (go_at_call 70; refine (HNA.out _).mono ?_; (rintro e w1 ⟨rfl, rfl⟩)))
       go_ret
       exact ⟨ret_bool HQ.out, HM.out _⟩
     subst hv1
     by_cases hv1 : vs.toList = []
     rotate_left
     · have HQ : Hid (false = r) := Lib.hid (by rw [← HR.out]; symm; simp [opOK, Opr.two, Opr.hasKey, Opr.hasVal, noVal_iff, hna, hv1])
       clear HR
       clear hna
       go_enter Tryz.func84, Tryz.ntmps84
       go_wp2_with (first
         | (go_at_call 96; refine (HU.out _).mono ?_; (rintro e w1 ⟨rfl, rfl⟩))
         | (go_at_call 70; refine (HNA.out _).mono ?_; (rintro e w1 ⟨rfl, rfl⟩)))
       go_ret
       exact ⟨ret_bool HQ.out, HM.out _⟩
     obtain rfl : vs = ⟨#[]⟩ := by
       have := (noVal_iff 0 0 vs).2 ⟨rfl, rfl, hv1⟩
       unfold noVal at this
       injection this
     clear hv1
     by_cases hb : b = 0
     rotate_left
     · have hb2 : ((b : Int) != 0) = true := by simp; omega
       have HQ : Hid (false = r) := Lib.hid (by rw [← HR.out]; symm; simp [opOK, Opr.two, Opr.hasKey, Opr.hasVal, noVal_iff, hna, hb])
       clear HR
       clear hna hb
       go_enter Tryz.func84, Tryz.ntmps84
       go_wp2_with (first
         | (go_at_call 96; refine (HU.out _).mono ?_; (rintro e w1 ⟨rfl, rfl⟩))
         | (go_at_call 70; refine (HNA.out _).mono ?_; (rintro e w1 ⟨rfl, rfl⟩)))
       go_ret
       exact ⟨ret_bool HQ.out, HM.out _⟩
     · subst hb
       have HCK := Lib.hid (check_b 0 0 ⟨#[]⟩ HV.out true noVal_ok 0 rfl)
       have HQ : Hid (true = r) := Lib.hid (by rw [← HR.out]; symm; simp [opOK, Opr.two, Opr.hasKey, Opr.hasVal, noVal_iff, hna, ByteArray.toList_eq])
       clear HR
       clear hna
       go_enter Tryz.func84, Tryz.ntmps84
       go_wp2_with (first
         | (go_at_call 96; refine (HU.out _).mono ?_; (rintro e w1 ⟨rfl, rfl⟩))
         | (go_at_call 70; refine (HNA.out _).mono ?_; (rintro e w1 ⟨rfl, rfl⟩))
         | (go_at_call 97; refine (HCK.out _ _ (HM.out _)).mono ?_; (rintro e w1 ⟨rfl, hm1⟩); have HM1 := Lib.hid hm1; clear hm1))
       go_ret
       exact ⟨ret_bool HQ.out, HM1.out⟩
set_option maxRecDepth 100000 in
set_option maxHeartbeats 4000000 in
theorem formed_2 (a b key vk : Nat) (vn : Int) (vs : ByteArray) (w : World) (hv : Val.Fits ⟨vk, vn, vs⟩) :
   Calls Tryz.prog 84 #[.agg #[.int .u8 2, .int .u32 (a : Int), .int .u32 (b : Int), .int .u8 (key : Int), .int .u8 (vk : Int), .int .i64 vn, .string vs]] w fun e w' => e = .returned (.bool (opOK ⟨2, a, b, key, ⟨vk, vn, vs⟩⟩)) ∧ Mod (fun _ => False) w w' := by
 have HU := Lib.hid (uses_K 2 2 rfl false false false true ⟨rfl, rfl, rfl, rfl⟩)
 have HV := Lib.hid hv
 have HM : Hid (∀ o : Obj, Mod (fun _ => False) w (w.alloc o)) := Lib.hid (fun o => (Mod.refl _ _).alloc o)
 obtain ⟨r, hr⟩ : ∃ r, opOK ⟨2, a, b, key, ⟨vk, vn, vs⟩⟩ = r := ⟨_, rfl⟩
 rw [hr]
 have HR := Lib.hid hr
 clear hr hv
 cases hna : numB a with
 | false =>
   have HNA := Lib.hid (number_b a false hna)
   have HQ : Hid (false = r) := Lib.hid (by rw [← HR.out]; symm; simp [opOK, Opr.two, Opr.hasKey, Opr.hasVal, noVal_iff, hna])
   clear HR
   clear hna
   go_enter Tryz.func84, Tryz.ntmps84
   go_wp2_with (first
     | (go_at_call 96; refine (HU.out _).mono ?_; (rintro e w1 ⟨rfl, rfl⟩))
     | (go_at_call 70; refine (HNA.out _).mono ?_; (rintro e w1 ⟨rfl, rfl⟩)))
   go_ret
   exact ⟨ret_bool HQ.out, HM.out _⟩
 | true =>
   have HNA := Lib.hid (number_b a true hna)
   by_cases hk : key = 0
   rotate_left
   · have hk2 : ((key : Int) != 0) = true := by simp; omega
     have HQ : Hid (false = r) := Lib.hid (by rw [← HR.out]; symm; simp [opOK, Opr.two, Opr.hasKey, Opr.hasVal, noVal_iff, hna, hk])
     clear HR
     clear hna hk
     go_enter Tryz.func84, Tryz.ntmps84
     go_wp2_with (first
       | (go_at_call 96; refine (HU.out _).mono ?_; (rintro e w1 ⟨rfl, rfl⟩))
       | (go_at_call 70; refine (HNA.out _).mono ?_; (rintro e w1 ⟨rfl, rfl⟩)))
     go_ret
     exact ⟨ret_bool HQ.out, HM.out _⟩
   · subst hk
     by_cases hv1 : vk = 0
     rotate_left
     · have hv2 : ¬ (vk : Int) = 0 := by omega
       have HQ : Hid (false = r) := Lib.hid (by rw [← HR.out]; symm; simp [opOK, Opr.two, Opr.hasKey, Opr.hasVal, noVal_iff, hna, hv1])
       clear HR
       clear hna hv1
       go_enter Tryz.func84, Tryz.ntmps84
       go_wp2_with (first
         | (go_at_call 96; refine (HU.out _).mono ?_; (rintro e w1 ⟨rfl, rfl⟩))
         | (go_at_call 70; refine (HNA.out _).mono ?_; (rintro e w1 ⟨rfl, rfl⟩)))
       go_ret
       exact ⟨ret_bool HQ.out, HM.out _⟩
     subst hv1
     by_cases hv1 : vn = 0
     rotate_left
     · have hv2 : ¬ vn = 0 := hv1
       have HQ : Hid (false = r) := Lib.hid (by rw [← HR.out]; symm; simp [opOK, Opr.two, Opr.hasKey, Opr.hasVal, noVal_iff, hna, hv1])
       clear HR
       clear hna hv1
       go_enter Tryz.func84, Tryz.ntmps84
       go_wp2_with (first
         | (go_at_call 96; refine (HU.out _).mono ?_; (rintro e w1 ⟨rfl, rfl⟩))
         | (go_at_call 70; refine (HNA.out _).mono ?_; (rintro e w1 ⟨rfl, rfl⟩)))
       go_ret
       exact ⟨ret_bool HQ.out, HM.out _⟩
     subst hv1
     by_cases hv1 : vs.toList = []
     rotate_left
     · have HQ : Hid (false = r) := Lib.hid (by rw [← HR.out]; symm; simp [opOK, Opr.two, Opr.hasKey, Opr.hasVal, noVal_iff, hna, hv1])
       clear HR
       clear hna
       go_enter Tryz.func84, Tryz.ntmps84
       go_wp2_with (first
         | (go_at_call 96; refine (HU.out _).mono ?_; (rintro e w1 ⟨rfl, rfl⟩))
         | (go_at_call 70; refine (HNA.out _).mono ?_; (rintro e w1 ⟨rfl, rfl⟩)))
       go_ret
       exact ⟨ret_bool HQ.out, HM.out _⟩
     obtain rfl : vs = ⟨#[]⟩ := by
       have := (noVal_iff 0 0 vs).2 ⟨rfl, rfl, hv1⟩
       unfold noVal at this
       injection this
     clear hv1
     by_cases hb : b = 0
     rotate_left
     · have hb2 : ((b : Int) != 0) = true := by simp; omega
       have HQ : Hid (false = r) := Lib.hid (by rw [← HR.out]; symm; simp [opOK, Opr.two, Opr.hasKey, Opr.hasVal, noVal_iff, hna, hb])
       clear HR
       clear hna hb
       go_enter Tryz.func84, Tryz.ntmps84
       go_wp2_with (first
         | (go_at_call 96; refine (HU.out _).mono ?_; (rintro e w1 ⟨rfl, rfl⟩))
         | (go_at_call 70; refine (HNA.out _).mono ?_; (rintro e w1 ⟨rfl, rfl⟩)))
       go_ret
       exact ⟨ret_bool HQ.out, HM.out _⟩
     · subst hb
       have HCK := Lib.hid (check_b 0 0 ⟨#[]⟩ HV.out true noVal_ok 0 rfl)
       have HQ : Hid (true = r) := Lib.hid (by rw [← HR.out]; symm; simp [opOK, Opr.two, Opr.hasKey, Opr.hasVal, noVal_iff, hna, ByteArray.toList_eq])
       clear HR
       clear hna
       go_enter Tryz.func84, Tryz.ntmps84
       go_wp2_with (first
         | (go_at_call 96; refine (HU.out _).mono ?_; (rintro e w1 ⟨rfl, rfl⟩))
         | (go_at_call 70; refine (HNA.out _).mono ?_; (rintro e w1 ⟨rfl, rfl⟩))
         | (go_at_call 97; refine (HCK.out _ _ (HM.out _)).mono ?_; (rintro e w1 ⟨rfl, hm1⟩); have HM1 := Lib.hid hm1; clear hm1))
       go_ret
       exact ⟨ret_bool HQ.out, HM1.out⟩
set_option maxRecDepth 100000 in
set_option maxHeartbeats 4000000 in
theorem formed_8 (a b key vk : Nat) (vn : Int) (vs : ByteArray) (w : World) (hv : Val.Fits ⟨vk, vn, vs⟩) :
   Calls Tryz.prog 84 #[.agg #[.int .u8 8, .int .u32 (a : Int), .int .u32 (b : Int), .int .u8 (key : Int), .int .u8 (vk : Int), .int .i64 vn, .string vs]] w fun e w' => e = .returned (.bool (opOK ⟨8, a, b, key, ⟨vk, vn, vs⟩⟩)) ∧ Mod (fun _ => False) w w' := by
 have HU := Lib.hid (uses_K 8 8 rfl false false false true ⟨rfl, rfl, rfl, rfl⟩)
 have HV := Lib.hid hv
 have HM : Hid (∀ o : Obj, Mod (fun _ => False) w (w.alloc o)) := Lib.hid (fun o => (Mod.refl _ _).alloc o)
 obtain ⟨r, hr⟩ : ∃ r, opOK ⟨8, a, b, key, ⟨vk, vn, vs⟩⟩ = r := ⟨_, rfl⟩
 rw [hr]
 have HR := Lib.hid hr
 clear hr hv
 cases hna : numB a with
 | false =>
   have HNA := Lib.hid (number_b a false hna)
   have HQ : Hid (false = r) := Lib.hid (by rw [← HR.out]; symm; simp [opOK, Opr.two, Opr.hasKey, Opr.hasVal, noVal_iff, hna])
   clear HR
   clear hna
   go_enter Tryz.func84, Tryz.ntmps84
   go_wp2_with (first
     | (go_at_call 96; refine (HU.out _).mono ?_; (rintro e w1 ⟨rfl, rfl⟩))
     | (go_at_call 70; refine (HNA.out _).mono ?_; (rintro e w1 ⟨rfl, rfl⟩)))
   go_ret
   exact ⟨ret_bool HQ.out, HM.out _⟩
 | true =>
   have HNA := Lib.hid (number_b a true hna)
   by_cases hk : key = 0
   rotate_left
   · have hk2 : ((key : Int) != 0) = true := by simp; omega
     have HQ : Hid (false = r) := Lib.hid (by rw [← HR.out]; symm; simp [opOK, Opr.two, Opr.hasKey, Opr.hasVal, noVal_iff, hna, hk])
     clear HR
     clear hna hk
     go_enter Tryz.func84, Tryz.ntmps84
     go_wp2_with (first
       | (go_at_call 96; refine (HU.out _).mono ?_; (rintro e w1 ⟨rfl, rfl⟩))
       | (go_at_call 70; refine (HNA.out _).mono ?_; (rintro e w1 ⟨rfl, rfl⟩)))
     go_ret
     exact ⟨ret_bool HQ.out, HM.out _⟩
   · subst hk
     by_cases hv1 : vk = 0
     rotate_left
     · have hv2 : ¬ (vk : Int) = 0 := by omega
       have HQ : Hid (false = r) := Lib.hid (by rw [← HR.out]; symm; simp [opOK, Opr.two, Opr.hasKey, Opr.hasVal, noVal_iff, hna, hv1])
       clear HR
       clear hna hv1
       go_enter Tryz.func84, Tryz.ntmps84
       go_wp2_with (first
         | (go_at_call 96; refine (HU.out _).mono ?_; (rintro e w1 ⟨rfl, rfl⟩))
         | (go_at_call 70; refine (HNA.out _).mono ?_; (rintro e w1 ⟨rfl, rfl⟩)))
       go_ret
       exact ⟨ret_bool HQ.out, HM.out _⟩
     subst hv1
     by_cases hv1 : vn = 0
     rotate_left
     · have hv2 : ¬ vn = 0 := hv1
       have HQ : Hid (false = r) := Lib.hid (by rw [← HR.out]; symm; simp [opOK, Opr.two, Opr.hasKey, Opr.hasVal, noVal_iff, hna, hv1])
       clear HR
       clear hna hv1
       go_enter Tryz.func84, Tryz.ntmps84
       go_wp2_with (first
         | (go_at_call 96; refine (HU.out _).mono ?_; (rintro e w1 ⟨rfl, rfl⟩))
         | (go_at_call 70; refine (HNA.out _).mono ?_; (rintro e w1 ⟨rfl, rfl⟩)))
       go_ret
       exact ⟨ret_bool HQ.out, HM.out _⟩
     subst hv1
     by_cases hv1 : vs.toList = []
     rotate_left
     · have HQ : Hid (false = r) := Lib.hid (by rw [← HR.out]; symm; simp [opOK, Opr.two, Opr.hasKey, Opr.hasVal, noVal_iff, hna, hv1])
       clear HR
       clear hna
       go_enter Tryz.func84, Tryz.ntmps84
       go_wp2_with (first
         | (go_at_call 96; refine (HU.out _).mono ?_; (rintro e w1 ⟨rfl, rfl⟩))
         | (go_at_call 70; refine (HNA.out _).mono ?_; (rintro e w1 ⟨rfl, rfl⟩)))
       go_ret
       exact ⟨ret_bool HQ.out, HM.out _⟩
     obtain rfl : vs = ⟨#[]⟩ := by
       have := (noVal_iff 0 0 vs).2 ⟨rfl, rfl, hv1⟩
       unfold noVal at this
       injection this
     clear hv1
     by_cases hb : b = 0
     rotate_left
     · have hb2 : ((b : Int) != 0) = true := by simp; omega
       have HQ : Hid (false = r) := Lib.hid (by rw [← HR.out]; symm; simp [opOK, Opr.two, Opr.hasKey, Opr.hasVal, noVal_iff, hna, hb])
       clear HR
       clear hna hb
       go_enter Tryz.func84, Tryz.ntmps84
       go_wp2_with (first
         | (go_at_call 96; refine (HU.out _).mono ?_; (rintro e w1 ⟨rfl, rfl⟩))
         | (go_at_call 70; refine (HNA.out _).mono ?_; (rintro e w1 ⟨rfl, rfl⟩)))
       go_ret
       exact ⟨ret_bool HQ.out, HM.out _⟩
     · subst hb
       have HCK := Lib.hid (check_b 0 0 ⟨#[]⟩ HV.out true noVal_ok 0 rfl)
       have HQ : Hid (true = r) := Lib.hid (by rw [← HR.out]; symm; simp [opOK, Opr.two, Opr.hasKey, Opr.hasVal, noVal_iff, hna, ByteArray.toList_eq])
       clear HR
       clear hna
       go_enter Tryz.func84, Tryz.ntmps84
       go_wp2_with (first
         | (go_at_call 96; refine (HU.out _).mono ?_; (rintro e w1 ⟨rfl, rfl⟩))
         | (go_at_call 70; refine (HNA.out _).mono ?_; (rintro e w1 ⟨rfl, rfl⟩))
         | (go_at_call 97; refine (HCK.out _ _ (HM.out _)).mono ?_; (rintro e w1 ⟨rfl, hm1⟩); have HM1 := Lib.hid hm1; clear hm1))
       go_ret
       exact ⟨ret_bool HQ.out, HM1.out⟩
end Go.Proofs.YtpigipgoopeeoaaGreatDoor
