import Derived.Test.YtpigipgoopeeoaaGreatDoorMOn41
set_option linter.unusedVariables false
set_option linter.unusedSimpArgs false
namespace Go.Proofs.YtpigipgoopeeoaaGreatDoor
open Go.RowKit Go.Maps
set_option maxRecDepth 100000 in
set_option maxHeartbeats 16000000 in
theorem conce_main (vs : Value) (qs : List Qs) (pk : Nat) (hpk : pk < 256) (w : World) (hv : QRd w vs qs) (hg : ErrT w) :
   Calls Tryz.prog 6 #[vs, .int .u8 (pk : Int)] w fun e w' => e = .returned (.bool true) ∧ Mod (fun _ => False) w w' := by
 have HAW : Hid (∀ w', Mod (fun _ => False) w w' → Calls Tryz.prog 8 #[] w' fun e w'' => e = .returned (.bool true) ∧ Mod (fun _ => False) w' w'') := Lib.hid (fun w' m => cawake_any w' (hg.keep m (fun f => f)))
 have HCOM : Hid (∀ v ms w', CRd Cm.c11 11 w' v ms → (∀ c ∈ ms, c.Small) → ms.length ≤ 4096 → Calls Tryz.prog 11 #[v] w' fun e w'' => ∃ a c ms', e = .returned (.slice a ms'.length c) ∧ Mod (fun _ => False) w' w'' ∧ CRd Cm.c14 14 w'' (.slice a ms'.length c) ms' ∧ ms'.map Cm.x = ms.map Cm.x) := Lib.hid (fun v ms w' h1 h2 h3 => (commits_any v ms w' h1 h2 h3).mono (by
   rintro e w'' ⟨u, ms', rfl, h4, h5⟩
   obtain ⟨a, c, rfl, -⟩ := h4.row.rdS.shape
   exact ⟨a, c, ms', rfl, h4.mod, h4.crd, h5⟩))
 have HREP : Hid (∀ v ms w', CRd Cm.c13 13 w' v ms → (∀ c ∈ ms, c.Small) → ms.length ≤ 4096 → Calls Tryz.prog 12 #[v] w' fun e w'' => ∃ a c ms', e = .returned (.slice a ms'.length c) ∧ Mod (fun _ => False) w' w'' ∧ CRd Cm.c13 13 w'' (.slice a ms'.length c) ms' ∧ ms'.map Cm.x = ms.map Cm.x) := Lib.hid (fun v ms w' h1 h2 h3 => (replies_any v ms w' h1 h2 h3).mono (by
   rintro e w'' ⟨u, ms', rfl, h4, h5⟩
   obtain ⟨a, c, rfl, -⟩ := h4.row.rdS.shape
   exact ⟨a, c, ms', rfl, h4.mod, h4.crd, h5⟩))
 have HVER : Hid (∀ v u ms rs w' X R, Mod (fun _ => False) w w' → CRd Cm.c14 14 w' v ms → CRd Cm.c13 13 w' u rs → ms.map Cm.x = X → rs.map Cm.x = R → X.length ≤ 4096 → R.length ≤ 4096 → Calls Tryz.prog 10 #[v, u] w' fun e w'' => e = .returned (verdV (verdict X R)) ∧ Mod (fun _ => False) w' w'') := Lib.hid (fun v u ms rs w' X R m h1 h2 h3 h4 h5 h6 => by
   subst h3 h4
   rw [List.length_map] at h5 h6
   exact cverify_any v u ms rs w' h1 h2 h5 h6 (hg.keep m (fun f => f)))
 have HFIN : Hid (∀ v ms w', Mod (fun _ => False) w w' → CRd Cm.c14 14 w' v ms → ms.length ≤ 4096 → Calls Tryz.prog 15 #[v] w' fun e w'' => ∃ a n c, e = .returned (.tuple #[.slice a n c, .int .i64 0]) ∧ n ≤ 40 ∧ Mod (fun _ => False) w' w'') := Lib.hid (fun v ms w' m h1 h2 => (cfinal_any v ms w' h1 h2 (hg.keep m (fun f => f))).mono (by
   rintro e w'' ⟨a, n, c, bl, rfl, hr, hb, hm⟩
   refine ⟨a, n, c, rfl, ?_, hm⟩
   have h3 : Good (finalG (ms.map Cm.x)) := runG_good Good.nil _
   obtain ⟨a', c', e', -⟩ := hr.row.shape
   injection e' with _ e' _
   have h4 := h3.short
   rw [← hb, List.length_map, ← e'] at h4
   exact h4))
 have HQ := Lib.hid hv
 obtain ⟨as_, cs_, rfl, hcs1, hcs2, -⟩ := hv.row.shape
 obtain ⟨n, hn⟩ : ∃ n, n = qs.length := ⟨_, rfl⟩
 have HN := Lib.hid hn
 rw [← hn] at HQ hcs1 ⊢
 obtain ⟨i0, hi, hz0, hz1, hz2⟩ := info_parts infoRC
 have HI : Hid (Tryz.prog.info? 42 = some i0 ∧ i0.zero = some (.agg #[.int .u8 0, .int .u32 0, .int .u8 0, .slice none 0 0, .int .u32 0, .int .i64 0, .int .i64 0, .int .i64 0, .int .i64 0, .slice none 0 0, .slice none 0 0]) ∧ i0.size = 11 ∧ i0.bytes = 128) := ⟨hi, hz0, hz1, hz2⟩
 clear hi hz0 hz1 hz2
 obtain ⟨i1, hi, hz0, hz1, hz2⟩ := info_parts (show (Tryz.prog.info? 44).map (fun i => (i.zero, i.size, i.bytes)) = some (some (.agg #[.int .u8 0, .int .u32 0, .int .u8 0, .slice none 0 0, .int .u32 0, .int .i64 0, .int .i64 0, .int .i64 0, .int .i64 0, .slice none 0 0, .slice none 0 0, .int .i64 0, .int .i64 0]), 13, 144) by kernel_rfl)
 have HI1 : Hid (Tryz.prog.info? 44 = some i1 ∧ i1.zero = some (.agg #[.int .u8 0, .int .u32 0, .int .u8 0, .slice none 0 0, .int .u32 0, .int .i64 0, .int .i64 0, .int .i64 0, .int .i64 0, .slice none 0 0, .slice none 0 0, .int .i64 0, .int .i64 0]) ∧ i1.size = 13 ∧ i1.bytes = 144) := ⟨hi, hz0, hz1, hz2⟩
 clear hi hz0 hz1 hz2
 clear hv hg hn
 go_enter Tryz.func6, Tryz.ntmps6
 go_wp2_with (go_at_call 8; go_loud (refine (HAW.out _ (Mod.refl _ _)).mono ?_; (rintro e w1 ⟨rfl, hm1⟩); have HM1 := Lib.hid hm1; clear hm1))
 have HL0 : Hid (Ho w w1.heap.size (.slice none 0 0) [] 0 (w1.alloc (.cells #[.slice none 0 0] 28))) := Lib.hid ⟨⟨HM1.out.alloc _, ⟨_, [], ⟨heap_alloc_new' _ _, ⟨RdS.none _ _, by simp⟩⟩, rfl⟩, Good.nil, HM1.out.size, Seg.nil _ _ _, Seg.nil _ _ _, by simp, by simp, fun b hb => by simp [Value.ownBlock] at hb, fun b hb => by simp [Value.ownBlock] at hb, PatB.nil _ _, PatB.nil _ _⟩, HistUp.nil, by simp, Nat.le_refl _, Nat.zero_le _, by simp⟩
 go_loopw [34, 6] (fun i u wr => ∃ (k : Nat) (ms : List Cm), i = .int .i64 (k : Int) ∧ k ≤ n ∧ Ho w w1.heap.size u ms k wr) (fun i _ _ => n - (intOf i).toNat)
 case atStart => exact ⟨0, [], rfl, Nat.zero_le _, HL0.out⟩
 case round =>
   obtain ⟨k, ms, rfl, hk, hl⟩ := hrel
   have HL := Lib.hid hl
   have HK := Lib.hid hl.st.mod
   obtain ⟨nm, hnm⟩ : ∃ n, n = ms.length := ⟨_, rfl⟩
   have HNM := Lib.hid hnm
   have hnm30 : nm ≤ 30 := hnm ▸ hl.short
   obtain ⟨au, cu, hcu, hcu2, hub⟩ : ∃ a c, nm ≤ c ∧ c ≤ 9223372036854775807 ∧ _ = Value.slice a nm c := by
     obtain ⟨a, c, e, h1, h2, _⟩ := hl.st.row.rdS.shape
     rw [← hnm] at e h1
     exact ⟨a, c, h1, h2, e⟩
   subst hub
   clear hl HL0 hnm
   by_cases hkn : k < n
   · skip
     obtain ⟨q, hq⟩ : ∃ q, qs[k]? = some q := ⟨_, List.getElem?_eq_getElem (by rw [← HN.out]; exact hkn)⟩
     obtain ⟨bl, offl, e0, hbl, r0, r1, r2, r3, r4⟩ := HQ.out.ent hq rfl
     replace r0 := HK.out.cell r0
     replace r1 := HK.out.cell r1
     replace r2 := HK.out.cell r2
     replace r3 := HK.out.cell r3
     replace r4 := HK.out.cell r4
     have zbl : bl < wr.heap.size := Nat.lt_of_lt_of_le hbl HK.out.size
     have HOR := Lib.hid (HQ.out.each q (List.mem_of_getElem? hq))
     have HSM := Lib.hid (HQ.out.small q (List.mem_of_getElem? hq))
     clear hq hbl
     obtain rfl := e0
     obtain ⟨⟨kind, ops, rv, rk, rd⟩, qo⟩ := q
     obtain ⟨ao, co, hqe, -⟩ := HOR.out.row.shape
     simp only at hqe HOR r0 r1 r2 r3 r4
     subst hqe
     obtain ⟨no, hno⟩ : ∃ n, n = ops.length := ⟨_, rfl⟩
     rw [← hno] at r1 HOR
     have HNO := Lib.hid hno
     clear hno
     have HMQ : Hid (Mod (fun _ => False) wr (wr.alloc (.cells #[.int .u8 (kind : Int), .slice ao no co, .int .u32 (rv : Int), .int .i64 rk, .int .i64 rd] 34))) := Lib.hid ((Mod.refl _ _).alloc _)
     have HBQ : Hid ((wr.alloc (.cells #[.int .u8 (kind : Int), .slice ao no co, .int .u32 (rv : Int), .int .i64 rk, .int .i64 rd] 34)).heap[wr.heap.size]? = some (.cells #[.int .u8 (kind : Int), .slice ao no co, .int .u32 (rv : Int), .int .i64 rk, .int .i64 rd] 34 (0, 0))) := Lib.hid (heap_alloc_new' _ _)
     obtain ⟨ck, hck⟩ : ∃ c, c = checkR ⟨kind, ops, rv, rk, rd⟩ := ⟨_, rfl⟩
     have HCK : Hid (∀ w', Mod (fun _ => False) wr w' → Calls Tryz.prog 20 #[.agg #[.int .u8 (kind : Int), .slice ao no co, .int .u32 (rv : Int), .int .i64 rk, .int .i64 rd]] w' fun e w'' => e = .returned (.int .i64 (ck : Int)) ∧ Mod (fun _ => False) w' w'') := Lib.hid (fun w' mm => by rw [hck]; exact dcheck_any ⟨kind, ops, rv, rk, rd⟩ (.slice ao no co) w' (HOR.out.keep (HK.out.trans mm)))
     clear hck
     by_cases h30 : k < 30
     · have h30i : (k : Int) < 30 := by omega
       by_cases h20 : no < 20
       · have h20i : (no : Int) < 20 := by omega
         by_cases hc0 : ck = 0
         · subst hc0
           obtain ⟨ag, hag⟩ : ∃ a, a = doG (graphTo (ms.map Cm.x) ms.length) ⟨kind, ops, rv, rk, rd⟩ := ⟨_, rfl⟩
           obtain ⟨nv, hnv⟩ : ∃ n, n = ag.2.vals.length := ⟨_, rfl⟩
           obtain ⟨nl, hnl⟩ : ∃ n, n = ag.2.list.length := ⟨_, rfl⟩
           obtain ⟨ze, hze⟩ : ∃ n, n = ag.2.e := ⟨_, rfl⟩
           obtain ⟨za, hza⟩ : ∃ n, n = ag.2.at_ := ⟨_, rfl⟩
           have HDO : Hid (∀ w', Mod (fun _ => False) wr w' → Calls Tryz.prog 9 #[.pointer (some ⟨w1.heap.size, 0, none⟩), .agg #[.int .u8 (kind : Int), .slice ao no co, .int .u32 (rv : Int), .int .i64 rk, .int .i64 rd]] w' fun e w'' => ∃ a8 c8 a9 c9, e = .returned (.agg #[.int .i64 (ze : Int), .int .i64 (za : Int), .slice a8 nv c8, .slice a9 nl c9]) ∧ Hw w w1.heap.size (.slice au nm cu) (.slice none 0 0) ms [] ag.1 w'' ∧ Mod (fun i => i = w1.heap.size) w' w'' ∧ Seg w'' 77 3 (.slice a8 nv c8) nv (vvcells ag.2.vals) ∧ Seg w'' 32 1 (.slice a9 nl c9) nl (ag.2.list.map (keyV .u32))) := Lib.hid (fun w' mm => (rdq_any w1.heap.size _ ⟨kind, ops, rv, rk, rd⟩ (.slice ao no co) w' (HL.out.st.keep mm).rf HL.out.st.good (HOR.out.keep (HK.out.trans mm))).mono (by
             rintro e w'' ⟨vv, vl, he, hd⟩
             have h3 := (HL.out.st.keep mm).do hd
             have h1 := hd.vals
             have h2 := hd.list
             have h4 := hd.mod
             rw [← hag] at h1 h2 h3 he
             rw [← hnv] at h1
             rw [← hnl] at h2
             rw [← hze, ← hza] at he
             obtain ⟨a8, c8, rfl, -⟩ := h1.shape
             obtain ⟨a9, c9, rfl, -⟩ := h2.shape
             exact ⟨a8, c8, a9, c9, he, h3, h4, h1, h2⟩))
           have HAG : Hid (ag = doG (graphTo (ms.map Cm.x) ms.length) ⟨kind, ops, rv, rk, rd⟩ ∧ nv = ag.2.vals.length ∧ nl = ag.2.list.length ∧ ze = ag.2.e ∧ za = ag.2.at_) := Lib.hid ⟨hag, hnv, hnl, hze, hza⟩
           have HGL : Hid (w1.heap.size < wr.heap.size) := Lib.hid (by obtain ⟨cs, hc⟩ := HL.out.st.gr_box; exact lt_of_block hc)
           have HOWL : Hid (∀ b, Value.ownBlock (.slice au nm cu) = some b → b < wr.heap.size) := Lib.hid (fun b hb => HL.out.st.row.lt b hb)
           clear hag hnv hnl hze hza
           have HC11 : Hid (∀ a8 c8 a9 c9, (#[.int .u8 (IntKind.u8.wrap ((k : Int).tmod 3)), .int .u32 (IntKind.u32.wrap (IntKind.i64.wrap ((k : Int) + 1))), .int .u8 (kind : Int), .slice ao no co, .int .u32 (rv : Int), .int .i64 rk, .int .i64 rd, .int .i64 (ze : Int), .int .i64 (za : Int), .slice a8 nv c8, .slice a9 nl c9] : Array Value).toList = Cm.c11 ⟨⟨k % 3, k + 1, ⟨kind, ops, rv, rk, rd⟩, (ze : Int), (za : Int), ag.2.vals, ag.2.list, 0, 0⟩, .slice ao no co, .slice a8 nv c8, .slice a9 nl c9⟩) := Lib.hid (by
             have e1 : IntKind.u8.wrap ((k : Int).tmod 3) = ((k % 3 : Nat) : Int) := by
               rw [Int.tmod_eq_emod_of_nonneg (by omega)]
               exact IntWalk.u8_in _ (by omega)
             have e2 : IntKind.u32.wrap (IntKind.i64.wrap ((k : Int) + 1)) = ((k + 1 : Nat) : Int) := by
               rw [IntWalk.i64_in _ (by omega)]
               exact IntWalk.u32_in _ (by omega)
             intro a8 c8 a9 c9
             rw [e1, e2]
             rfl)
           have HOWN : Hid (∀ a8 c8 a9 c9 w', Seg w' 77 3 (.slice a8 nv c8) nv (vvcells ag.2.vals) → Seg w' 32 1 (.slice a9 nl c9) nl (ag.2.list.map (keyV .u32)) → Cm.Own w w' ⟨⟨k % 3, k + 1, ⟨kind, ops, rv, rk, rd⟩, (ze : Int), (za : Int), ag.2.vals, ag.2.list, 0, 0⟩, .slice ao no co, .slice a8 nv c8, .slice a9 nl c9⟩) := Lib.hid (fun a8 c8 a9 c9 w' h1 h2 => ⟨⟨by show k % 3 < 256; omega, by show k + 1 < 4294967296; omega⟩, HSM.out.fits.v, HOR.out, by rw [HAG.out.2.1] at h1; rw [HAG.out.2.1]; exact h1, by rw [HAG.out.2.2.1] at h2; rw [HAG.out.2.2.1]; exact h2⟩)
           go_upto_region 9 with (go_at_call 20; go_loud (refine (HCK.out _ HMQ.out).mono ?_; (rintro e w2 ⟨rfl, hm2⟩); have HM2 := Lib.hid hm2; clear hm2))
           have HMR2 : Hid (Mod (fun _ => False) wr w2) := Lib.hid (HMQ.out.trans HM2.out)
           have hb2 := HM2.out.heap HBQ.out (fun f => f)
           have HB2 := Lib.hid hb2
           have HKEEP : Hid (∀ w', Mod (fun b => Value.ownBlock (.slice au nm cu) = some b ∨ b = w1.heap.size) w2 w' → (fun w' : World => w'.cell? ⟨wr.heap.size, 0, none⟩ = some (.int .u8 (kind : Int)) ∧ w'.cell? ⟨wr.heap.size, 1, none⟩ = some (.slice ao no co) ∧ w'.cell? ⟨wr.heap.size, 2, none⟩ = some (.int .u32 (rv : Int)) ∧ w'.cell? ⟨wr.heap.size, 3, none⟩ = some (.int .i64 rk) ∧ w'.cell? ⟨wr.heap.size, 4, none⟩ = some (.int .i64 rd)) w') := Lib.hid (fun w' mm => by
             have h5 := mm.heap HB2.out (fun e => by
               rcases e with e | e
               · have := HOWL.out _ e; omega
               · have := HGL.out; omega)
             exact ⟨cell_of_row h5 0, cell_of_row h5 1, cell_of_row h5 2, cell_of_row h5 3, cell_of_row h5 4⟩)
           clear hb2 r0 r1 r2 r3 r4
           obtain ⟨k0, k1, k2, k3, k4⟩ := HKEEP.out w2.drew (Mod.refl _ _).drew
           go_wp2_with fail
           go_region_held3 (fun w' => w'.cell? ⟨wr.heap.size, 0, none⟩ = some (.int .u8 (kind : Int)) ∧ w'.cell? ⟨wr.heap.size, 1, none⟩ = some (.slice ao no co) ∧ w'.cell? ⟨wr.heap.size, 2, none⟩ = some (.int .u32 (rv : Int)) ∧ w'.cell? ⟨wr.heap.size, 3, none⟩ = some (.int .i64 rk) ∧ w'.cell? ⟨wr.heap.size, 4, none⟩ = some (.int .i64 rd))
             (first
               | (with_reducible exact HKEEP.out _ HMA.out)
               | (with_reducible exact HKEEP.out _ (HMD.out.alloc _))
               | (with_reducible exact HKEEP.out _ HMD.out)
               | (with_reducible exact HKEEP.out _ (Mod.refl _ _).drew)
               | go_keep)
             ((first
               | (have hq := HROW6.out; go_loud (refine step_append_pat rfl (.tmp 52) (.tmp 64) 29 rfl i0 _ 11 128 Tryz.underlying29 HI.out.1 HI.out.2.1 HI.out.2.2.1 HI.out.2.2.2 rfl (by decide) rfl HROW6.out (.slice (some ⟨w4.heap.size, 0, none⟩) 1 1) 1 _ rfl HSR6.out (by unfold maxLen; omega) (by omega) plainP HW6.out.pat HALL6.out (fun kk q j u h => plain_zero zeros_plain11 kk q 11 j u h) ?_; intro v7 w7 hs7 hp7 hg7 ho7; (have HW7 := Lib.hid (HW6.out.appC (c := ⟨⟨k % 3, k + 1, ⟨kind, ops, rv, rk, rd⟩, (ze : Int), (za : Int), ag.2.vals, ag.2.list, 0, 0⟩, .slice ao no co, .slice a8 nv c8, .slice a9 nl c9⟩) HOWN6.out (by rw [HC11.out] at hs7; rw [← HNM.out]; exact hs7) hp7 hg7 ho7)); (have HMA : Hid (Mod (fun b => Value.ownBlock (.slice au nm cu) = some b ∨ b = w1.heap.size) w2 w7) := Lib.hid ((HMD.out.alloc _).trans ((Mod.refl _ _).grown hg7 (fun b hb _ => .inl hb)))); (obtain ⟨ax7, cx7, rfl, -⟩ := hs7.shape); clear hs7 hp7 hg7 ho7 hq))
               | (go_at_call 9; go_loud (refine (HDO.out _ (HMR2.out.drew)).mono ?_; (rintro e w4 ⟨a8, c8, a9, c9, rfl, hw4, hm4, hv4, hl4⟩); (have HMD : Hid (Mod (fun b => Value.ownBlock (.slice au nm cu) = some b ∨ b = w1.heap.size) w2 w4) := Lib.hid ((Mod.refl _ w2).drew.trans (hm4.mono (fun _ _ e => .inr e)))); (have HW6 := Lib.hid (hw4.keep ((Mod.refl (fun _ => False) w4).alloc (.cells #[.int .u8 (IntKind.u8.wrap ((k : Int).tmod 3)), .int .u32 (IntKind.u32.wrap (IntKind.i64.wrap ((k : Int) + 1))), .int .u8 (kind : Int), .slice ao no co, .int .u32 (rv : Int), .int .i64 rk, .int .i64 rd, .int .i64 (ze : Int), .int .i64 (za : Int), .slice a8 nv c8, .slice a9 nl c9] 42)))); (have HROW6 : Hid (Seg (w4.alloc (.cells #[.int .u8 (IntKind.u8.wrap ((k : Int).tmod 3)), .int .u32 (IntKind.u32.wrap (IntKind.i64.wrap ((k : Int) + 1))), .int .u8 (kind : Int), .slice ao no co, .int .u32 (rv : Int), .int .i64 rk, .int .i64 rd, .int .i64 (ze : Int), .int .i64 (za : Int), .slice a8 nv c8, .slice a9 nl c9] 42)) 42 11 (.slice au nm cu) nm (ms.flatMap Cm.c11)) := Lib.hid (by have h := HW6.out.row; rwa [← HNM.out] at h)); (have HSR6 : Hid (Src (w4.alloc (.cells #[.int .u8 (IntKind.u8.wrap ((k : Int).tmod 3)), .int .u32 (IntKind.u32.wrap (IntKind.i64.wrap ((k : Int) + 1))), .int .u8 (kind : Int), .slice ao no co, .int .u32 (rv : Int), .int .i64 rk, .int .i64 rd, .int .i64 (ze : Int), .int .i64 (za : Int), .slice a8 nv c8, .slice a9 nl c9] 42)) 11 (.slice (some ⟨w4.heap.size, 0, none⟩) 1 1) 1 (#[.int .u8 (IntKind.u8.wrap ((k : Int).tmod 3)), .int .u32 (IntKind.u32.wrap (IntKind.i64.wrap ((k : Int) + 1))), .int .u8 (kind : Int), .slice ao no co, .int .u32 (rv : Int), .int .i64 rk, .int .i64 rd, .int .i64 (ze : Int), .int .i64 (za : Int), .slice a8 nv c8, .slice a9 nl c9] : Array Value).toList) := Lib.hid (src_cells (w := w4) rfl (size := 11) 42 #[.int .u8 (IntKind.u8.wrap ((k : Int).tmod 3)), .int .u32 (IntKind.u32.wrap (IntKind.i64.wrap ((k : Int) + 1))), .int .u8 (kind : Int), .slice ao no co, .int .u32 (rv : Int), .int .i64 rk, .int .i64 rd, .int .i64 (ze : Int), .int .i64 (za : Int), .slice a8 nv c8, .slice a9 nl c9] rfl (by simp [Value.oneCell']))); (have HOWN6 := Lib.hid (HOWN.out a8 c8 a9 c9 (w4.alloc (.cells #[.int .u8 (IntKind.u8.wrap ((k : Int).tmod 3)), .int .u32 (IntKind.u32.wrap (IntKind.i64.wrap ((k : Int) + 1))), .int .u8 (kind : Int), .slice ao no co, .int .u32 (rv : Int), .int .i64 rk, .int .i64 rd, .int .i64 (ze : Int), .int .i64 (za : Int), .slice a8 nv c8, .slice a9 nl c9] 42)) (hv4.alloc _) (hl4.alloc _))); (have HALL6 : Hid (∀ (j : Nat) (u : Value), (ms.flatMap Cm.c11 ++ (#[.int .u8 (IntKind.u8.wrap ((k : Int).tmod 3)), .int .u32 (IntKind.u32.wrap (IntKind.i64.wrap ((k : Int) + 1))), .int .u8 (kind : Int), .slice ao no co, .int .u32 (rv : Int), .int .i64 rk, .int .i64 rd, .int .i64 (ze : Int), .int .i64 (za : Int), .slice a8 nv c8, .slice a9 nl c9] : Array Value).toList)[j]? = some u → plainP j u) := Lib.hid (plain_at (fun u hu => by rcases List.mem_append.1 hu with hu | hu; exact plain_rows (fun c hc => (HW6.out.own c hc).sl.c11) u hu; exact HOWN6.out.sl.c11 u (by rw [← HC11.out]; exact hu)))); clear hw4 hm4 hv4 hl4))))
           all_goals
             go_wp2
             go_roundw
             case rel => exact ⟨k + 1, ms ++ [⟨⟨k % 3, k + 1, ⟨kind, ops, rv, rk, rd⟩, (ze : Int), (za : Int), ag.2.vals, ag.2.list, 0, 0⟩, .slice ao no co, .slice a8 nv c8, .slice a9 nl c9⟩], by go_num, by omega, HL.out.step h30 HAG.out.1 HW7.out (by rw [HAG.out.2.2.2.1]) (by rw [HAG.out.2.2.2.2]) HSM.out.size⟩
             case measure => simp [intOf]; omega
         · have hcn : ¬ (ck : Int) = 0 := by omega
           go_wp2_with (go_at_call 20; go_loud (refine (HCK.out _ HMQ.out).mono ?_; (rintro e w2 ⟨rfl, hm2⟩); have HM2 := Lib.hid hm2; clear hm2))
           go_roundw
           case rel => exact ⟨k + 1, ms, by go_num, by omega, HL.out.skip (HMQ.out.trans HM2.out)⟩
           case measure => simp [intOf]; omega
       · have h20i : ¬ (no : Int) < 20 := by omega
         go_wp2
         go_roundw
         case rel => exact ⟨k + 1, ms, by go_num, by omega, HL.out.skip HMQ.out⟩
         case measure => simp [intOf]; omega
     · have h30i : ¬ (k : Int) < 30 := by omega
       go_wp2
       go_roundw
       case rel => exact ⟨k + 1, ms, by go_num, by omega, HL.out.skip HMQ.out⟩
       case measure => simp [intOf]; omega
   · skip
     by_cases hk0 : nm = 0
     · have hk0i : ((nm : Int) == 0) = true := by simp; omega
       subst hk0
       go_wp2
       go_ret
       exact ⟨rfl, HK.out⟩
     · have hk0i : ((nm : Int) == 0) = false := by simp; omega
       have hk0j : ¬ (nm : Int) = 0 := by omega
       obtain ⟨hi, hhi⟩ : ∃ h, h = pk % nm := ⟨_, rfl⟩
       have hkw : IntKind.i64.wrap (nm : Int) = (nm : Int) := IntWalk.i64_in _ (by omega)
       have hw0 : IntKind.i64.wrap (pk : Int) = (pk : Int) := IntWalk.i64_in _ (by omega)
       have htm : (pk : Int).tmod (nm : Int) = (hi : Int) := by
         rw [hhi, Int.tmod_eq_emod_of_nonneg (by omega)]
         simp
       have htm2 : (pk : Int) % (nm : Int) = (hi : Int) := by rw [hhi]; simp
       have hlt : hi < nm := by rw [hhi]; exact Nat.mod_lt _ (by omega)
       have hwh : IntKind.i64.wrap (hi : Int) = (hi : Int) := IntWalk.i64_in _ (by omega)
       have hi0 : (0 : Int) ≤ (hi : Int) := by omega
       have hik : (hi : Int) < (nm : Int) := by omega
       clear hhi
       obtain ⟨c, hc⟩ : ∃ c, ms[hi]? = some c := ⟨_, List.getElem?_eq_getElem (by rw [← HNM.out]; exact hlt)⟩
       have hcx : (ms.map Cm.x)[hi]? = some c.x := by rw [List.getElem?_map, hc]; rfl
       have hown := HL.out.st.own c (List.mem_of_getElem? hc)
       have hrd := hown.rd HK.out
       have HSC := Lib.hid (HL.out.sm c (List.mem_of_getElem? hc))
       obtain ⟨bx, ofx, e1, hbx, hcs⟩ := CRd.ent (cells := Cm.c11) (size := 11) (fun _ => rfl) (by decide) HL.out.st.crd hc rfl
       subst e1
       have HCX := Lib.hid hcx
       have HOWC := Lib.hid hown
       obtain ⟨ao, co, uvo⟩ := hrd.vo_eq
       obtain ⟨av, cv, uvv⟩ := hrd.vv_eq
       obtain ⟨al, cl, uvl⟩ := hrd.vl_eq
       clear hcx hown hrd hc
       obtain ⟨⟨xc, xq, ⟨kind, ops, rv, rk, rd⟩, ae, ap, vals, list, fr, to_⟩, vo, vv, vl⟩ := c
       simp only at uvo uvv uvl HCX
       subst uvo uvv uvl
       obtain ⟨no, hno⟩ : ∃ n, n = ops.length := ⟨_, rfl⟩
       obtain ⟨nv, hnv⟩ : ∃ n, n = vals.length := ⟨_, rfl⟩
       obtain ⟨nl, hnl⟩ : ∃ n, n = list.length := ⟨_, rfl⟩
       have HNN : Hid (no = ops.length ∧ nv = vals.length ∧ nl = list.length) := Lib.hid ⟨hno, hnv, hnl⟩
       simp only [← hno, ← hnv, ← hnl, Cm.c11] at hcs HOWC
       have p0 := hcs 0 (by omega)
       have p1 := hcs 1 (by omega)
       have p2 := hcs 2 (by omega)
       have p3 := hcs 3 (by omega)
       have p4 := hcs 4 (by omega)
       have p5 := hcs 5 (by omega)
       have p6 := hcs 6 (by omega)
       have p7 := hcs 7 (by omega)
       have p8 := hcs 8 (by omega)
       have p9 := hcs 9 (by omega)
       have p10 := hcs 10 (by omega)
       simp only [List.getElem?_cons_succ, List.getElem?_cons_zero, ← Nat.add_assoc, Nat.add_zero] at p0 p1 p2 p3 p4 p5 p6 p7 p8 p9 p10
       clear hcs hno hnv hnl
       go_upto_region 16 with fail
       obtain ⟨W2, hW2⟩ : ∃ W, W = ((wr.alloc (.cells #[.int .u8 (xc : Int), .int .u32 (xq : Int), .int .u8 (kind : Int), .slice ao no co, .int .u32 (rv : Int), .int .i64 rk, .int .i64 rd, .int .i64 ae, .int .i64 ap, .slice av nv cv, .slice al nl cl] 42)).alloc (.cells #[.int .u8 (xc : Int), .int .u32 (xq : Int), .int .u8 (kind : Int), .slice ao no co, .int .u32 (rv : Int), .int .i64 rk, .int .i64 rd, .int .i64 ae, .int .i64 ap, .slice av nv cv, .slice al nl cl, .int .i64 (hi : Int), .int .i64 ((hi : Int) + 1)] 44)) := ⟨_, rfl⟩
       have HM2 : Hid (Mod (fun _ => False) wr W2) := Lib.hid (by rw [hW2]; exact ((Mod.refl _ _).alloc _).alloc _)
       have HBX : Hid (W2.heap[wr.heap.size]? = some (.cells #[.int .u8 (xc : Int), .int .u32 (xq : Int), .int .u8 (kind : Int), .slice ao no co, .int .u32 (rv : Int), .int .i64 rk, .int .i64 rd, .int .i64 ae, .int .i64 ap, .slice av nv cv, .slice al nl cl] 42 (0, 0))) := Lib.hid (by rw [hW2]; exact heap_alloc_old (heap_alloc_new' _ _))
       have HBR : Hid (W2.heap[wr.heap.size + 1]? = some (.cells #[.int .u8 (xc : Int), .int .u32 (xq : Int), .int .u8 (kind : Int), .slice ao no co, .int .u32 (rv : Int), .int .i64 rk, .int .i64 rd, .int .i64 ae, .int .i64 ap, .slice av nv cv, .slice al nl cl, .int .i64 (hi : Int), .int .i64 ((hi : Int) + 1)] 44 (0, 0))) := Lib.hid (by
         rw [hW2]
         have h := heap_alloc_new' (wr.alloc (.cells #[.int .u8 (xc : Int), .int .u32 (xq : Int), .int .u8 (kind : Int), .slice ao no co, .int .u32 (rv : Int), .int .i64 rk, .int .i64 rd, .int .i64 ae, .int .i64 ap, .slice av nv cv, .slice al nl cl] 42)) (.cells #[.int .u8 (xc : Int), .int .u32 (xq : Int), .int .u8 (kind : Int), .slice ao no co, .int .u32 (rv : Int), .int .i64 rk, .int .i64 rd, .int .i64 ae, .int .i64 ap, .slice av nv cv, .slice al nl cl, .int .i64 (hi : Int), .int .i64 ((hi : Int) + 1)] 44)
         simpa using h)
       have HWS : Hid (W2.heap.size = wr.heap.size + 2) := Lib.hid (by rw [hW2]; simp)
       rw [← hW2]
       clear hW2 p0 p1 p2 p3 p4 p5 p6 p7 p8 p9 p10
       go_cut [12, 13, 14, 15] (fun p12 p13 p14 p15 wx => ∃ b1 b2 b3 b4 : Nat, p12 = .pointer (some ⟨b1, 0, none⟩) ∧ p13 = .pointer (some ⟨b2, 0, none⟩) ∧ p14 = .pointer (some ⟨b3, 0, none⟩) ∧ p15 = .pointer (some ⟨b4, 0, none⟩) ∧ Four W2 #[.int .u8 (xc : Int), .int .u32 (xq : Int), .int .u8 (kind : Int), .slice ao no co, .int .u32 (rv : Int), .int .i64 rk, .int .i64 rd, .int .i64 ae, .int .i64 ap, .slice av nv cv, .slice al nl cl, .int .i64 (hi : Int), .int .i64 ((hi : Int) + 1)] b1 b2 b3 b4 wx)
       case first => as_aux_lemma =>
         refine four_region (b5 := wr.heap.size + 1) (r := #[.int .u8 (xc : Int), .int .u32 (xq : Int), .int .u8 (kind : Int), .slice ao no co, .int .u32 (rv : Int), .int .i64 rk, .int .i64 rd, .int .i64 ae, .int .i64 ap, .slice av nv cv, .slice al nl cl, .int .i64 (hi : Int), .int .i64 ((hi : Int) + 1)]) rfl rfl HBR.out rfl (by simp [Value.oneCell']) ?_
         intro b1 b2 b3 b4 wx h4
         unfold fourEnd isPtr
         go_simp
         first
           | go_meet
           | (go_step; go_meet)
           | (go_step; go_step; go_meet)
         exact ⟨b1, b2, b3, b4, rfl, rfl, rfl, rfl, h4⟩
       case rest =>
         obtain ⟨b1, b2, b3, b4, rfl, rfl, rfl, rfl, hf⟩ := hcut
         have HF := Lib.hid hf
         obtain ⟨n12, n13, n14, n23, n24, n34⟩ := hf.ne
         have c1 := cell_of_row hf.h1 12
         have c2 := cell_of_row hf.h2 11
         have c3 := cell_of_row hf.h3 1
         have c4 := cell_of_row hf.h4 7
         have c5 := cell_of_row hf.h4 8
         have c6 := cell_of_row hf.h4 9
         have c7 := cell_of_row hf.h4 10
         have g1 := free_of_row hf.h1 12
         have g2 := free_of_row hf.h2 11
         have g3 := free_of_row hf.h3 1
         have g4 := free_of_row hf.h4 7
         have g5 := free_of_row hf.h4 8
         have g6 := free_of_row hf.h4 9
         have g7 := free_of_row hf.h4 10
         have z1 := lt_of_block hf.h1
         have z2 := lt_of_block hf.h2
         have z3 := lt_of_block hf.h3
         have z4 := lt_of_block hf.h4
         simp at c1 c2 c3 c4 c5 c6 c7
         have hwp1 : IntKind.i64.wrap ((hi : Int) + 1) = (hi : Int) + 1 := IntWalk.i64_in _ (by omega)
         clear hf
         go_upto_region 18 with fail
         have HNE : Hid (wr.heap.size + 1 ≠ b1 ∧ wr.heap.size + 1 ≠ b2 ∧ wr.heap.size + 1 ≠ b3 ∧ wr.heap.size + 1 ≠ b4) := Lib.hid (by have := HF.out.lo; have := HWS.out; omega)
         obtain ⟨n51, n52, n53, n54⟩ := HNE.out
         obtain ⟨W5, hW5⟩ : ∃ W, W = (((((((wc.setCell ⟨b1, 12, none⟩ (.int .i64 (hi : Int))).setCell ⟨b2, 11, none⟩ (.int .i64 ((hi : Int) + 1))).setCell ⟨b3, 1, none⟩ (.int .u32 77)).setCell ⟨b4, 7, none⟩ (.int .i64 13)).setCell ⟨b4, 8, none⟩ (.int .i64 0)).setCell ⟨b4, 9, none⟩ (.slice none 0 0)).setCell ⟨b4, 10, none⟩ (.slice none 0 0)) := ⟨_, rfl⟩
         have HM5 : Hid (Mod (fun _ => False) wr W5) := Lib.hid (by
           rw [hW5]
           refine (HM2.out.trans HF.out.mod).trans' (T := fun k => k = b1 ∨ k = b2 ∨ k = b3 ∨ k = b4) ?_ (fun i hi e => by have := HF.out.lo; have := HWS.out; omega)
           exact ((((((((Mod.refl _ wc).setCell (p := ⟨b1, 12, none⟩) (fun _ => .inl rfl) _).setCell (p := ⟨b2, 11, none⟩) (fun _ => .inr (.inl rfl)) _).setCell (p := ⟨b3, 1, none⟩) (fun _ => .inr (.inr (.inl rfl))) _).setCell (p := ⟨b4, 7, none⟩) (fun _ => .inr (.inr (.inr rfl))) _).setCell (p := ⟨b4, 8, none⟩) (fun _ => .inr (.inr (.inr rfl))) _).setCell (p := ⟨b4, 9, none⟩) (fun _ => .inr (.inr (.inr rfl))) _).setCell (p := ⟨b4, 10, none⟩) (fun _ => .inr (.inr (.inr rfl))) _))
         have HB5 : Hid (W5.heap[wr.heap.size + 1]? = some (.cells #[.int .u8 (xc : Int), .int .u32 (xq : Int), .int .u8 (kind : Int), .slice ao no co, .int .u32 (rv : Int), .int .i64 rk, .int .i64 rd, .int .i64 ae, .int .i64 ap, .slice av nv cv, .slice al nl cl, .int .i64 (hi : Int), .int .i64 ((hi : Int) + 1)] 44 (0, 0))) := Lib.hid (by
           rw [hW5]
           exact row_else n54 (row_else n54 (row_else n54 (row_else n54 (row_else n53 (row_else n52 (row_else n51 (HF.out.mod.heap HBR.out (fun f => f)))))))))
         have HB1 : Hid (W5.heap[b1]? = some (.cells #[.int .u8 (xc : Int), .int .u32 (xq : Int), .int .u8 (kind : Int), .slice ao no co, .int .u32 (rv : Int), .int .i64 rk, .int .i64 rd, .int .i64 ae, .int .i64 ap, .slice av nv cv, .slice al nl cl, .int .i64 (hi : Int), .int .i64 (hi : Int)] 44 (0, 0))) := Lib.hid (by
           rw [hW5]
           exact row_else n14 (row_else n14 (row_else n14 (row_else n14 (row_else n13 (row_else n12 (row_setCell HF.out.h1 12 _)))))))
         have HB2 : Hid (W5.heap[b2]? = some (.cells #[.int .u8 (xc : Int), .int .u32 (xq : Int), .int .u8 (kind : Int), .slice ao no co, .int .u32 (rv : Int), .int .i64 rk, .int .i64 rd, .int .i64 ae, .int .i64 ap, .slice av nv cv, .slice al nl cl, .int .i64 ((hi : Int) + 1), .int .i64 ((hi : Int) + 1)] 44 (0, 0))) := Lib.hid (by
           rw [hW5]
           exact row_else n24 (row_else n24 (row_else n24 (row_else n24 (row_else n23 (row_setCell (row_else (Ne.symm n12) HF.out.h2) 11 _))))))
         have HB3 : Hid (W5.heap[b3]? = some (.cells #[.int .u8 (xc : Int), .int .u32 77, .int .u8 (kind : Int), .slice ao no co, .int .u32 (rv : Int), .int .i64 rk, .int .i64 rd, .int .i64 ae, .int .i64 ap, .slice av nv cv, .slice al nl cl, .int .i64 (hi : Int), .int .i64 ((hi : Int) + 1)] 44 (0, 0))) := Lib.hid (by
           rw [hW5]
           exact row_else n34 (row_else n34 (row_else n34 (row_else n34 (row_setCell (row_else (Ne.symm n23) (row_else (Ne.symm n13) HF.out.h3)) 1 _)))))
         have HB4 : Hid (W5.heap[b4]? = some (.cells #[.int .u8 (xc : Int), .int .u32 (xq : Int), .int .u8 (kind : Int), .slice ao no co, .int .u32 (rv : Int), .int .i64 rk, .int .i64 rd, .int .i64 13, .int .i64 0, .slice none 0 0, .slice none 0 0, .int .i64 (hi : Int), .int .i64 ((hi : Int) + 1)] 44 (0, 0))) := Lib.hid (by
           rw [hW5]
           exact row_setCell (row_setCell (row_setCell (row_setCell (row_else (Ne.symm n34) (row_else (Ne.symm n24) (row_else (Ne.symm n14) HF.out.h4))) 7 _) 8 _) 9 _) 10 _)
         have HBX5 : Hid (W5.heap[wr.heap.size]? = some (.cells #[.int .u8 (xc : Int), .int .u32 (xq : Int), .int .u8 (kind : Int), .slice ao no co, .int .u32 (rv : Int), .int .i64 rk, .int .i64 rd, .int .i64 ae, .int .i64 ap, .slice av nv cv, .slice al nl cl] 42 (0, 0))) := Lib.hid (by
           have h0 := HF.out.lo
           have h1 := HWS.out
           rw [hW5]
           exact row_else (by omega) (row_else (by omega) (row_else (by omega) (row_else (by omega) (row_else (by omega) (row_else (by omega) (row_else (by omega) (HF.out.mod.heap HBX.out (fun f => f)))))))))
         rw [← hW5]
         clear hW5 c1 c2 c3 c4 c5 c6 c7 g1 g2 g3 g4 g5 g6 g7 z1 z2 z3 z4
         have y5_0 := cell_of_row HB5.out 0
         have y5_1 := cell_of_row HB5.out 1
         have y5_2 := cell_of_row HB5.out 2
         have y5_3 := cell_of_row HB5.out 3
         have y5_4 := cell_of_row HB5.out 4
         have y5_5 := cell_of_row HB5.out 5
         have y5_6 := cell_of_row HB5.out 6
         have y5_7 := cell_of_row HB5.out 7
         have y5_8 := cell_of_row HB5.out 8
         have y5_9 := cell_of_row HB5.out 9
         have y5_10 := cell_of_row HB5.out 10
         have y5_11 := cell_of_row HB5.out 11
         have y5_12 := cell_of_row HB5.out 12
         simp at y5_0 y5_1 y5_2 y5_3 y5_4 y5_5 y5_6 y5_7 y5_8 y5_9 y5_10 y5_11 y5_12
         have x5 := lt_of_block HB5.out
         have y1_0 := cell_of_row HB1.out 0
         have y1_1 := cell_of_row HB1.out 1
         have y1_2 := cell_of_row HB1.out 2
         have y1_3 := cell_of_row HB1.out 3
         have y1_4 := cell_of_row HB1.out 4
         have y1_5 := cell_of_row HB1.out 5
         have y1_6 := cell_of_row HB1.out 6
         have y1_7 := cell_of_row HB1.out 7
         have y1_8 := cell_of_row HB1.out 8
         have y1_9 := cell_of_row HB1.out 9
         have y1_10 := cell_of_row HB1.out 10
         have y1_11 := cell_of_row HB1.out 11
         have y1_12 := cell_of_row HB1.out 12
         simp at y1_0 y1_1 y1_2 y1_3 y1_4 y1_5 y1_6 y1_7 y1_8 y1_9 y1_10 y1_11 y1_12
         have x1 := lt_of_block HB1.out
         have y2_0 := cell_of_row HB2.out 0
         have y2_1 := cell_of_row HB2.out 1
         have y2_2 := cell_of_row HB2.out 2
         have y2_3 := cell_of_row HB2.out 3
         have y2_4 := cell_of_row HB2.out 4
         have y2_5 := cell_of_row HB2.out 5
         have y2_6 := cell_of_row HB2.out 6
         have y2_7 := cell_of_row HB2.out 7
         have y2_8 := cell_of_row HB2.out 8
         have y2_9 := cell_of_row HB2.out 9
         have y2_10 := cell_of_row HB2.out 10
         have y2_11 := cell_of_row HB2.out 11
         have y2_12 := cell_of_row HB2.out 12
         simp at y2_0 y2_1 y2_2 y2_3 y2_4 y2_5 y2_6 y2_7 y2_8 y2_9 y2_10 y2_11 y2_12
         have x2 := lt_of_block HB2.out
         have y3_0 := cell_of_row HB3.out 0
         have y3_1 := cell_of_row HB3.out 1
         have y3_2 := cell_of_row HB3.out 2
         have y3_3 := cell_of_row HB3.out 3
         have y3_4 := cell_of_row HB3.out 4
         have y3_5 := cell_of_row HB3.out 5
         have y3_6 := cell_of_row HB3.out 6
         have y3_7 := cell_of_row HB3.out 7
         have y3_8 := cell_of_row HB3.out 8
         have y3_9 := cell_of_row HB3.out 9
         have y3_10 := cell_of_row HB3.out 10
         have y3_11 := cell_of_row HB3.out 11
         have y3_12 := cell_of_row HB3.out 12
         simp at y3_0 y3_1 y3_2 y3_3 y3_4 y3_5 y3_6 y3_7 y3_8 y3_9 y3_10 y3_11 y3_12
         have x3 := lt_of_block HB3.out
         have y4_0 := cell_of_row HB4.out 0
         have y4_1 := cell_of_row HB4.out 1
         have y4_2 := cell_of_row HB4.out 2
         have y4_3 := cell_of_row HB4.out 3
         have y4_4 := cell_of_row HB4.out 4
         have y4_5 := cell_of_row HB4.out 5
         have y4_6 := cell_of_row HB4.out 6
         have y4_7 := cell_of_row HB4.out 7
         have y4_8 := cell_of_row HB4.out 8
         have y4_9 := cell_of_row HB4.out 9
         have y4_10 := cell_of_row HB4.out 10
         have y4_11 := cell_of_row HB4.out 11
         have y4_12 := cell_of_row HB4.out 12
         simp at y4_0 y4_1 y4_2 y4_3 y4_4 y4_5 y4_6 y4_7 y4_8 y4_9 y4_10 y4_11 y4_12
         have x4 := lt_of_block HB4.out
         have HC5 : Hid (∀ w', Mod (fun _ => False) (W5.alloc (.cells #[.int .u8 (xc : Int), .int .u32 (xq : Int), .int .u8 (kind : Int), .slice ao no co, .int .u32 (rv : Int), .int .i64 rk, .int .i64 rd, .int .i64 ae, .int .i64 ap, .slice av nv cv, .slice al nl cl, .int .i64 (hi : Int), .int .i64 ((hi : Int) + 1), .int .u8 (xc : Int), .int .u32 (xq : Int), .int .u8 (kind : Int), .slice ao no co, .int .u32 (rv : Int), .int .i64 rk, .int .i64 rd, .int .i64 ae, .int .i64 ap, .slice av nv cv, .slice al nl cl, .int .i64 (hi : Int), .int .i64 (hi : Int), .int .u8 (xc : Int), .int .u32 (xq : Int), .int .u8 (kind : Int), .slice ao no co, .int .u32 (rv : Int), .int .i64 rk, .int .i64 rd, .int .i64 ae, .int .i64 ap, .slice av nv cv, .slice al nl cl, .int .i64 ((hi : Int) + 1), .int .i64 ((hi : Int) + 1), .int .u8 (xc : Int), .int .u32 77, .int .u8 (kind : Int), .slice ao no co, .int .u32 (rv : Int), .int .i64 rk, .int .i64 rd, .int .i64 ae, .int .i64 ap, .slice av nv cv, .slice al nl cl, .int .i64 (hi : Int), .int .i64 ((hi : Int) + 1), .int .u8 (xc : Int), .int .u32 (xq : Int), .int .u8 (kind : Int), .slice ao no co, .int .u32 (rv : Int), .int .i64 rk, .int .i64 rd, .int .i64 13, .int .i64 0, .slice none 0 0, .slice none 0 0, .int .i64 (hi : Int), .int .i64 ((hi : Int) + 1)] 44)) w' → CRd Cm.c13 13 w' (.slice (some ⟨W5.heap.size, 0, none⟩) 5 5) [⟨⟨xc, xq, ⟨kind, ops, rv, rk, rd⟩, ae, ap, vals, list, (hi : Int), (hi : Int) + 1⟩, .slice ao no co, .slice av nv cv, .slice al nl cl⟩, ⟨⟨xc, xq, ⟨kind, ops, rv, rk, rd⟩, ae, ap, vals, list, (hi : Int), (hi : Int)⟩, .slice ao no co, .slice av nv cv, .slice al nl cl⟩, ⟨⟨xc, xq, ⟨kind, ops, rv, rk, rd⟩, ae, ap, vals, list, (hi : Int) + 1, (hi : Int) + 1⟩, .slice ao no co, .slice av nv cv, .slice al nl cl⟩, ⟨⟨xc, 77, ⟨kind, ops, rv, rk, rd⟩, ae, ap, vals, list, (hi : Int), (hi : Int) + 1⟩, .slice ao no co, .slice av nv cv, .slice al nl cl⟩, ⟨⟨xc, xq, ⟨kind, ops, rv, rk, rd⟩, 13, 0, [], [], (hi : Int), (hi : Int) + 1⟩, .slice ao no co, .slice none 0 0, .slice none 0 0⟩]) := Lib.hid (fun w' mm => by
           have hrd := (HOWC.out.rd HK.out).keep (HM5.out.trans (((Mod.refl _ _).alloc _).trans mm))
           refine crd_lit (mm.heap (heap_alloc_new' _ _) (fun f => f)) (by rfl) rfl (by decide) (fun c hc => ?_)
           have hq : xq < 4294967296 := hrd.nm.2
           have hx : xc < 256 := hrd.nm.1
           simp only [List.mem_cons, List.mem_nil_iff, or_false] at hc
           rcases hc with rfl | rfl | rfl | rfl | rfl
           · exact ⟨hrd.nm, hrd.v, hrd.ops, hrd.vals, hrd.list⟩
           · exact ⟨hrd.nm, hrd.v, hrd.ops, hrd.vals, hrd.list⟩
           · exact ⟨hrd.nm, hrd.v, hrd.ops, hrd.vals, hrd.list⟩
           · exact ⟨⟨hx, by show (77 : Nat) < 4294967296; decide⟩, hrd.v, hrd.ops, hrd.vals, hrd.list⟩
           · exact ⟨hrd.nm, hrd.v, hrd.ops, RdS.none _ _, RdS.none _ _⟩)
         obtain ⟨L5, hL5⟩ : ∃ l : List Cm, l = [⟨⟨xc, xq, ⟨kind, ops, rv, rk, rd⟩, ae, ap, vals, list, (hi : Int), (hi : Int) + 1⟩, .slice ao no co, .slice av nv cv, .slice al nl cl⟩, ⟨⟨xc, xq, ⟨kind, ops, rv, rk, rd⟩, ae, ap, vals, list, (hi : Int), (hi : Int)⟩, .slice ao no co, .slice av nv cv, .slice al nl cl⟩, ⟨⟨xc, xq, ⟨kind, ops, rv, rk, rd⟩, ae, ap, vals, list, (hi : Int) + 1, (hi : Int) + 1⟩, .slice ao no co, .slice av nv cv, .slice al nl cl⟩, ⟨⟨xc, 77, ⟨kind, ops, rv, rk, rd⟩, ae, ap, vals, list, (hi : Int), (hi : Int) + 1⟩, .slice ao no co, .slice av nv cv, .slice al nl cl⟩, ⟨⟨xc, xq, ⟨kind, ops, rv, rk, rd⟩, 13, 0, [], [], (hi : Int), (hi : Int) + 1⟩, .slice ao no co, .slice none 0 0, .slice none 0 0⟩] := ⟨_, rfl⟩
         rw [← hL5] at HC5
         have HN5 : Hid (L5.length = 5) := Lib.hid (by rw [hL5]; rfl)
         have HS5 : Hid (∀ z ∈ L5, z.Small) := Lib.hid (fun z hz => by
           rw [hL5] at hz
           have h1 := HSC.out.ops
           have h2 := HSC.out.vals
           have h3 := HSC.out.list
           simp only [List.mem_cons, List.mem_nil_iff, or_false] at hz
           rcases hz with rfl | rfl | rfl | rfl | rfl
           · exact ⟨h1, h2, h3⟩
           · exact ⟨h1, h2, h3⟩
           · exact ⟨h1, h2, h3⟩
           · exact ⟨h1, h2, h3⟩
           · exact ⟨h1, (show (0 : Nat) * 32 ≤ 140737488355328 by decide), (show (0 : Nat) * 4 ≤ 140737488355328 by decide)⟩)
         have HV5 : Hid (∀ (k : Nat) (z : Cm), L5[k]? = some z → verdict (ms.map Cm.x) [z.x] = saidOf k) := Lib.hid (fun k z hz => by
           rw [hL5] at hz
           match k, hz with
           | 0, hz => obtain rfl := Option.some.inj hz; exact (told_law HL.out.hist HCX.out _ _).trans (if_pos ⟨Int.le_refl _, by omega⟩)
           | 1, hz => obtain rfl := Option.some.inj hz; exact (told_law HL.out.hist HCX.out _ _).trans (if_neg (fun h => by omega))
           | 2, hz => obtain rfl := Option.some.inj hz; exact (told_law HL.out.hist HCX.out _ _).trans (if_neg (fun h => by omega))
           | 3, hz => obtain rfl := Option.some.inj hz; exact lone_law HL.out.hist HCX.out 77 (fun y hy => by obtain ⟨c, hc, rfl⟩ := List.mem_map.1 hy; have := (HL.out.sq c hc).2; omega) _ _
           | 4, hz => obtain rfl := Option.some.inj hz; exact given_law HL.out.hist HCX.out 0 [] [] _ _
           | k + 5, hz => cases hz)
         obtain ⟨wo, rfl⟩ : ∃ wo : World, wo = wr := ⟨_, rfl⟩
         clear hL5
         go_wp2_with fail
         go_loopw [110] (fun i wy => ∃ k : Nat, i = .int .i64 (k : Int) ∧ k ≤ 5 ∧ Mod (fun _ => False) (W5.alloc (.cells #[.int .u8 (xc : Int), .int .u32 (xq : Int), .int .u8 (kind : Int), .slice ao no co, .int .u32 (rv : Int), .int .i64 rk, .int .i64 rd, .int .i64 ae, .int .i64 ap, .slice av nv cv, .slice al nl cl, .int .i64 (hi : Int), .int .i64 ((hi : Int) + 1), .int .u8 (xc : Int), .int .u32 (xq : Int), .int .u8 (kind : Int), .slice ao no co, .int .u32 (rv : Int), .int .i64 rk, .int .i64 rd, .int .i64 ae, .int .i64 ap, .slice av nv cv, .slice al nl cl, .int .i64 (hi : Int), .int .i64 (hi : Int), .int .u8 (xc : Int), .int .u32 (xq : Int), .int .u8 (kind : Int), .slice ao no co, .int .u32 (rv : Int), .int .i64 rk, .int .i64 rd, .int .i64 ae, .int .i64 ap, .slice av nv cv, .slice al nl cl, .int .i64 ((hi : Int) + 1), .int .i64 ((hi : Int) + 1), .int .u8 (xc : Int), .int .u32 77, .int .u8 (kind : Int), .slice ao no co, .int .u32 (rv : Int), .int .i64 rk, .int .i64 rd, .int .i64 ae, .int .i64 ap, .slice av nv cv, .slice al nl cl, .int .i64 (hi : Int), .int .i64 ((hi : Int) + 1), .int .u8 (xc : Int), .int .u32 (xq : Int), .int .u8 (kind : Int), .slice ao no co, .int .u32 (rv : Int), .int .i64 rk, .int .i64 rd, .int .i64 13, .int .i64 0, .slice none 0 0, .slice none 0 0, .int .i64 (hi : Int), .int .i64 ((hi : Int) + 1)] 44)) wy) (fun i _ => 5 - (intOf i).toNat)
         case atStart => exact ⟨0, rfl, by omega, Mod.refl _ _⟩
         case round =>
           obtain ⟨k2, rfl, hk5, hmy⟩ := hrel
           have HMY := Lib.hid hmy
           by_cases hk2 : k2 < 5
           · obtain ⟨z, hz⟩ : ∃ z, L5[k2]? = some z := ⟨_, List.getElem?_eq_getElem (by rw [HN5.out]; exact hk2)⟩
             have hcz := HC5.out wr HMY.out
             obtain ⟨bz, ofz, e1, hbz, hcs⟩ := CRd.ent (cells := Cm.c13) (size := 13) (fun _ => rfl) (by decide) hcz hz rfl
             injection e1 with e1
             injection e1 with e1 e2 _
             subst e1 e2
             have hrz := hcz.each z (List.mem_of_getElem? hz)
             have HRZ := Lib.hid hrz
             have HVZ := Lib.hid (HV5.out k2 z hz)
             have HSZ := Lib.hid (HS5.out z (List.mem_of_getElem? hz))
             obtain ⟨yo, yoc, gvo⟩ := hrz.vo_eq
             obtain ⟨yv, yvc, gvv⟩ := hrz.vv_eq
             obtain ⟨yl, ylc, gvl⟩ := hrz.vl_eq
             clear hz hcz hrz hmy
             obtain ⟨⟨yc, yq, ⟨ykind, yops, yrv, yrk, yrd⟩, ye, yp, yvals, ylist, yfr, yto⟩, yvo, yvv, yvl⟩ := z
             simp only at gvo gvv gvl
             subst gvo gvv gvl
             obtain ⟨yno, hyno⟩ : ∃ n, n = yops.length := ⟨_, rfl⟩
             obtain ⟨ynv, hynv⟩ : ∃ n, n = yvals.length := ⟨_, rfl⟩
             obtain ⟨ynl, hynl⟩ : ∃ n, n = ylist.length := ⟨_, rfl⟩
             have HNY : Hid (yno = yops.length ∧ ynv = yvals.length ∧ ynl = ylist.length) := Lib.hid ⟨hyno, hynv, hynl⟩
             simp only [Cm.c13, ← hyno, ← hynv, ← hynl] at hcs
             have p0 := hcs 0 (by omega)
             have p1 := hcs 1 (by omega)
             have p2 := hcs 2 (by omega)
             have p3 := hcs 3 (by omega)
             have p4 := hcs 4 (by omega)
             have p5 := hcs 5 (by omega)
             have p6 := hcs 6 (by omega)
             have p7 := hcs 7 (by omega)
             have p8 := hcs 8 (by omega)
             have p9 := hcs 9 (by omega)
             have p10 := hcs 10 (by omega)
             have p11 := hcs 11 (by omega)
             have p12 := hcs 12 (by omega)
             simp only [List.getElem?_cons_succ, List.getElem?_cons_zero, Nat.zero_add, Nat.add_zero] at p0 p1 p2 p3 p4 p5 p6 p7 p8 p9 p10 p11 p12
             clear hcs hyno hynv hynl
             go_upto_region 21 with fail
             obtain ⟨W7, hW7⟩ : ∃ W, W = wr.alloc (.cells #[.int .u8 (yc : Int), .int .u32 (yq : Int), .int .u8 (ykind : Int), .slice yo yno yoc, .int .u32 (yrv : Int), .int .i64 yrk, .int .i64 yrd, .int .i64 ye, .int .i64 yp, .slice yv ynv yvc, .slice yl ynl ylc, .int .i64 yfr, .int .i64 yto] 44) := ⟨_, rfl⟩
             have HM7 : Hid (Mod (fun _ => False) wr W7) := Lib.hid (by rw [hW7]; exact (Mod.refl _ _).alloc _)
             have HB7 : Hid (W7.heap[wr.heap.size]? = some (.cells #[.int .u8 (yc : Int), .int .u32 (yq : Int), .int .u8 (ykind : Int), .slice yo yno yoc, .int .u32 (yrv : Int), .int .i64 yrk, .int .i64 yrd, .int .i64 ye, .int .i64 yp, .slice yv ynv yvc, .slice yl ynl ylc, .int .i64 yfr, .int .i64 yto] 44 (0, 0))) := Lib.hid (by rw [hW7]; exact heap_alloc_new' _ _)
             rw [← hW7]
             clear hW7 p0 p1 p2 p3 p4 p5 p6 p7 p8 p9 p10 p11 p12
             have HMO : Hid (Mod (fun _ => False) wo W7) := Lib.hid (HM5.out.trans (((Mod.refl _ _).alloc _).trans (HMY.out.trans HM7.out)))
             have HC7 : Hid (∀ w', Mod (fun _ => False) W7 w' → Calls Tryz.prog 11 #[.slice (some ⟨bx, ofx, none⟩) nm cu] w' fun e w'' => ∃ a n c ms', e = .returned (.slice a n c) ∧ Mod (fun _ => False) w' w'' ∧ CRd Cm.c14 14 w'' (.slice a n c) ms' ∧ ms'.map Cm.x = ms.map Cm.x) := Lib.hid (fun w' mm => (HCOM.out _ ms w' (HL.out.st.crd.keep (HMO.out.trans mm)) HL.out.sm (by have := HL.out.short; omega)).mono (by
               rintro e w'' ⟨a, c, ms', rfl, h1, h2, h3⟩
               exact ⟨a, _, c, ms', rfl, h1, h2, h3⟩))
             have HR7 : Hid (∀ b w', w'.heap[b]? = some (.cells #[.int .u8 (yc : Int), .int .u32 (yq : Int), .int .u8 (ykind : Int), .slice yo yno yoc, .int .u32 (yrv : Int), .int .i64 yrk, .int .i64 yrd, .int .i64 ye, .int .i64 yp, .slice yv ynv yvc, .slice yl ynl ylc, .int .i64 yfr, .int .i64 yto] 44 (0, 0)) → Mod (fun _ => False) W7 w' → Calls Tryz.prog 12 #[.slice (some ⟨b, 0, none⟩) 1 1] w' fun e w'' => ∃ a n c ms', e = .returned (.slice a n c) ∧ Mod (fun _ => False) w' w'' ∧ CRd Cm.c13 13 w'' (.slice a n c) ms' ∧ ms'.map Cm.x = [⟨yc, yq, ⟨ykind, yops, yrv, yrk, yrd⟩, ye, yp, yvals, ylist, yfr, yto⟩]) := Lib.hid (fun b w' hb mm => by
               have hb' : w'.heap[b]? = some (.cells (Cm.c13 ⟨⟨yc, yq, ⟨ykind, yops, yrv, yrk, yrd⟩, ye, yp, yvals, ylist, yfr, yto⟩, .slice yo yops.length yoc, .slice yv yvals.length yvc, .slice yl ylist.length ylc⟩).toArray 44 (0, 0)) := by
                 simp only [Cm.c13, ← HNY.out.1, ← HNY.out.2.1, ← HNY.out.2.2]
                 exact hb
               refine (HREP.out _ [_] w' (crd_block hb' (HRZ.out.keep (HM7.out.trans mm))) (by simpa using HSZ.out) (by show 1 ≤ 4096; decide)).mono ?_
               rintro e w'' ⟨a, c, ms', rfl, h1, h2, h3⟩
               exact ⟨a, _, c, ms', rfl, h1, h2, h3⟩)
             have HW7 : Hid (∀ w', Mod (fun _ => False) W7 w' → Mod (fun _ => False) w w') := Lib.hid (fun w' mm => HK.out.trans (HMO.out.trans mm))
             have HKEEP : Hid (∀ w', Mod (fun _ => False) W7 w' → (fun w' : World => w'.cell? ⟨wr.heap.size, 0, none⟩ = some (.int .u8 (yc : Int)) ∧ w'.cell? ⟨wr.heap.size, 1, none⟩ = some (.int .u32 (yq : Int)) ∧ w'.cell? ⟨wr.heap.size, 2, none⟩ = some (.int .u8 (ykind : Int)) ∧ w'.cell? ⟨wr.heap.size, 3, none⟩ = some (.slice yo yno yoc) ∧ w'.cell? ⟨wr.heap.size, 4, none⟩ = some (.int .u32 (yrv : Int)) ∧ w'.cell? ⟨wr.heap.size, 5, none⟩ = some (.int .i64 yrk) ∧ w'.cell? ⟨wr.heap.size, 6, none⟩ = some (.int .i64 yrd) ∧ w'.cell? ⟨wr.heap.size, 7, none⟩ = some (.int .i64 ye) ∧ w'.cell? ⟨wr.heap.size, 8, none⟩ = some (.int .i64 yp) ∧ w'.cell? ⟨wr.heap.size, 9, none⟩ = some (.slice yv ynv yvc) ∧ w'.cell? ⟨wr.heap.size, 10, none⟩ = some (.slice yl ynl ylc) ∧ w'.cell? ⟨wr.heap.size, 11, none⟩ = some (.int .i64 yfr) ∧ w'.cell? ⟨wr.heap.size, 12, none⟩ = some (.int .i64 yto)) w') := Lib.hid (fun w' mm => by
               have h5 := mm.heap HB7.out (fun f => f)
               exact ⟨cell_of_row h5 0, cell_of_row h5 1, cell_of_row h5 2, cell_of_row h5 3, cell_of_row h5 4, cell_of_row h5 5, cell_of_row h5 6, cell_of_row h5 7, cell_of_row h5 8, cell_of_row h5 9, cell_of_row h5 10, cell_of_row h5 11, cell_of_row h5 12⟩)
             have HMC : Hid (Mod (fun _ => False) W7 W7.drew) := Lib.hid (Mod.refl _ _).drew
             have HVE7 : Hid (∀ v u ms1 rs1 w', Mod (fun _ => False) W7 w' → CRd Cm.c14 14 w' v ms1 → CRd Cm.c13 13 w' u rs1 → ms1.map Cm.x = ms.map Cm.x → rs1.map Cm.x = [⟨yc, yq, ⟨ykind, yops, yrv, yrk, yrd⟩, ye, yp, yvals, ylist, yfr, yto⟩] → Calls Tryz.prog 10 #[v, u] w' fun e w'' => e = .returned (.tuple #[.agg #[.int .i64 (ruleOf k2 : Nat), .int .i64 0], .bool (decide (k2 = 0)), .int .i64 0]) ∧ Mod (fun _ => False) w' w'') := Lib.hid (fun v u ms1 rs1 w' m h1 h2 h3 h4 => by
               have h := HVER.out v u ms1 rs1 w' _ _ (HW7.out _ m) h1 h2 h3 h4 (by rw [List.length_map]; have := HL.out.short; omega) (by show 1 ≤ 4096; decide)
               rw [HVZ.out, said_eq] at h
               exact h)
             go_cut [18, 19, 20] (fun p18 p19 p20 wx => ∃ b : Nat, p18 = .pointer (some ⟨b, 0, none⟩) ∧ p19 = .bool (decide (k2 = 0)) ∧ p20 = .int .i64 0 ∧ Mod (fun _ => False) W7 wx ∧ wx.heap[b]? = some (.cells #[.int .i64 (ruleOf k2 : Nat), .int .i64 0] 46 (0, 0)))
             case first =>
               refine once_21 _ _ _ _ _ _ _ _ _ _ _ _ _ _ _ _ _ _ _ _ _ _ _ _ _ _ _ _ _ _ _ _ _ _ _ _ _ _ _ _ _ _ _ _ _ _ _ _ _ _ _ _ _ _ _ _ _ _ _ _ _ _ _ _ _ _ _ _ _ _ _ _ _ _ _ _ _ _ _ _ _ _ _ _ _ _ _ _ _ _ _ _ _ _ _ _ _ _ _ _ _ _ _ _ _ _ _ _ _ _ _ _ _ _ _ _ _ _ _ _ _ _ _ _ _ _ _ _ _ _ _ _ _ _ _ _ _ _ _ _ _ _ _ _ _ _ _ _ _ _ _ _ _ _ _ _ _ _ _ _ _ _ _ _ _ _ _ _ _ _ _ _ _ _ _ _ _ _ _ _ _ _ _ _ _ _ _ _ _ _ _ _ _ _ _ _ _ _ HC7 HR7 (C := ms.map Cm.x) (R := [⟨yc, yq, ⟨ykind, yops, yrv, yrk, yrd⟩, ye, yp, yvals, ylist, yfr, yto⟩]) (rl := ruleOf k2) (okb := decide (k2 = 0)) HVE7 HKEEP ?_
               intro z115 z116 z117 z118 z119 z120 z121 z122 z123 z124 b wx h1 h2
               first
                 | go_meet
                 | (go_step; go_meet)
                 | (go_step; go_step; go_meet)
               exact ⟨b, rfl, rfl, rfl, h1, h2⟩
             case rest =>
               obtain ⟨bf, rfl, rfl, rfl, hmf, hbf⟩ := hcut
               have HMF := Lib.hid hmf
               have q0 := cell_of_row hbf 0
               have q1 := cell_of_row hbf 1
               simp at q0 q1
               have zf := lt_of_block hbf
               have hk2c : k2 = 0 ∨ k2 = 1 ∨ k2 = 2 ∨ k2 = 3 ∨ k2 = 4 := by omega
               clear hmf hbf hk2 hk5 HVZ HC7 HR7 HKEEP HW7 HMC
               rcases hk2c with rfl | rfl | rfl | rfl | rfl
               · replace q0 : wc.cell? ⟨bf, 0, none⟩ = some (.int .i64 0) := q0
                 go_wp2_with fail
                 go_roundw
                 case rel => exact ⟨1, by go_num, by omega, HMY.out.trans (HM7.out.trans (HMF.out.alloc _))⟩
                 case measure => simp [intOf]
               · replace q0 : wc.cell? ⟨bf, 0, none⟩ = some (.int .i64 3) := q0
                 go_wp2_with fail
                 go_roundw
                 case rel => exact ⟨2, by go_num, by omega, HMY.out.trans (HM7.out.trans (HMF.out.alloc _))⟩
                 case measure => simp [intOf]
               · replace q0 : wc.cell? ⟨bf, 0, none⟩ = some (.int .i64 3) := q0
                 go_wp2_with fail
                 go_roundw
                 case rel => exact ⟨3, by go_num, by omega, HMY.out.trans (HM7.out.trans (HMF.out.alloc _))⟩
                 case measure => simp [intOf]
               · replace q0 : wc.cell? ⟨bf, 0, none⟩ = some (.int .i64 3) := q0
                 go_wp2_with fail
                 go_roundw
                 case rel => exact ⟨4, by go_num, by omega, HMY.out.trans (HM7.out.trans (HMF.out.alloc _))⟩
                 case measure => simp [intOf]
               · replace q0 : wc.cell? ⟨bf, 0, none⟩ = some (.int .i64 4) := q0
                 go_wp2_with fail
                 go_roundw
                 case rel => exact ⟨5, by go_num, by omega, HMY.out.trans (HM7.out.trans (HMF.out.alloc _))⟩
                 case measure => simp [intOf]
           · obtain ⟨wi, rfl⟩ : ∃ wi : World, wi = wr := ⟨_, rfl⟩
             have HWI : Hid (Mod (fun _ => False) wo wi) := Lib.hid (HM5.out.trans (((Mod.refl _ _).alloc _).trans HMY.out))
             have HCE : Hid (∀ w', Mod (fun _ => False) wi w' → Calls Tryz.prog 11 #[.slice (some ⟨bx, ofx, none⟩) nm cu] w' fun e w'' => ∃ a n c ms', e = .returned (.slice a n c) ∧ Mod (fun _ => False) w' w'' ∧ CRd Cm.c14 14 w'' (.slice a n c) ms' ∧ ms'.map Cm.x = ms.map Cm.x) := Lib.hid (fun w' mm => (HCOM.out _ ms w' (HL.out.st.crd.keep (HWI.out.trans mm)) HL.out.sm (by have := HL.out.short; omega)).mono (by
               rintro e w'' ⟨a, c, ms', rfl, h1, h2, h3⟩
               exact ⟨a, _, c, ms', rfl, h1, h2, h3⟩))
             have HWW : Hid (Mod (fun _ => False) w wi) := Lib.hid (HK.out.trans HWI.out)
             have HW5I : Hid (Mod (fun _ => False) W5 wi) := Lib.hid (((Mod.refl _ _).alloc _).trans HMY.out)
             go_upto_region 27 with (first
               | (go_at_call 15; go_loud (refine (HFIN.out _ _ _ (HWW.out.trans HM11.out) HCO.out.1 (by have h := congrArg List.length HCO.out.2; simp only [List.length_map] at h; have := HL.out.short; omega)).mono ?_; (rintro e w13 ⟨a13, n13, c13, rfl, hn13, hm13⟩); have HM13 := Lib.hid (HM11.out.trans hm13); clear hm13))
               | (go_at_call 11; go_loud (refine (HCE.out _ (Mod.refl _ _)).mono ?_; (rintro e w11 ⟨a11, n11, c11, ms11, rfl, hm11, hc11, hx11⟩); have HCO := Lib.hid (And.intro hc11 hx11); have HM11 := Lib.hid hm11; clear hm11 hc11 hx11)))
             have HW8 : Hid (Hw w w1.heap.size (.slice (some ⟨bx, ofx, none⟩) nm cu) (.slice none 0 0) ms [] (graphTo (ms.map Cm.x) ms.length) w13) := Lib.hid (HL.out.st.keep (HWI.out.trans HM13.out))
             have HBV : Hid (w13.heap[wo.heap.size]? = some (.cells #[.int .u8 (xc : Int), .int .u32 (xq : Int), .int .u8 (kind : Int), .slice ao no co, .int .u32 (rv : Int), .int .i64 rk, .int .i64 rd, .int .i64 ae, .int .i64 ap, .slice av nv cv, .slice al nl cl] 42 (0, 0))) := Lib.hid ((HW5I.out.trans HM13.out).heap HBX5.out (fun f => f))
             have HZ1 : Hid (w1.heap.size < wo.heap.size ∧ wo.heap.size < w13.heap.size ∧ w.heap.size ≤ w13.heap.size) := Lib.hid ⟨(by obtain ⟨cs, hc⟩ := HL.out.st.gr_box; exact lt_of_block hc), lt_of_block HBV.out, (HWW.out.trans HM13.out).size⟩
             obtain ⟨V, hV⟩ : ∃ V : Nat, V = w13.heap.size := ⟨_, rfl⟩
             have HZV : Hid (w1.heap.size < wo.heap.size ∧ wo.heap.size < V ∧ w.heap.size ≤ V ∧ V ≤ w13.heap.size) := Lib.hid (by have := HZ1.out; omega)
             clear hV
             have HKS : Hid (∀ w' : World, w'.heap[wo.heap.size]? = some (.cells #[.int .u8 (xc : Int), .int .u32 (xq : Int), .int .u8 (kind : Int), .slice ao no co, .int .u32 (rv : Int), .int .i64 rk, .int .i64 rd, .int .i64 ae, .int .i64 ap, .slice av nv cv, .slice al nl cl] 42 (0, 0)) → (fun w' : World => w'.cell? ⟨wo.heap.size, 0, none⟩ = some (.int .u8 (xc : Int)) ∧ w'.cell? ⟨wo.heap.size, 1, none⟩ = some (.int .u32 (xq : Int)) ∧ w'.cell? ⟨wo.heap.size, 2, none⟩ = some (.int .u8 (kind : Int)) ∧ w'.cell? ⟨wo.heap.size, 3, none⟩ = some (.slice ao no co) ∧ w'.cell? ⟨wo.heap.size, 4, none⟩ = some (.int .u32 (rv : Int)) ∧ w'.cell? ⟨wo.heap.size, 5, none⟩ = some (.int .i64 rk) ∧ w'.cell? ⟨wo.heap.size, 6, none⟩ = some (.int .i64 rd)) w') := Lib.hid (fun w' h5 => ⟨cell_of_row h5 0, cell_of_row h5 1, cell_of_row h5 2, cell_of_row h5 3, cell_of_row h5 4, cell_of_row h5 5, cell_of_row h5 6⟩)
             obtain ⟨ag, hag⟩ : ∃ a, a = doG (graphTo (ms.map Cm.x) ms.length) ⟨kind, ops, rv, rk, rd⟩ := ⟨_, rfl⟩
             obtain ⟨nv2, hnv2⟩ : ∃ n, n = ag.2.vals.length := ⟨_, rfl⟩
             obtain ⟨nl2, hnl2⟩ : ∃ n, n = ag.2.list.length := ⟨_, rfl⟩
             obtain ⟨ze, hze⟩ : ∃ n, n = ag.2.e := ⟨_, rfl⟩
             obtain ⟨za, hza⟩ : ∃ n, n = ag.2.at_ := ⟨_, rfl⟩
             have HDO2 : Hid (∀ U M w', Hw w w1.heap.size U (.slice none 0 0) M [] (graphTo (ms.map Cm.x) ms.length) w' → Calls Tryz.prog 9 #[.pointer (some ⟨w1.heap.size, 0, none⟩), .agg #[.int .u8 (kind : Int), .slice ao no co, .int .u32 (rv : Int), .int .i64 rk, .int .i64 rd]] w' fun e w'' => ∃ a8 c8 a9 c9, e = .returned (.agg #[.int .i64 (ze : Int), .int .i64 (za : Int), .slice a8 nv2 c8, .slice a9 nl2 c9]) ∧ RDq w1.heap.size (graphTo (ms.map Cm.x) ms.length) ⟨kind, ops, rv, rk, rd⟩ (.slice a8 nv2 c8) (.slice a9 nl2 c9) w' w'') := Lib.hid (fun U M w' h => by
               have ho : ORd w' (.slice ao no co) ops := HOWC.out.ops.keep h.mod
               have hrv : rqV ⟨kind, ops, rv, rk, rd⟩ (.slice ao no co) = .agg #[.int .u8 (kind : Int), .slice ao no co, .int .u32 (rv : Int), .int .i64 rk, .int .i64 rd] := rfl
               rw [← hrv]
               refine (rdq_any w1.heap.size _ ⟨kind, ops, rv, rk, rd⟩ (.slice ao no co) w' h.rf h.good ho).mono ?_
               rintro e w'' ⟨vv, vl, he, hd⟩
               have h1 := hd.vals
               have h2 := hd.list
               rw [← hag] at h1 h2 he
               rw [← hnv2] at h1
               rw [← hnl2] at h2
               rw [← hze, ← hza] at he
               obtain ⟨a8, c8, rfl, -⟩ := h1.shape
               obtain ⟨a9, c9, rfl, -⟩ := h2.shape
               exact ⟨a8, c8, a9, c9, he, hd⟩)
             have HOWN2 : Hid (∀ a8 c8 a9 c9 w' w'', RDq w1.heap.size (graphTo (ms.map Cm.x) ms.length) ⟨kind, ops, rv, rk, rd⟩ (.slice a8 nv2 c8) (.slice a9 nl2 c9) w' w'' → Cm.Own w w'' ⟨⟨xc, xq, ⟨kind, ops, rv, rk, rd⟩, (ze : Int), (za : Int), ag.2.vals, ag.2.list, 0, 0⟩, .slice ao no co, .slice a8 nv2 c8, .slice a9 nl2 c9⟩) := Lib.hid (fun a8 c8 a9 c9 w' w'' hd => by
               have h1 := hd.vals
               have h2 := hd.list
               rw [← hag] at h1 h2
               exact ⟨HOWC.out.nm, HOWC.out.v, HOWC.out.ops, h1, h2⟩)
             have HAG2 : Hid (ag = doG (graphTo (ms.map Cm.x) ms.length) ⟨kind, ops, rv, rk, rd⟩ ∧ nv2 = ag.2.vals.length ∧ nl2 = ag.2.list.length ∧ ze = ag.2.e ∧ za = ag.2.at_) := Lib.hid ⟨hag, hnv2, hnl2, hze, hza⟩
             have HSZ : Hid (V ≤ w13.heap.size) := Lib.hid HZV.out.2.2.2
             have HWo := HW8
             clear hag hnv2 hnl2 hze hza
             go_cut [24] (fun p24 wx => ∃ a24 c24 vo8 vv8 vl8 L8, p24 = .slice a24 (nm + 1) c24 ∧ Hw w w1.heap.size (.slice a24 (nm + 1) c24) (.slice none 0 0) (ms ++ [⟨⟨xc, xq, ⟨kind, ops, rv, rk, rd⟩, (ze : Int), (za : Int), ag.2.vals, ag.2.list, 0, 0⟩, vo8, vv8, vl8⟩]) [] L8 wx)
             case first =>
               refine once_27 _ _ _ _ _ _ _ _ _ _ _ _ _ _ _ _ _ _ _ _ _ _ _ _ _ _ _ _ _ _ _ _ _ _ _ _ _ _ _ _ _ _ _ _ _ _ _ _ _ _ _ _ _ _ _ _ _ _ _ _ _ _ _ _ _ _ _ _ _ _ _ _ _ _ _ _ _ _ _ _ _ _ _ _ _ _ _ _ _ _ _ _ _ _ _ _ _ _ _ _ _ _ _ _ _ _ _ _ _ _ _ _ _ _ _ _ _ _ _ _ _ _ _ _ _ _ _ _ _ _ _ _ _ _ _ _ _ _ _ _ _ _ _ _ _ _ _ _ _ _ _ _ _ _ _ _ _ _ _ _ _ _ _ _ _ _ _ _ _ _ _ _ _ _ _ _ _ _ _ _ _ _ _ _ _ _ _ _ _ _ _ _ _ _ _ _ _ HI hnm30 HNM HWo HBV HZV HKS HDO2 HOWN2 ?_
               intro z155 z156 z157 z158 z159 z160 z161 z162 z163 z164 z165 z166 z167 z168 z169 z170 a24 c24 vo8 vv8 vl8 L8 wx h1
               first
                 | go_meet
                 | (go_step; go_meet)
                 | (go_step; go_step; go_meet)
               exact ⟨a24, c24, vo8, vv8, vl8, L8, rfl, h1⟩
             case rest =>
               obtain ⟨a24, c24, vo8, vv8, vl8, L8, rfl, hw8⟩ := hcut
               have htw := HL.out.twice (i := hi) HCX.out (ag := ag) HAG2.out.1 (e := (ze : Int)) (p := (za : Int)) (by rw [HAG2.out.2.2.2.1]) (by rw [HAG2.out.2.2.2.2]) HSC.out.ops vo8 vv8 vl8
               obtain ⟨LL, hLL⟩ : ∃ l : List Cm, l = ms ++ [⟨⟨xc, xq, ⟨kind, ops, rv, rk, rd⟩, (ze : Int), (za : Int), ag.2.vals, ag.2.list, 0, 0⟩, vo8, vv8, vl8⟩] := ⟨_, rfl⟩
               rw [← hLL] at hw8
               have HLN : Hid (LL.length = nm + 1) := Lib.hid (by rw [hLL, List.length_append, HNM.out]; rfl)
               have HTW : Hid (verdict (LL.map Cm.x) [] = some (2, nm) ∧ ∀ c ∈ LL, c.Small) := Lib.hid (by rw [hLL, HNM.out]; exact htw)
               have HW9 := Lib.hid hw8
               have HCE9 : Hid (∀ w', Mod (fun _ => False) wc w' → Calls Tryz.prog 11 #[.slice a24 (nm + 1) c24] w' fun e w'' => ∃ a n c ms', e = .returned (.slice a n c) ∧ Mod (fun _ => False) w' w'' ∧ CRd Cm.c14 14 w'' (.slice a n c) ms' ∧ ms'.map Cm.x = LL.map Cm.x) := Lib.hid (fun w' mm => (HCOM.out _ LL w' (HW9.out.crd.keep mm) HTW.out.2 (by rw [HLN.out]; omega)).mono (by
                 rintro e w'' ⟨a, c, ms', rfl, h1, h2, h3⟩
                 exact ⟨a, _, c, ms', rfl, h1, h2, h3⟩))
               have HVE9 : Hid (∀ v ms' w', Mod (fun _ => False) wc w' → CRd Cm.c14 14 w' v ms' → ms'.map Cm.x = LL.map Cm.x → Calls Tryz.prog 10 #[v, .slice none 0 0] w' fun e w'' => e = .returned (.tuple #[.agg #[.int .i64 2, .int .i64 (nm : Int)], .bool false, .int .i64 0]) ∧ Mod (fun _ => False) w' w'') := Lib.hid (fun v ms' w' m h1 h2 => by
                 have h := HVER.out v (.slice none 0 0) ms' [] w' _ [] (HW9.out.mod.trans m) h1 ⟨RdS.none _ _, by simp⟩ h2 rfl (by rw [List.length_map, HLN.out]; omega) (Nat.zero_le _)
                 rw [HTW.out.1] at h
                 exact h)
               clear hLL htw hw8
               have hn13i : (n13 : Int) ≤ 40 := by omega
               go_wp2_with (first
                 | (go_at_call 10; go_loud (refine (HVE9.out _ _ _ HM21.out HC21.out.1 HC21.out.2).mono ?_; (rintro e w22 ⟨rfl, hm22⟩); have HM22 := Lib.hid (HM21.out.trans hm22); clear hm22))
                 | (go_at_call 11; go_loud (refine (HCE9.out _ (Mod.refl _ _)).mono ?_; (rintro e w21 ⟨a21, n21, c21, ms21, rfl, hm21, hc21, hx21⟩); have HC21 := Lib.hid (And.intro hc21 hx21); have HM21 := Lib.hid hm21; clear hm21 hc21 hx21)))
               go_ret
               exact ⟨rfl, (HW9.out.mod.trans HM22.out).alloc _⟩
end Go.Proofs.YtpigipgoopeeoaaGreatDoor
