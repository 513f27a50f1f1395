import Derived.Test.YtpigipgoopeeoaaGreatDoorMAll29
import Derived.Test.YtpigipgoopeeoaaGreatDoorMCHol02
set_option linter.unusedVariables false
set_option linter.unusedSimpArgs false
namespace Go.Proofs.YtpigipgoopeeoaaGreatDoor
open Go.RowKit Go.Maps
theorem zeros_plain11 : ∀ u ∈ (Value.agg #[.int .u8 0, .int .u32 0, .int .u8 0, .slice none 0 0, .int .u32 0, .int .i64 0, .int .i64 0, .int .i64 0, .int .i64 0, .slice none 0 0, .slice none 0 0]).cells, plainP 0 u := by
 intro u hu
 simp [Value.cells] at hu
 rcases hu with rfl | rfl | rfl | rfl | rfl | rfl | rfl | rfl | rfl | rfl | rfl <;> exact ⟨fun b h => (by cases h), fun s h => (by cases h)⟩
theorem zeros_plain13 : ∀ u ∈ (Value.agg #[.int .u8 0, .int .u32 0, .int .u8 0, .slice none 0 0, .int .u32 0, .int .i64 0, .int .i64 0, .int .i64 0, .int .i64 0, .slice none 0 0, .slice none 0 0, .int .i64 0, .int .i64 0]).cells, plainP 0 u := by
 intro u hu
 simp [Value.cells] at hu
 rcases hu with rfl | rfl | rfl | rfl | rfl | rfl | rfl | rfl | rfl | rfl | rfl | rfl | rfl <;> exact ⟨fun b h => (by cases h), fun s h => (by cases h)⟩
theorem graphTo_good' (l : List Cx) (k : Nat) : Good (graphTo l k) := runG_good Good.nil _
structure Hl (w : World) (gr : Nat) (u u' : Value) (ms rs : List Cm) (k : Nat) (wr : World) : Prop where
 st : Hw w gr u u' ms rs (graphTo (ms.map Cm.x) k) wr
 len : ms.length = k
 len' : rs.length = k
 hist : HistOK (ms.map Cm.x)
 told : ∀ j x, (rs.map Cm.x)[j]? = some x → ∃ y, (ms.map Cm.x)[j]? = some y ∧ TellsOf y x j
 sm : ∀ c ∈ ms, c.Small
 sm' : ∀ c ∈ rs, c.Small
theorem Hl.keep {w : World} {gr : Nat} {u u' : Value} {ms rs : List Cm} {k : Nat} {wr wx : World} (h : Hl w gr u u' ms rs k wr) (m : Mod (fun _ => False) wr wx) : Hl w gr u u' ms rs k wx := ⟨h.st.keep m, h.len, h.len', h.hist, h.told, h.sm, h.sm'⟩
theorem told_snoc {C R : List Cx} {y x : Cx} (hl : C.length = R.length) (h : ∀ j x, R[j]? = some x → ∃ y, C[j]? = some y ∧ TellsOf y x j) (t : TellsOf y x C.length) : ∀ j z, (R ++ [x])[j]? = some z → ∃ y', (C ++ [y])[j]? = some y' ∧ TellsOf y' z j := by
 intro j z hz
 by_cases hj : j < R.length
 · rw [List.getElem?_append_left hj] at hz
   obtain ⟨y', h1, h2⟩ := h j z hz
   exact ⟨y', by rw [List.getElem?_append_left (by omega)]; exact h1, h2⟩
 · have hlt := (List.getElem?_eq_some_iff.1 hz).1
   rw [List.length_append, List.length_singleton] at hlt
   obtain rfl : j = R.length := by omega
   have : z = x := by simpa using hz.symm
   subst this
   exact ⟨y, by rw [← hl]; simp, by rw [← hl]; exact t⟩
theorem graphTo_snoc {C : List Cx} {x : Cx} : graphTo (C ++ [x]) (C.length + 1) = (doG (graphTo C C.length) x.r).1 := by
 rw [graphTo_succ (x := x) (by simp), graphTo_app]
theorem Hl.step {w : World} {gr : Nat} {u u' v3 v9 : Value} {ms rs : List Cm} {k : Nat} {wr w9 : World} (h : Hl w gr u u' ms rs k wr) {r : Rqt} {ag : Gr × Ans} (ha : ag = doG (graphTo (ms.map Cm.x) k) r) {vo vv vl : Value} {cl : Nat} {e p fr to_ : Int}
   (h9 : Hw w gr v3 v9 (ms ++ [⟨⟨cl, k + 1, r, e, p, ag.2.vals, ag.2.list, 0, 0⟩, vo, vv, vl⟩]) (rs ++ [⟨⟨cl, k + 1, r, e, p, ag.2.vals, ag.2.list, fr, to_⟩, vo, vv, vl⟩]) ag.1 w9) (hnm : Nm.ok (cl, k + 1)) (he : e = (ag.2.e : Int)) (hp : p = (ag.2.at_ : Int)) (h20 : r.ops.length ≤ 20) (hsz : r.ops.length * 48 ≤ 140737488355328) (hfr : fr ≤ (k : Int)) (hto : (k : Int) < to_) :
   Hl w gr v3 v9 (ms ++ [⟨⟨cl, k + 1, r, e, p, ag.2.vals, ag.2.list, 0, 0⟩, vo, vv, vl⟩]) (rs ++ [⟨⟨cl, k + 1, r, e, p, ag.2.vals, ag.2.list, fr, to_⟩, vo, vv, vl⟩]) (k + 1) w9 := by
 have hk : (ms.map Cm.x).length = k := by rw [List.length_map]; exact h.len
 have hk' : (rs.map Cm.x).length = k := by rw [List.length_map]; exact h.len'
 have hde := doG_e (graphTo (ms.map Cm.x) k) r
 have hds := doG_sizes (graphTo_good' (ms.map Cm.x) k) r
 rw [← ha] at hde hds
 have hg : ∀ fr to_ : Int, Cx.given ⟨cl, k + 1, r, e, p, ag.2.vals, ag.2.list, fr, to_⟩ = false := fun fr to_ => by
   unfold Cx.given
   simp only [decide_eq_false_iff_not]
   have := hde.1
   omega
 refine ⟨?_, by simp [h.len], by simp [h.len'], ?_, ?_, fun c hc => ?_, fun c hc => ?_⟩
 · have e1 := graphTo_snoc (C := ms.map Cm.x) (x := ⟨cl, k + 1, r, e, p, ag.2.vals, ag.2.list, 0, 0⟩)
   rw [hk] at e1
   rw [List.map_append, List.map_cons, List.map_nil, e1, ← ha]
   exact h9
 · rw [List.map_append]
   refine h.hist.snoc (x := ⟨cl, k + 1, r, e, p, ag.2.vals, ag.2.list, 0, 0⟩) (by rw [hk]) ?_ (hg 0 0) ?_
   · rw [hk, ← ha]; unfold Cx.ansIs; simp [he, hp]
   · show 0 ≤ p ∧ p ≤ 20
     have := hde.2; omega
 · rw [List.map_append, List.map_append]
   refine told_snoc (hk.trans hk'.symm) h.told ⟨rfl, rfl, by unfold sameC; simp, by rw [hg, hg], by rw [hk]; exact hfr, by rw [hk]; exact hto⟩
 · rcases List.mem_append.1 hc with hc | hc
   · exact h.sm c hc
   · rw [List.mem_singleton] at hc; subst hc
     exact ⟨hsz, by have := hds.1; simp only; omega, by have := hds.2; simp only; omega⟩
 · rcases List.mem_append.1 hc with hc | hc
   · exact h.sm' c hc
   · rw [List.mem_singleton] at hc; subst hc
     exact ⟨hsz, by have := hds.1; simp only; omega, by have := hds.2; simp only; omega⟩
set_option maxRecDepth 100000 in
set_option maxHeartbeats 16000000 in
theorem cholds_main (vs vw : Value) (qs : List Qs) (ws : List Nat) (pk : Nat) (hpk : pk < 256) (w : World) (hv : QRd w vs qs) (hw : RdS w 1 vw ws.length (ws.map (keyV .u8))) (hws : ∀ x ∈ ws, x < 256) (hg : ErrT w) :
   Calls Tryz.prog 3 #[vs, vw, .int .u8 (pk : Int)] w fun e w' => e = .returned (.bool true) ∧ Mod (fun _ => False) w w' := by
 have HAW : Hid (∀ w', Mod (fun _ => False) w w' → Calls Tryz.prog 8 #[] w' fun e w'' => e = .returned (.bool true) ∧ Mod (fun _ => False) w' w'') := Lib.hid (fun w' m => cawake_any w' (hg.keep m (fun f => f)))
 have HCOM : Hid (∀ v ms w', CRd Cm.c11 11 w' v ms → (∀ c ∈ ms, c.Small) → ms.length ≤ 4096 → Calls Tryz.prog 11 #[v] w' fun e w'' => ∃ a c ms', e = .returned (.slice a ms'.length c) ∧ Mod (fun _ => False) w' w'' ∧ CRd Cm.c14 14 w'' (.slice a ms'.length c) ms' ∧ ms'.map Cm.x = ms.map Cm.x) := Lib.hid (fun v ms w' h1 h2 h3 => (commits_any v ms w' h1 h2 h3).mono (by
   rintro e w'' ⟨u, ms', rfl, h4, h5⟩
   obtain ⟨a, c, rfl, -⟩ := h4.row.rdS.shape
   exact ⟨a, c, ms', rfl, h4.mod, h4.crd, h5⟩))
 have HREP : Hid (∀ v ms w', CRd Cm.c13 13 w' v ms → (∀ c ∈ ms, c.Small) → ms.length ≤ 4096 → Calls Tryz.prog 12 #[v] w' fun e w'' => ∃ a c ms', e = .returned (.slice a ms'.length c) ∧ Mod (fun _ => False) w' w'' ∧ CRd Cm.c13 13 w'' (.slice a ms'.length c) ms' ∧ ms'.map Cm.x = ms.map Cm.x) := Lib.hid (fun v ms w' h1 h2 h3 => (replies_any v ms w' h1 h2 h3).mono (by
   rintro e w'' ⟨u, ms', rfl, h4, h5⟩
   obtain ⟨a, c, rfl, -⟩ := h4.row.rdS.shape
   exact ⟨a, c, ms', rfl, h4.mod, h4.crd, h5⟩))
 have HVER : Hid (∀ v u ms rs w' X R, Mod (fun _ => False) w w' → CRd Cm.c14 14 w' v ms → CRd Cm.c13 13 w' u rs → ms.map Cm.x = X → rs.map Cm.x = R → X.length ≤ 4096 → R.length ≤ 4096 → Calls Tryz.prog 10 #[v, u] w' fun e w'' => e = .returned (verdV (verdict X R)) ∧ Mod (fun _ => False) w' w'') := Lib.hid (fun v u ms rs w' X R m h1 h2 h3 h4 h5 h6 => by
   subst h3 h4
   rw [List.length_map] at h5 h6
   exact cverify_any v u ms rs w' h1 h2 h5 h6 (hg.keep m (fun f => f)))
 have HQ := Lib.hid hv
 have HWB := Lib.hid hw
 have HWS := Lib.hid hws
 obtain ⟨as_, cs_, rfl, hcs1, hcs2, -⟩ := hv.row.shape
 obtain ⟨aw_, cw_, rfl, hcw1, hcw2, -⟩ := hw.shape
 obtain ⟨n, hn⟩ : ∃ n, n = qs.length := ⟨_, rfl⟩
 obtain ⟨nw, hnw⟩ : ∃ n, n = ws.length := ⟨_, rfl⟩
 have HN := Lib.hid hn
 have HNW := Lib.hid hnw
 rw [← hn] at HQ hcs1 ⊢
 rw [← hnw] at HWB hcw1 ⊢
 obtain ⟨i0, hi, hz0, hz1, hz2⟩ := info_parts infoRC
 have HI : Hid (Tryz.prog.info? 42 = some i0 ∧ i0.zero = some (.agg #[.int .u8 0, .int .u32 0, .int .u8 0, .slice none 0 0, .int .u32 0, .int .i64 0, .int .i64 0, .int .i64 0, .int .i64 0, .slice none 0 0, .slice none 0 0]) ∧ i0.size = 11 ∧ i0.bytes = 128) := ⟨hi, hz0, hz1, hz2⟩
 clear hi hz0 hz1 hz2
 obtain ⟨i1, hi, hz0, hz1, hz2⟩ := info_parts (show (Tryz.prog.info? 44).map (fun i => (i.zero, i.size, i.bytes)) = some (some (.agg #[.int .u8 0, .int .u32 0, .int .u8 0, .slice none 0 0, .int .u32 0, .int .i64 0, .int .i64 0, .int .i64 0, .int .i64 0, .slice none 0 0, .slice none 0 0, .int .i64 0, .int .i64 0]), 13, 144) by kernel_rfl)
 have HI1 : Hid (Tryz.prog.info? 44 = some i1 ∧ i1.zero = some (.agg #[.int .u8 0, .int .u32 0, .int .u8 0, .slice none 0 0, .int .u32 0, .int .i64 0, .int .i64 0, .int .i64 0, .int .i64 0, .slice none 0 0, .slice none 0 0, .int .i64 0, .int .i64 0]) ∧ i1.size = 13 ∧ i1.bytes = 144) := ⟨hi, hz0, hz1, hz2⟩
 clear hi hz0 hz1 hz2
 clear hv hw hws hg hn hnw
 go_enter Tryz.func3, Tryz.ntmps3
 go_wp2_with (go_at_call 8; go_loud (refine (HAW.out _ (Mod.refl _ _)).mono ?_; (rintro e w1 ⟨rfl, hm1⟩); have HM1 := Lib.hid hm1; clear hm1))
 have HL0 : Hid (Hl w w1.heap.size (.slice none 0 0) (.slice none 0 0) [] [] 0 (w1.alloc (.cells #[.slice none 0 0] 28))) := Lib.hid ⟨⟨HM1.out.alloc _, ⟨_, [], ⟨heap_alloc_new' _ _, ⟨RdS.none _ _, by simp⟩⟩, rfl⟩, Good.nil, HM1.out.size, Seg.nil _ _ _, Seg.nil _ _ _, by simp, by simp, fun b hb => by simp [Value.ownBlock] at hb, fun b hb => by simp [Value.ownBlock] at hb, PatB.nil _ _, PatB.nil _ _⟩, rfl, rfl, HistOK.nil, fun j x h => by simp at h, by simp, by simp⟩
 go_loopw [28, 8, 9] (fun i u u' wr => ∃ (k : Nat) (ms rs : List Cm), i = .int .i64 (k : Int) ∧ k ≤ n ∧ k ≤ 40 ∧ Hl w w1.heap.size u u' ms rs k wr) (fun i _ _ _ => n - (intOf i).toNat)
 case atStart => exact ⟨0, [], [], rfl, Nat.zero_le _, Nat.zero_le _, HL0.out⟩
 case round =>
   obtain ⟨k, ms, rs, rfl, hk, hk40, hl⟩ := hrel
   have HL := Lib.hid hl
   have HK := Lib.hid hl.st.mod
   obtain ⟨au, cu, hcu, hcu2, hub⟩ : ∃ a c, k ≤ c ∧ c ≤ 9223372036854775807 ∧ _ = Value.slice a k c := by
     obtain ⟨a, c, e, h1, h2, _⟩ := hl.st.row.rdS.shape
     rw [hl.len] at e h1
     exact ⟨a, c, h1, h2, e⟩
   obtain ⟨ar, cr, hcr, hcr2, hrb⟩ : ∃ a c, k ≤ c ∧ c ≤ 9223372036854775807 ∧ _ = Value.slice a k c := by
     obtain ⟨a, c, e, h1, h2, _⟩ := hl.st.row'.rdS.shape
     rw [hl.len'] at e h1
     exact ⟨a, c, h1, h2, e⟩
   subst hub hrb
   clear hl HL0
   by_cases hkn : k < n
   · skip
     obtain ⟨q, hq⟩ : ∃ q, qs[k]? = some q := ⟨_, List.getElem?_eq_getElem (by rw [← HN.out]; exact hkn)⟩
     obtain ⟨bl, offl, e0, hbl, r0, r1, r2, r3, r4⟩ := HQ.out.ent hq rfl
     replace r0 := HK.out.cell r0
     replace r1 := HK.out.cell r1
     replace r2 := HK.out.cell r2
     replace r3 := HK.out.cell r3
     replace r4 := HK.out.cell r4
     have zbl : bl < wr.heap.size := Nat.lt_of_lt_of_le hbl HK.out.size
     have HOR := Lib.hid (HQ.out.each q (List.mem_of_getElem? hq))
     have HSM := Lib.hid (HQ.out.small q (List.mem_of_getElem? hq))
     clear hq hbl
     obtain rfl := e0
     obtain ⟨⟨kind, ops, rv, rk, rd⟩, qo⟩ := q
     obtain ⟨ao, co, hqe, -⟩ := HOR.out.row.shape
     simp only at hqe HOR r0 r1 r2 r3 r4
     subst hqe
     obtain ⟨no, hno⟩ : ∃ n, n = ops.length := ⟨_, rfl⟩
     rw [← hno] at r1 HOR
     have HNO := Lib.hid hno
     clear hno
     have HMQ : Hid (Mod (fun _ => False) wr (wr.alloc (.cells #[.int .u8 (kind : Int), .slice ao no co, .int .u32 (rv : Int), .int .i64 rk, .int .i64 rd] 34))) := Lib.hid ((Mod.refl _ _).alloc _)
     by_cases h40 : k < 40
     · have h40i : ¬ (40 : Int) ≤ (k : Int) := by omega
       by_cases h20 : no ≤ 20
       · have h20i : ¬ (20 : Int) < (no : Int) := by omega
         obtain ⟨ag, hag⟩ : ∃ a, a = doG (graphTo (ms.map Cm.x) k) ⟨kind, ops, rv, rk, rd⟩ := ⟨_, rfl⟩
         obtain ⟨nv, hnv⟩ : ∃ n, n = ag.2.vals.length := ⟨_, rfl⟩
         obtain ⟨nl, hnl⟩ : ∃ n, n = ag.2.list.length := ⟨_, rfl⟩
         obtain ⟨ze, hze⟩ : ∃ n, n = ag.2.e := ⟨_, rfl⟩
         obtain ⟨za, hza⟩ : ∃ n, n = ag.2.at_ := ⟨_, rfl⟩
         have HDO : Hid (∀ w', Mod (fun _ => False) wr w' → Calls Tryz.prog 9 #[.pointer (some ⟨w1.heap.size, 0, none⟩), .agg #[.int .u8 (kind : Int), .slice ao no co, .int .u32 (rv : Int), .int .i64 rk, .int .i64 rd]] w' fun e w'' => ∃ a8 c8 a9 c9, e = .returned (.agg #[.int .i64 (ze : Int), .int .i64 (za : Int), .slice a8 nv c8, .slice a9 nl c9]) ∧ Hw w w1.heap.size (.slice au k cu) (.slice ar k cr) ms rs ag.1 w'' ∧ Mod (fun i => i = w1.heap.size) w' w'' ∧ Seg w'' 77 3 (.slice a8 nv c8) nv (vvcells ag.2.vals) ∧ Seg w'' 32 1 (.slice a9 nl c9) nl (ag.2.list.map (keyV .u32))) := Lib.hid (fun w' mm => (rdq_any w1.heap.size _ ⟨kind, ops, rv, rk, rd⟩ (.slice ao no co) w' (HL.out.st.keep mm).rf HL.out.st.good (HOR.out.keep (HK.out.trans mm))).mono (by
           rintro e w'' ⟨vv, vl, he, hd⟩
           have h3 := (HL.out.st.keep mm).do hd
           have h1 := hd.vals
           have h2 := hd.list
           have h4 := hd.mod
           rw [← hag] at h1 h2 h3 he
           rw [← hnv] at h1
           rw [← hnl] at h2
           rw [← hze, ← hza] at he
           obtain ⟨a8, c8, rfl, -⟩ := h1.shape
           obtain ⟨a9, c9, rfl, -⟩ := h2.shape
           exact ⟨a8, c8, a9, c9, he, h3, h4, h1, h2⟩))
         have HAG : Hid (ag = doG (graphTo (ms.map Cm.x) k) ⟨kind, ops, rv, rk, rd⟩ ∧ nv = ag.2.vals.length ∧ nl = ag.2.list.length ∧ ze = ag.2.e ∧ za = ag.2.at_) := Lib.hid ⟨hag, hnv, hnl, hze, hza⟩
         have HBQ : Hid ((wr.alloc (.cells #[.int .u8 (kind : Int), .slice ao no co, .int .u32 (rv : Int), .int .i64 rk, .int .i64 rd] 34)).heap[wr.heap.size]? = some (.cells #[.int .u8 (kind : Int), .slice ao no co, .int .u32 (rv : Int), .int .i64 rk, .int .i64 rd] 34 (0, 0))) := Lib.hid (heap_alloc_new' _ _)
         have HGL : Hid (w1.heap.size < wr.heap.size) := Lib.hid (by obtain ⟨cs, hc⟩ := HL.out.st.gr_box; exact lt_of_block hc)
         clear hag hnv hnl hze hza
         by_cases hkw : k < nw
         · obtain ⟨x, hx⟩ : ∃ x, ws[k]? = some x := ⟨_, List.getElem?_eq_getElem (by rw [← HNW.out]; exact hkw)⟩
           obtain ⟨bw, ofw, e0, hbw, w0⟩ := HWB.out.cell _ _ rfl k (.int .u8 (x : Int)) (by rw [List.getElem?_map, hx]; rfl)
           replace w0 := HK.out.cell w0
           have zbw : bw < wr.heap.size := Nat.lt_of_lt_of_le hbw HK.out.size
           have hx256 := HWS.out x (List.mem_of_getElem? hx)
           obtain rfl := e0
           clear hx hbw
           have HC11 : Hid (∀ a8 c8 a9 c9, (#[.int .u8 ((k : Int) % 3), .int .u32 ((k : Int) + 1), .int .u8 (kind : Int), .slice ao no co, .int .u32 (rv : Int), .int .i64 rk, .int .i64 rd, .int .i64 (ze : Int), .int .i64 (za : Int), .slice a8 nv c8, .slice a9 nl c9] : Array Value).toList = Cm.c11 ⟨⟨k % 3, k + 1, ⟨kind, ops, rv, rk, rd⟩, (ze : Int), (za : Int), ag.2.vals, ag.2.list, 0, 0⟩, .slice ao no co, .slice a8 nv c8, .slice a9 nl c9⟩) := Lib.hid (fun a8 c8 a9 c9 => by simp [Cm.c11])
           have HC13 : Hid (∀ a8 c8 a9 c9, (#[.int .u8 ((k : Int) % 3), .int .u32 ((k : Int) + 1), .int .u8 (kind : Int), .slice ao no co, .int .u32 (rv : Int), .int .i64 rk, .int .i64 rd, .int .i64 (ze : Int), .int .i64 (za : Int), .slice a8 nv c8, .slice a9 nl c9, .int .i64 ((k : Int) - (x : Int) % 7), .int .i64 ((k : Int) + 1 + (x : Int) / 7)] : Array Value).toList = Cm.c13 ⟨⟨k % 3, k + 1, ⟨kind, ops, rv, rk, rd⟩, (ze : Int), (za : Int), ag.2.vals, ag.2.list, (k : Int) - (x : Int) % 7, (k : Int) + 1 + (x : Int) / 7⟩, .slice ao no co, .slice a8 nv c8, .slice a9 nl c9⟩) := Lib.hid (fun a8 c8 a9 c9 => by simp [Cm.c13])
           have HOWN : Hid (∀ (fr to_ : Int) a8 c8 a9 c9 w', Seg w' 77 3 (.slice a8 nv c8) nv (vvcells ag.2.vals) → Seg w' 32 1 (.slice a9 nl c9) nl (ag.2.list.map (keyV .u32)) → Cm.Own w w' ⟨⟨k % 3, k + 1, ⟨kind, ops, rv, rk, rd⟩, (ze : Int), (za : Int), ag.2.vals, ag.2.list, fr, to_⟩, .slice ao no co, .slice a8 nv c8, .slice a9 nl c9⟩) := Lib.hid (fun fr to_ a8 c8 a9 c9 w' h1 h2 => ⟨⟨by show k % 3 < 256; omega, by show k + 1 < 4294967296; omega⟩, HSM.out.fits.v, HOR.out, by rw [HAG.out.2.1] at h1; rw [HAG.out.2.1]; exact h1, by rw [HAG.out.2.2.1] at h2; rw [HAG.out.2.2.1]; exact h2⟩)
           go_wp2_with (first
             | (have hq := HW7.out; at_builtin; go_loud (refine wpList_append_pat rfl (.tmp 65) (.tmp 84) 30 rfl i1 _ 13 144 Tryz.underlying30 HI1.out.1 HI1.out.2.1 HI1.out.2.2.1 HI1.out.2.2.2 rfl (by decide) rfl HROW8.out (.slice (some ⟨w7.heap.size, 0, none⟩) 1 1) 1 _ rfl HSR8.out (by unfold maxLen; omega) (by omega) plainP HW8.out.pat' HALL8.out (fun kk q j u h => plain_zero zeros_plain13 kk q 13 j u h) ?_; intro v9 w9 hs9 hp9 hg9 ho9; (have HW9 := Lib.hid (HW8.out.appR (c := ⟨⟨k % 3, k + 1, ⟨kind, ops, rv, rk, rd⟩, (ze : Int), (za : Int), ag.2.vals, ag.2.list, (k : Int) - (x : Int) % 7, (k : Int) + 1 + (x : Int) / 7⟩, .slice ao no co, .slice a8 nv c8, .slice a9 nl c9⟩) HOWN8.out (by rw [HC13.out] at hs9; rw [HL.out.len']; exact hs9) hp9 hg9 ho9)); (obtain ⟨ax9, cx9, rfl, -⟩ := hs9.shape); clear hs9 hp9 hg9 ho9 hq))
             | (at_builtin; go_loud (refine wpList_append_pat rfl (.tmp 53) (.tmp 63) 29 rfl i0 _ 11 128 Tryz.underlying29 HI.out.1 HI.out.2.1 HI.out.2.2.1 HI.out.2.2.2 rfl (by decide) rfl HROW6.out (.slice (some ⟨w4.heap.size + 1, 0, none⟩) 1 1) 1 _ rfl HSR6.out (by unfold maxLen; omega) (by omega) plainP HW6.out.pat HALL6.out (fun kk q j u h => plain_zero zeros_plain11 kk q 11 j u h) ?_; intro v7 w7 hs7 hp7 hg7 ho7; (have HW7 := Lib.hid (HW6.out.appC (c := ⟨⟨k % 3, k + 1, ⟨kind, ops, rv, rk, rd⟩, (ze : Int), (za : Int), ag.2.vals, ag.2.list, 0, 0⟩, .slice ao no co, .slice a8 nv c8, .slice a9 nl c9⟩) HOWN6.out (by rw [HC11.out] at hs7; rw [HL.out.len]; exact hs7) hp7 hg7 ho7)); (have hm7 := mod_grown hg7); (have hv7 := HV4.out.1.alloc (.cells #[.int .i64 (ze : Int), .int .i64 (za : Int), .slice a8 nv c8, .slice a9 nl c9] 39) |>.alloc (.cells #[.int .u8 ((k : Int) % 3), .int .u32 ((k : Int) + 1), .int .u8 (kind : Int), .slice ao no co, .int .u32 (rv : Int), .int .i64 rk, .int .i64 rd, .int .i64 (ze : Int), .int .i64 (za : Int), .slice a8 nv c8, .slice a9 nl c9] 42) |>.mod hm7 (seg_else HW6.out.else_u (.inl rfl) (HV4.out.1.alloc (.cells #[.int .i64 (ze : Int), .int .i64 (za : Int), .slice a8 nv c8, .slice a9 nl c9] 39) |>.alloc (.cells #[.int .u8 ((k : Int) % 3), .int .u32 ((k : Int) + 1), .int .u8 (kind : Int), .slice ao no co, .int .u32 (rv : Int), .int .i64 rk, .int .i64 rd, .int .i64 (ze : Int), .int .i64 (za : Int), .slice a8 nv c8, .slice a9 nl c9] 42)))); (have hl7 := HV4.out.2.alloc (.cells #[.int .i64 (ze : Int), .int .i64 (za : Int), .slice a8 nv c8, .slice a9 nl c9] 39) |>.alloc (.cells #[.int .u8 ((k : Int) % 3), .int .u32 ((k : Int) + 1), .int .u8 (kind : Int), .slice ao no co, .int .u32 (rv : Int), .int .i64 rk, .int .i64 rd, .int .i64 (ze : Int), .int .i64 (za : Int), .slice a8 nv c8, .slice a9 nl c9] 42) |>.mod hm7 (seg_else HW6.out.else_u (.inr rfl) (HV4.out.2.alloc (.cells #[.int .i64 (ze : Int), .int .i64 (za : Int), .slice a8 nv c8, .slice a9 nl c9] 39) |>.alloc (.cells #[.int .u8 ((k : Int) % 3), .int .u32 ((k : Int) + 1), .int .u8 (kind : Int), .slice ao no co, .int .u32 (rv : Int), .int .i64 rk, .int .i64 rd, .int .i64 (ze : Int), .int .i64 (za : Int), .slice a8 nv c8, .slice a9 nl c9] 42)))); (have hbq := hm7.heap (heap_alloc_old (heap_alloc_old HB4.out)) (fun e => seg_ne HW6.out.row (heap_alloc_old (heap_alloc_old HB4.out)) (by decide) e)); (have hba := hm7.heap HBA6.out (fun e => seg_ne HW6.out.row HBA6.out (by decide) e)); have z0 := cell_of_row hbq 0; have z1 := cell_of_row hbq 1; have z2 := cell_of_row hbq 2; have z3 := cell_of_row hbq 3; have z4 := cell_of_row hbq 4; have x0 := cell_of_row hba 0; have x1 := cell_of_row hba 1; have x2 := cell_of_row hba 2; have x3 := cell_of_row hba 3; have zzq := lt_of_block hbq; have zza := lt_of_block hba; simp at z0 z1 z2 z3 z4 x0 x1 x2 x3; (obtain ⟨ax7, cx7, rfl, -⟩ := hs7.shape); (have HW8 := Lib.hid (HW7.out.keep ((Mod.refl (fun _ => False) w7).alloc (.cells #[.int .u8 ((k : Int) % 3), .int .u32 ((k : Int) + 1), .int .u8 (kind : Int), .slice ao no co, .int .u32 (rv : Int), .int .i64 rk, .int .i64 rd, .int .i64 (ze : Int), .int .i64 (za : Int), .slice a8 nv c8, .slice a9 nl c9, .int .i64 ((k : Int) - (x : Int) % 7), .int .i64 ((k : Int) + 1 + (x : Int) / 7)] 44)))); (have HROW8 : Hid (Seg (w7.alloc (.cells #[.int .u8 ((k : Int) % 3), .int .u32 ((k : Int) + 1), .int .u8 (kind : Int), .slice ao no co, .int .u32 (rv : Int), .int .i64 rk, .int .i64 rd, .int .i64 (ze : Int), .int .i64 (za : Int), .slice a8 nv c8, .slice a9 nl c9, .int .i64 ((k : Int) - (x : Int) % 7), .int .i64 ((k : Int) + 1 + (x : Int) / 7)] 44)) 44 13 (.slice ar k cr) k (rs.flatMap Cm.c13)) := Lib.hid (by have h := HW8.out.row'; rwa [HL.out.len'] at h)); (have HSR8 : Hid (Src (w7.alloc (.cells #[.int .u8 ((k : Int) % 3), .int .u32 ((k : Int) + 1), .int .u8 (kind : Int), .slice ao no co, .int .u32 (rv : Int), .int .i64 rk, .int .i64 rd, .int .i64 (ze : Int), .int .i64 (za : Int), .slice a8 nv c8, .slice a9 nl c9, .int .i64 ((k : Int) - (x : Int) % 7), .int .i64 ((k : Int) + 1 + (x : Int) / 7)] 44)) 13 (.slice (some ⟨w7.heap.size, 0, none⟩) 1 1) 1 (#[.int .u8 ((k : Int) % 3), .int .u32 ((k : Int) + 1), .int .u8 (kind : Int), .slice ao no co, .int .u32 (rv : Int), .int .i64 rk, .int .i64 rd, .int .i64 (ze : Int), .int .i64 (za : Int), .slice a8 nv c8, .slice a9 nl c9, .int .i64 ((k : Int) - (x : Int) % 7), .int .i64 ((k : Int) + 1 + (x : Int) / 7)] : Array Value).toList) := Lib.hid (src_cells (w := w7) rfl (size := 13) 44 #[.int .u8 ((k : Int) % 3), .int .u32 ((k : Int) + 1), .int .u8 (kind : Int), .slice ao no co, .int .u32 (rv : Int), .int .i64 rk, .int .i64 rd, .int .i64 (ze : Int), .int .i64 (za : Int), .slice a8 nv c8, .slice a9 nl c9, .int .i64 ((k : Int) - (x : Int) % 7), .int .i64 ((k : Int) + 1 + (x : Int) / 7)] rfl (by simp [Value.oneCell']))); (have HOWN8 := Lib.hid (HOWN.out ((k : Int) - (x : Int) % 7) ((k : Int) + 1 + (x : Int) / 7) a8 c8 a9 c9 (w7.alloc (.cells #[.int .u8 ((k : Int) % 3), .int .u32 ((k : Int) + 1), .int .u8 (kind : Int), .slice ao no co, .int .u32 (rv : Int), .int .i64 rk, .int .i64 rd, .int .i64 (ze : Int), .int .i64 (za : Int), .slice a8 nv c8, .slice a9 nl c9, .int .i64 ((k : Int) - (x : Int) % 7), .int .i64 ((k : Int) + 1 + (x : Int) / 7)] 44)) (hv7.alloc _) (hl7.alloc _))); (have HALL8 : Hid (∀ (j : Nat) (u : Value), (rs.flatMap Cm.c13 ++ (#[.int .u8 ((k : Int) % 3), .int .u32 ((k : Int) + 1), .int .u8 (kind : Int), .slice ao no co, .int .u32 (rv : Int), .int .i64 rk, .int .i64 rd, .int .i64 (ze : Int), .int .i64 (za : Int), .slice a8 nv c8, .slice a9 nl c9, .int .i64 ((k : Int) - (x : Int) % 7), .int .i64 ((k : Int) + 1 + (x : Int) / 7)] : Array Value).toList)[j]? = some u → plainP j u) := Lib.hid (plain_at (fun u hu => by rcases List.mem_append.1 hu with hu | hu; exact plain_rows (fun c hc => (HW8.out.own' c hc).sl.c13) u hu; exact HOWN8.out.sl.c13 u (by rw [← HC13.out]; exact hu)))); clear hs7 hp7 hg7 ho7 hm7 hv7 hl7 hbq hba))
             | (go_at_call 9; go_loud (refine (HDO.out _ HMQ.out).mono ?_; (rintro e w4 ⟨a8, c8, a9, c9, rfl, hw4, hm4, hv4, hl4⟩); have HW4 := Lib.hid hw4; have HV4 := Lib.hid (And.intro hv4 hl4); have hb4 := hm4.heap HBQ.out (fun e => by have := HGL.out; omega); have y0 := cell_of_row hb4 0; have y1 := cell_of_row hb4 1; have y2 := cell_of_row hb4 2; have y3 := cell_of_row hb4 3; have y4 := cell_of_row hb4 4; have zy := lt_of_block hb4; simp at y0 y1 y2 y3 y4; have HB4 := Lib.hid hb4; (have HW6 := Lib.hid (hw4.keep (((Mod.refl (fun _ => False) w4).alloc (.cells #[.int .i64 (ze : Int), .int .i64 (za : Int), .slice a8 nv c8, .slice a9 nl c9] 39)).alloc (.cells #[.int .u8 ((k : Int) % 3), .int .u32 ((k : Int) + 1), .int .u8 (kind : Int), .slice ao no co, .int .u32 (rv : Int), .int .i64 rk, .int .i64 rd, .int .i64 (ze : Int), .int .i64 (za : Int), .slice a8 nv c8, .slice a9 nl c9] 42)))); (have HROW6 : Hid (Seg ((w4.alloc (.cells #[.int .i64 (ze : Int), .int .i64 (za : Int), .slice a8 nv c8, .slice a9 nl c9] 39)).alloc (.cells #[.int .u8 ((k : Int) % 3), .int .u32 ((k : Int) + 1), .int .u8 (kind : Int), .slice ao no co, .int .u32 (rv : Int), .int .i64 rk, .int .i64 rd, .int .i64 (ze : Int), .int .i64 (za : Int), .slice a8 nv c8, .slice a9 nl c9] 42)) 42 11 (.slice au k cu) k (ms.flatMap Cm.c11)) := Lib.hid (by have h := HW6.out.row; rwa [HL.out.len] at h)); (have HSR6 : Hid (Src ((w4.alloc (.cells #[.int .i64 (ze : Int), .int .i64 (za : Int), .slice a8 nv c8, .slice a9 nl c9] 39)).alloc (.cells #[.int .u8 ((k : Int) % 3), .int .u32 ((k : Int) + 1), .int .u8 (kind : Int), .slice ao no co, .int .u32 (rv : Int), .int .i64 rk, .int .i64 rd, .int .i64 (ze : Int), .int .i64 (za : Int), .slice a8 nv c8, .slice a9 nl c9] 42)) 11 (.slice (some ⟨w4.heap.size + 1, 0, none⟩) 1 1) 1 (#[.int .u8 ((k : Int) % 3), .int .u32 ((k : Int) + 1), .int .u8 (kind : Int), .slice ao no co, .int .u32 (rv : Int), .int .i64 rk, .int .i64 rd, .int .i64 (ze : Int), .int .i64 (za : Int), .slice a8 nv c8, .slice a9 nl c9] : Array Value).toList) := Lib.hid (src_cells (w := (w4.alloc (.cells #[.int .i64 (ze : Int), .int .i64 (za : Int), .slice a8 nv c8, .slice a9 nl c9] 39))) (by simp) (size := 11) 42 #[.int .u8 ((k : Int) % 3), .int .u32 ((k : Int) + 1), .int .u8 (kind : Int), .slice ao no co, .int .u32 (rv : Int), .int .i64 rk, .int .i64 rd, .int .i64 (ze : Int), .int .i64 (za : Int), .slice a8 nv c8, .slice a9 nl c9] rfl (by simp [Value.oneCell']))); (have HOWN6 := Lib.hid (HOWN.out 0 0 a8 c8 a9 c9 ((w4.alloc (.cells #[.int .i64 (ze : Int), .int .i64 (za : Int), .slice a8 nv c8, .slice a9 nl c9] 39)).alloc (.cells #[.int .u8 ((k : Int) % 3), .int .u32 ((k : Int) + 1), .int .u8 (kind : Int), .slice ao no co, .int .u32 (rv : Int), .int .i64 rk, .int .i64 rd, .int .i64 (ze : Int), .int .i64 (za : Int), .slice a8 nv c8, .slice a9 nl c9] 42)) ((hv4.alloc _).alloc _) ((hl4.alloc _).alloc _))); (have HALL6 : Hid (∀ (j : Nat) (u : Value), (ms.flatMap Cm.c11 ++ (#[.int .u8 ((k : Int) % 3), .int .u32 ((k : Int) + 1), .int .u8 (kind : Int), .slice ao no co, .int .u32 (rv : Int), .int .i64 rk, .int .i64 rd, .int .i64 (ze : Int), .int .i64 (za : Int), .slice a8 nv c8, .slice a9 nl c9] : Array Value).toList)[j]? = some u → plainP j u) := Lib.hid (plain_at (fun u hu => by rcases List.mem_append.1 hu with hu | hu; exact plain_rows (fun c hc => (HW6.out.own c hc).sl.c11) u hu; exact HOWN6.out.sl.c11 u (by rw [← HC11.out]; exact hu)))); (have HBA6 : Hid (((w4.alloc (.cells #[.int .i64 (ze : Int), .int .i64 (za : Int), .slice a8 nv c8, .slice a9 nl c9] 39)).alloc (.cells #[.int .u8 ((k : Int) % 3), .int .u32 ((k : Int) + 1), .int .u8 (kind : Int), .slice ao no co, .int .u32 (rv : Int), .int .i64 rk, .int .i64 rd, .int .i64 (ze : Int), .int .i64 (za : Int), .slice a8 nv c8, .slice a9 nl c9] 42)).heap[w4.heap.size]? = some (.cells #[.int .i64 (ze : Int), .int .i64 (za : Int), .slice a8 nv c8, .slice a9 nl c9] 39 (0, 0))) := Lib.hid (heap_alloc_old (heap_alloc_new' _ _))); clear hw4 hm4 hv4 hl4 hb4)))
           go_roundw
           case rel => exact ⟨k + 1, ms ++ [⟨⟨k % 3, k + 1, ⟨kind, ops, rv, rk, rd⟩, (ze : Int), (za : Int), ag.2.vals, ag.2.list, 0, 0⟩, .slice ao no co, .slice a8 nv c8, .slice a9 nl c9⟩], rs ++ [⟨⟨k % 3, k + 1, ⟨kind, ops, rv, rk, rd⟩, (ze : Int), (za : Int), ag.2.vals, ag.2.list, (k : Int) - (x : Int) % 7, (k : Int) + 1 + (x : Int) / 7⟩, .slice ao no co, .slice a8 nv c8, .slice a9 nl c9⟩], by go_num, by omega, by omega, HL.out.step (by rw [HAG.out.1]) HW9.out HOWN8.out.nm (by rw [HAG.out.2.2.2.1]) (by rw [HAG.out.2.2.2.2]) (by rw [← HNO.out]; exact h20) HSM.out.size (by omega) (by omega)⟩
           case measure => simp [intOf]; omega
         · skip
           have HC11 : Hid (∀ a8 c8 a9 c9, (#[.int .u8 ((k : Int) % 3), .int .u32 ((k : Int) + 1), .int .u8 (kind : Int), .slice ao no co, .int .u32 (rv : Int), .int .i64 rk, .int .i64 rd, .int .i64 (ze : Int), .int .i64 (za : Int), .slice a8 nv c8, .slice a9 nl c9] : Array Value).toList = Cm.c11 ⟨⟨k % 3, k + 1, ⟨kind, ops, rv, rk, rd⟩, (ze : Int), (za : Int), ag.2.vals, ag.2.list, 0, 0⟩, .slice ao no co, .slice a8 nv c8, .slice a9 nl c9⟩) := Lib.hid (fun a8 c8 a9 c9 => by simp [Cm.c11])
           have HC13 : Hid (∀ a8 c8 a9 c9, (#[.int .u8 ((k : Int) % 3), .int .u32 ((k : Int) + 1), .int .u8 (kind : Int), .slice ao no co, .int .u32 (rv : Int), .int .i64 rk, .int .i64 rd, .int .i64 (ze : Int), .int .i64 (za : Int), .slice a8 nv c8, .slice a9 nl c9, .int .i64 ((k : Int)), .int .i64 ((k : Int) + 1)] : Array Value).toList = Cm.c13 ⟨⟨k % 3, k + 1, ⟨kind, ops, rv, rk, rd⟩, (ze : Int), (za : Int), ag.2.vals, ag.2.list, (k : Int), (k : Int) + 1⟩, .slice ao no co, .slice a8 nv c8, .slice a9 nl c9⟩) := Lib.hid (fun a8 c8 a9 c9 => by simp [Cm.c13])
           have HOWN : Hid (∀ (fr to_ : Int) a8 c8 a9 c9 w', Seg w' 77 3 (.slice a8 nv c8) nv (vvcells ag.2.vals) → Seg w' 32 1 (.slice a9 nl c9) nl (ag.2.list.map (keyV .u32)) → Cm.Own w w' ⟨⟨k % 3, k + 1, ⟨kind, ops, rv, rk, rd⟩, (ze : Int), (za : Int), ag.2.vals, ag.2.list, fr, to_⟩, .slice ao no co, .slice a8 nv c8, .slice a9 nl c9⟩) := Lib.hid (fun fr to_ a8 c8 a9 c9 w' h1 h2 => ⟨⟨by show k % 3 < 256; omega, by show k + 1 < 4294967296; omega⟩, HSM.out.fits.v, HOR.out, by rw [HAG.out.2.1] at h1; rw [HAG.out.2.1]; exact h1, by rw [HAG.out.2.2.1] at h2; rw [HAG.out.2.2.1]; exact h2⟩)
           go_wp2_with (first
             | (have hq := HW7.out; at_builtin; go_loud (refine wpList_append_pat rfl (.tmp 65) (.tmp 84) 30 rfl i1 _ 13 144 Tryz.underlying30 HI1.out.1 HI1.out.2.1 HI1.out.2.2.1 HI1.out.2.2.2 rfl (by decide) rfl HROW8.out (.slice (some ⟨w7.heap.size, 0, none⟩) 1 1) 1 _ rfl HSR8.out (by unfold maxLen; omega) (by omega) plainP HW8.out.pat' HALL8.out (fun kk q j u h => plain_zero zeros_plain13 kk q 13 j u h) ?_; intro v9 w9 hs9 hp9 hg9 ho9; (have HW9 := Lib.hid (HW8.out.appR (c := ⟨⟨k % 3, k + 1, ⟨kind, ops, rv, rk, rd⟩, (ze : Int), (za : Int), ag.2.vals, ag.2.list, (k : Int), (k : Int) + 1⟩, .slice ao no co, .slice a8 nv c8, .slice a9 nl c9⟩) HOWN8.out (by rw [HC13.out] at hs9; rw [HL.out.len']; exact hs9) hp9 hg9 ho9)); (obtain ⟨ax9, cx9, rfl, -⟩ := hs9.shape); clear hs9 hp9 hg9 ho9 hq))
             | (at_builtin; go_loud (refine wpList_append_pat rfl (.tmp 53) (.tmp 63) 29 rfl i0 _ 11 128 Tryz.underlying29 HI.out.1 HI.out.2.1 HI.out.2.2.1 HI.out.2.2.2 rfl (by decide) rfl HROW6.out (.slice (some ⟨w4.heap.size + 1, 0, none⟩) 1 1) 1 _ rfl HSR6.out (by unfold maxLen; omega) (by omega) plainP HW6.out.pat HALL6.out (fun kk q j u h => plain_zero zeros_plain11 kk q 11 j u h) ?_; intro v7 w7 hs7 hp7 hg7 ho7; (have HW7 := Lib.hid (HW6.out.appC (c := ⟨⟨k % 3, k + 1, ⟨kind, ops, rv, rk, rd⟩, (ze : Int), (za : Int), ag.2.vals, ag.2.list, 0, 0⟩, .slice ao no co, .slice a8 nv c8, .slice a9 nl c9⟩) HOWN6.out (by rw [HC11.out] at hs7; rw [HL.out.len]; exact hs7) hp7 hg7 ho7)); (have hm7 := mod_grown hg7); (have hv7 := HV4.out.1.alloc (.cells #[.int .i64 (ze : Int), .int .i64 (za : Int), .slice a8 nv c8, .slice a9 nl c9] 39) |>.alloc (.cells #[.int .u8 ((k : Int) % 3), .int .u32 ((k : Int) + 1), .int .u8 (kind : Int), .slice ao no co, .int .u32 (rv : Int), .int .i64 rk, .int .i64 rd, .int .i64 (ze : Int), .int .i64 (za : Int), .slice a8 nv c8, .slice a9 nl c9] 42) |>.mod hm7 (seg_else HW6.out.else_u (.inl rfl) (HV4.out.1.alloc (.cells #[.int .i64 (ze : Int), .int .i64 (za : Int), .slice a8 nv c8, .slice a9 nl c9] 39) |>.alloc (.cells #[.int .u8 ((k : Int) % 3), .int .u32 ((k : Int) + 1), .int .u8 (kind : Int), .slice ao no co, .int .u32 (rv : Int), .int .i64 rk, .int .i64 rd, .int .i64 (ze : Int), .int .i64 (za : Int), .slice a8 nv c8, .slice a9 nl c9] 42)))); (have hl7 := HV4.out.2.alloc (.cells #[.int .i64 (ze : Int), .int .i64 (za : Int), .slice a8 nv c8, .slice a9 nl c9] 39) |>.alloc (.cells #[.int .u8 ((k : Int) % 3), .int .u32 ((k : Int) + 1), .int .u8 (kind : Int), .slice ao no co, .int .u32 (rv : Int), .int .i64 rk, .int .i64 rd, .int .i64 (ze : Int), .int .i64 (za : Int), .slice a8 nv c8, .slice a9 nl c9] 42) |>.mod hm7 (seg_else HW6.out.else_u (.inr rfl) (HV4.out.2.alloc (.cells #[.int .i64 (ze : Int), .int .i64 (za : Int), .slice a8 nv c8, .slice a9 nl c9] 39) |>.alloc (.cells #[.int .u8 ((k : Int) % 3), .int .u32 ((k : Int) + 1), .int .u8 (kind : Int), .slice ao no co, .int .u32 (rv : Int), .int .i64 rk, .int .i64 rd, .int .i64 (ze : Int), .int .i64 (za : Int), .slice a8 nv c8, .slice a9 nl c9] 42)))); (have hbq := hm7.heap (heap_alloc_old (heap_alloc_old HB4.out)) (fun e => seg_ne HW6.out.row (heap_alloc_old (heap_alloc_old HB4.out)) (by decide) e)); (have hba := hm7.heap HBA6.out (fun e => seg_ne HW6.out.row HBA6.out (by decide) e)); have z0 := cell_of_row hbq 0; have z1 := cell_of_row hbq 1; have z2 := cell_of_row hbq 2; have z3 := cell_of_row hbq 3; have z4 := cell_of_row hbq 4; have x0 := cell_of_row hba 0; have x1 := cell_of_row hba 1; have x2 := cell_of_row hba 2; have x3 := cell_of_row hba 3; have zzq := lt_of_block hbq; have zza := lt_of_block hba; simp at z0 z1 z2 z3 z4 x0 x1 x2 x3; (obtain ⟨ax7, cx7, rfl, -⟩ := hs7.shape); (have HW8 := Lib.hid (HW7.out.keep ((Mod.refl (fun _ => False) w7).alloc (.cells #[.int .u8 ((k : Int) % 3), .int .u32 ((k : Int) + 1), .int .u8 (kind : Int), .slice ao no co, .int .u32 (rv : Int), .int .i64 rk, .int .i64 rd, .int .i64 (ze : Int), .int .i64 (za : Int), .slice a8 nv c8, .slice a9 nl c9, .int .i64 ((k : Int)), .int .i64 ((k : Int) + 1)] 44)))); (have HROW8 : Hid (Seg (w7.alloc (.cells #[.int .u8 ((k : Int) % 3), .int .u32 ((k : Int) + 1), .int .u8 (kind : Int), .slice ao no co, .int .u32 (rv : Int), .int .i64 rk, .int .i64 rd, .int .i64 (ze : Int), .int .i64 (za : Int), .slice a8 nv c8, .slice a9 nl c9, .int .i64 ((k : Int)), .int .i64 ((k : Int) + 1)] 44)) 44 13 (.slice ar k cr) k (rs.flatMap Cm.c13)) := Lib.hid (by have h := HW8.out.row'; rwa [HL.out.len'] at h)); (have HSR8 : Hid (Src (w7.alloc (.cells #[.int .u8 ((k : Int) % 3), .int .u32 ((k : Int) + 1), .int .u8 (kind : Int), .slice ao no co, .int .u32 (rv : Int), .int .i64 rk, .int .i64 rd, .int .i64 (ze : Int), .int .i64 (za : Int), .slice a8 nv c8, .slice a9 nl c9, .int .i64 ((k : Int)), .int .i64 ((k : Int) + 1)] 44)) 13 (.slice (some ⟨w7.heap.size, 0, none⟩) 1 1) 1 (#[.int .u8 ((k : Int) % 3), .int .u32 ((k : Int) + 1), .int .u8 (kind : Int), .slice ao no co, .int .u32 (rv : Int), .int .i64 rk, .int .i64 rd, .int .i64 (ze : Int), .int .i64 (za : Int), .slice a8 nv c8, .slice a9 nl c9, .int .i64 ((k : Int)), .int .i64 ((k : Int) + 1)] : Array Value).toList) := Lib.hid (src_cells (w := w7) rfl (size := 13) 44 #[.int .u8 ((k : Int) % 3), .int .u32 ((k : Int) + 1), .int .u8 (kind : Int), .slice ao no co, .int .u32 (rv : Int), .int .i64 rk, .int .i64 rd, .int .i64 (ze : Int), .int .i64 (za : Int), .slice a8 nv c8, .slice a9 nl c9, .int .i64 ((k : Int)), .int .i64 ((k : Int) + 1)] rfl (by simp [Value.oneCell']))); (have HOWN8 := Lib.hid (HOWN.out ((k : Int)) ((k : Int) + 1) a8 c8 a9 c9 (w7.alloc (.cells #[.int .u8 ((k : Int) % 3), .int .u32 ((k : Int) + 1), .int .u8 (kind : Int), .slice ao no co, .int .u32 (rv : Int), .int .i64 rk, .int .i64 rd, .int .i64 (ze : Int), .int .i64 (za : Int), .slice a8 nv c8, .slice a9 nl c9, .int .i64 ((k : Int)), .int .i64 ((k : Int) + 1)] 44)) (hv7.alloc _) (hl7.alloc _))); (have HALL8 : Hid (∀ (j : Nat) (u : Value), (rs.flatMap Cm.c13 ++ (#[.int .u8 ((k : Int) % 3), .int .u32 ((k : Int) + 1), .int .u8 (kind : Int), .slice ao no co, .int .u32 (rv : Int), .int .i64 rk, .int .i64 rd, .int .i64 (ze : Int), .int .i64 (za : Int), .slice a8 nv c8, .slice a9 nl c9, .int .i64 ((k : Int)), .int .i64 ((k : Int) + 1)] : Array Value).toList)[j]? = some u → plainP j u) := Lib.hid (plain_at (fun u hu => by rcases List.mem_append.1 hu with hu | hu; exact plain_rows (fun c hc => (HW8.out.own' c hc).sl.c13) u hu; exact HOWN8.out.sl.c13 u (by rw [← HC13.out]; exact hu)))); clear hs7 hp7 hg7 ho7 hm7 hv7 hl7 hbq hba))
             | (go_at_call 9; go_loud (refine (HDO.out _ HMQ.out).mono ?_; (rintro e w4 ⟨a8, c8, a9, c9, rfl, hw4, hm4, hv4, hl4⟩); have HW4 := Lib.hid hw4; have HV4 := Lib.hid (And.intro hv4 hl4); have hb4 := hm4.heap HBQ.out (fun e => by have := HGL.out; omega); have y0 := cell_of_row hb4 0; have y1 := cell_of_row hb4 1; have y2 := cell_of_row hb4 2; have y3 := cell_of_row hb4 3; have y4 := cell_of_row hb4 4; have zy := lt_of_block hb4; simp at y0 y1 y2 y3 y4; have HB4 := Lib.hid hb4; (have HW6 := Lib.hid (hw4.keep (((Mod.refl (fun _ => False) w4).alloc (.cells #[.int .i64 (ze : Int), .int .i64 (za : Int), .slice a8 nv c8, .slice a9 nl c9] 39)).alloc (.cells #[.int .u8 ((k : Int) % 3), .int .u32 ((k : Int) + 1), .int .u8 (kind : Int), .slice ao no co, .int .u32 (rv : Int), .int .i64 rk, .int .i64 rd, .int .i64 (ze : Int), .int .i64 (za : Int), .slice a8 nv c8, .slice a9 nl c9] 42)))); (have HROW6 : Hid (Seg ((w4.alloc (.cells #[.int .i64 (ze : Int), .int .i64 (za : Int), .slice a8 nv c8, .slice a9 nl c9] 39)).alloc (.cells #[.int .u8 ((k : Int) % 3), .int .u32 ((k : Int) + 1), .int .u8 (kind : Int), .slice ao no co, .int .u32 (rv : Int), .int .i64 rk, .int .i64 rd, .int .i64 (ze : Int), .int .i64 (za : Int), .slice a8 nv c8, .slice a9 nl c9] 42)) 42 11 (.slice au k cu) k (ms.flatMap Cm.c11)) := Lib.hid (by have h := HW6.out.row; rwa [HL.out.len] at h)); (have HSR6 : Hid (Src ((w4.alloc (.cells #[.int .i64 (ze : Int), .int .i64 (za : Int), .slice a8 nv c8, .slice a9 nl c9] 39)).alloc (.cells #[.int .u8 ((k : Int) % 3), .int .u32 ((k : Int) + 1), .int .u8 (kind : Int), .slice ao no co, .int .u32 (rv : Int), .int .i64 rk, .int .i64 rd, .int .i64 (ze : Int), .int .i64 (za : Int), .slice a8 nv c8, .slice a9 nl c9] 42)) 11 (.slice (some ⟨w4.heap.size + 1, 0, none⟩) 1 1) 1 (#[.int .u8 ((k : Int) % 3), .int .u32 ((k : Int) + 1), .int .u8 (kind : Int), .slice ao no co, .int .u32 (rv : Int), .int .i64 rk, .int .i64 rd, .int .i64 (ze : Int), .int .i64 (za : Int), .slice a8 nv c8, .slice a9 nl c9] : Array Value).toList) := Lib.hid (src_cells (w := (w4.alloc (.cells #[.int .i64 (ze : Int), .int .i64 (za : Int), .slice a8 nv c8, .slice a9 nl c9] 39))) (by simp) (size := 11) 42 #[.int .u8 ((k : Int) % 3), .int .u32 ((k : Int) + 1), .int .u8 (kind : Int), .slice ao no co, .int .u32 (rv : Int), .int .i64 rk, .int .i64 rd, .int .i64 (ze : Int), .int .i64 (za : Int), .slice a8 nv c8, .slice a9 nl c9] rfl (by simp [Value.oneCell']))); (have HOWN6 := Lib.hid (HOWN.out 0 0 a8 c8 a9 c9 ((w4.alloc (.cells #[.int .i64 (ze : Int), .int .i64 (za : Int), .slice a8 nv c8, .slice a9 nl c9] 39)).alloc (.cells #[.int .u8 ((k : Int) % 3), .int .u32 ((k : Int) + 1), .int .u8 (kind : Int), .slice ao no co, .int .u32 (rv : Int), .int .i64 rk, .int .i64 rd, .int .i64 (ze : Int), .int .i64 (za : Int), .slice a8 nv c8, .slice a9 nl c9] 42)) ((hv4.alloc _).alloc _) ((hl4.alloc _).alloc _))); (have HALL6 : Hid (∀ (j : Nat) (u : Value), (ms.flatMap Cm.c11 ++ (#[.int .u8 ((k : Int) % 3), .int .u32 ((k : Int) + 1), .int .u8 (kind : Int), .slice ao no co, .int .u32 (rv : Int), .int .i64 rk, .int .i64 rd, .int .i64 (ze : Int), .int .i64 (za : Int), .slice a8 nv c8, .slice a9 nl c9] : Array Value).toList)[j]? = some u → plainP j u) := Lib.hid (plain_at (fun u hu => by rcases List.mem_append.1 hu with hu | hu; exact plain_rows (fun c hc => (HW6.out.own c hc).sl.c11) u hu; exact HOWN6.out.sl.c11 u (by rw [← HC11.out]; exact hu)))); (have HBA6 : Hid (((w4.alloc (.cells #[.int .i64 (ze : Int), .int .i64 (za : Int), .slice a8 nv c8, .slice a9 nl c9] 39)).alloc (.cells #[.int .u8 ((k : Int) % 3), .int .u32 ((k : Int) + 1), .int .u8 (kind : Int), .slice ao no co, .int .u32 (rv : Int), .int .i64 rk, .int .i64 rd, .int .i64 (ze : Int), .int .i64 (za : Int), .slice a8 nv c8, .slice a9 nl c9] 42)).heap[w4.heap.size]? = some (.cells #[.int .i64 (ze : Int), .int .i64 (za : Int), .slice a8 nv c8, .slice a9 nl c9] 39 (0, 0))) := Lib.hid (heap_alloc_old (heap_alloc_new' _ _))); clear hw4 hm4 hv4 hl4 hb4)))
           go_roundw
           case rel => exact ⟨k + 1, ms ++ [⟨⟨k % 3, k + 1, ⟨kind, ops, rv, rk, rd⟩, (ze : Int), (za : Int), ag.2.vals, ag.2.list, 0, 0⟩, .slice ao no co, .slice a8 nv c8, .slice a9 nl c9⟩], rs ++ [⟨⟨k % 3, k + 1, ⟨kind, ops, rv, rk, rd⟩, (ze : Int), (za : Int), ag.2.vals, ag.2.list, (k : Int), (k : Int) + 1⟩, .slice ao no co, .slice a8 nv c8, .slice a9 nl c9⟩], by go_num, by omega, by omega, HL.out.step (by rw [HAG.out.1]) HW9.out HOWN8.out.nm (by rw [HAG.out.2.2.2.1]) (by rw [HAG.out.2.2.2.2]) (by rw [← HNO.out]; exact h20) HSM.out.size (by omega) (by omega)⟩
           case measure => simp [intOf]; omega
       · have h20i : (20 : Int) < (no : Int) := by omega
         go_wp2
         go_ret
         exact ⟨rfl, HK.out.trans HMQ.out⟩
     · have h40i : (40 : Int) ≤ (k : Int) := by omega
       have HLE := Lib.hid (HL.out.keep HMQ.out)
       have HVN : Hid (verdict (ms.map Cm.x) (rs.map Cm.x) = none) := Lib.hid (holds_law HLE.out.hist HLE.out.told)
       go_upto_region 23 with (first
         | (have hq := HRE.out; go_at_call 10; go_loud (refine (HVER.out _ _ _ _ _ (ms.map Cm.x) (rs.map Cm.x) HMW12.out (HCO.out.1.keep HM12.out) HRE.out.1 HCO.out.2 HRE.out.2 (by rw [List.length_map, HLE.out.len]; omega) (by rw [List.length_map, HLE.out.len']; omega)).mono ?_; (rintro e w13 ⟨he, hm13⟩); rw [HVN.out] at he; simp only [verdV] at he; subst he; have HLV := Lib.hid ((HLE.out.keep (HM11.out.trans (HM12.out.trans hm13))).keep ((Mod.refl (fun _ => False) w13).alloc (.cells #[.int .i64 0, .int .i64 0] 46))); clear hm13 hq))
         | (go_at_call 12; go_loud (refine (HREP.out _ _ _ (HLE.out.st.crd'.keep HM11.out) HLE.out.sm' (by rw [HLE.out.len']; omega)).mono ?_; (rintro e w12 ⟨a12, c12, ms12, rfl, hm12, hc12, hx12⟩); have HRE := Lib.hid (And.intro hc12 hx12); have HM12 := Lib.hid hm12; have HMW12 : Hid (Mod (fun _ => False) w w12) := Lib.hid (HLE.out.st.mod.trans (HM11.out.trans hm12)); clear hm12 hc12 hx12))
         | (go_at_call 11; go_loud (refine (HCOM.out _ _ _ HLE.out.st.crd HLE.out.sm (by rw [HLE.out.len]; omega)).mono ?_; (rintro e w11 ⟨a11, c11, ms11, rfl, hm11, hc11, hx11⟩); have HCO := Lib.hid (And.intro hc11 hx11); have HM11 := Lib.hid hm11; clear hm11 hc11 hx11)))
       by_cases hk0 : k = 0
       · have hk0i : ((k : Int) == 0) = true := by simp; omega
         subst hk0
         go_wp2
         go_ret
         exact ⟨rfl, HLV.out.st.mod⟩
       · have hk0i : ((k : Int) == 0) = false := by simp; omega
         have hk0j : ¬ (k : Int) = 0 := by omega
         obtain ⟨hi, hhi⟩ : ∃ h, h = pk % k := ⟨_, rfl⟩
         have hkw : IntKind.i64.wrap (k : Int) = (k : Int) := IntWalk.i64_in _ (by omega)
         have hw0 : IntKind.i64.wrap (pk : Int) = (pk : Int) := IntWalk.i64_in _ (by omega)
         have htm : (pk : Int).tmod (k : Int) = (hi : Int) := by
           rw [hhi, Int.tmod_eq_emod_of_nonneg (by omega)]
           simp
         have htm2 : (pk : Int) % (k : Int) = (hi : Int) := by rw [hhi]; simp
         have hlt : hi < k := by rw [hhi]; exact Nat.mod_lt _ (by omega)
         have hwh : IntKind.i64.wrap (hi : Int) = (hi : Int) := IntWalk.i64_in _ (by omega)
         have hi0 : (0 : Int) ≤ (hi : Int) := by omega
         have hik : (hi : Int) < (k : Int) := by omega
         clear hhi
         obtain ⟨c, hc⟩ : ∃ c, ms[hi]? = some c := ⟨_, List.getElem?_eq_getElem (by rw [HLE.out.len]; exact hlt)⟩
         have hcx : (ms.map Cm.x)[hi]? = some c.x := by rw [List.getElem?_map, hc]; rfl
         have hp := (HLE.out.hist hi c.x hcx).2.2.2
         obtain ⟨g, off, cap, hue, -⟩ := HLV.out.st.row.open (by rw [HLE.out.len]; omega)
         rw [HLE.out.len] at hue
         injection hue with hue _ hce
         subst hue hce
         obtain ⟨hcell, hfr, hgl, hcrd, hcrd', hmod⟩ := HLV.out.st.turn hc HLE.out.len.symm (c.x.p + 1)
         have HTU := Lib.hid (And.intro hcrd (And.intro hcrd' hmod))
         have HBV : Hid (verdict ((ms.set hi { c with x := { c.x with p := c.x.p + 1 } }).map Cm.x) (rs.map Cm.x) = some (1, hi)) := Lib.hid (by
           rw [List.map_set]
           exact bad_law HLE.out.hist hcx)
         have HSS : Hid (∀ d ∈ ms.set hi { c with x := { c.x with p := c.x.p + 1 } }, d.Small) := Lib.hid (fun d hd => by
           rcases List.mem_or_eq_of_mem_set hd with hd | hd
           · exact HLE.out.sm d hd
           · have := HLE.out.sm c (List.mem_of_getElem? hc)
             rw [hd]; exact ⟨this.ops, this.vals, this.list⟩)
         obtain ⟨p, hpe⟩ : ∃ p, p = c.x.p := ⟨_, rfl⟩
         rw [← hpe] at hp hcell HTU HBV HSS
         obtain ⟨hp0, hp20⟩ := hp
         have hpw : IntKind.i64.wrap (p + 1) = p + 1 := IntWalk.i64_in _ (by omega)
         clear hc hcx hcrd hcrd' hmod hpe
         go_wp2_with (first
           | (have hq := HRE2.out; go_at_call 10; go_loud (refine (HVER.out _ _ _ _ _ ((ms.set hi { c with x := { c.x with p := p + 1 } }).map Cm.x) (rs.map Cm.x) HMW22.out (HCO2.out.1.keep HM22.out) HRE2.out.1 HCO2.out.2 HRE2.out.2 (by rw [List.length_map, List.length_set, HLE.out.len]; omega) (by rw [List.length_map, HLE.out.len']; omega)).mono ?_; (rintro e w23 ⟨he, hm23⟩); rw [HBV.out] at he; simp only [verdV] at he; subst he; have HM23 : Hid (Mod (fun _ => False) w w23) := Lib.hid (HMW22.out.trans hm23); clear hm23 hq))
           | (have hq := HTU.out; go_at_call 12; go_loud (refine (HREP.out _ _ _ (HTU.out.2.1.keep HM21.out) HLE.out.sm' (by rw [HLE.out.len']; omega)).mono ?_; (rintro e w22 ⟨a22, c22, ms22, rfl, hm22, hc22, hx22⟩); have HRE2 := Lib.hid (And.intro hc22 hx22); have HM22 := Lib.hid hm22; have HMW22 : Hid (Mod (fun _ => False) w w22) := Lib.hid (HTU.out.2.2.trans (HM21.out.trans hm22)); clear hm22 hc22 hx22 hq))
           | (go_at_call 11; go_loud (refine (HCOM.out _ _ _ HTU.out.1 HSS.out (by rw [List.length_set, HLE.out.len]; omega)).mono ?_; (rintro e w21 ⟨a21, c21, ms21, rfl, hm21, hc21, hx21⟩); have HCO2 := Lib.hid (And.intro hc21 hx21); have HM21 := Lib.hid hm21; clear hm21 hc21 hx21)))
         go_ret
         exact ⟨by simp, HM23.out.alloc _⟩
   · skip
     have HLE := Lib.hid HL.out
     have HVN : Hid (verdict (ms.map Cm.x) (rs.map Cm.x) = none) := Lib.hid (holds_law HLE.out.hist HLE.out.told)
     go_upto_region 23 with (first
       | (have hq := HRE.out; go_at_call 10; go_loud (refine (HVER.out _ _ _ _ _ (ms.map Cm.x) (rs.map Cm.x) HMW12.out (HCO.out.1.keep HM12.out) HRE.out.1 HCO.out.2 HRE.out.2 (by rw [List.length_map, HLE.out.len]; omega) (by rw [List.length_map, HLE.out.len']; omega)).mono ?_; (rintro e w13 ⟨he, hm13⟩); rw [HVN.out] at he; simp only [verdV] at he; subst he; have HLV := Lib.hid ((HLE.out.keep (HM11.out.trans (HM12.out.trans hm13))).keep ((Mod.refl (fun _ => False) w13).alloc (.cells #[.int .i64 0, .int .i64 0] 46))); clear hm13 hq))
       | (go_at_call 12; go_loud (refine (HREP.out _ _ _ (HLE.out.st.crd'.keep HM11.out) HLE.out.sm' (by rw [HLE.out.len']; omega)).mono ?_; (rintro e w12 ⟨a12, c12, ms12, rfl, hm12, hc12, hx12⟩); have HRE := Lib.hid (And.intro hc12 hx12); have HM12 := Lib.hid hm12; have HMW12 : Hid (Mod (fun _ => False) w w12) := Lib.hid (HLE.out.st.mod.trans (HM11.out.trans hm12)); clear hm12 hc12 hx12))
       | (go_at_call 11; go_loud (refine (HCOM.out _ _ _ HLE.out.st.crd HLE.out.sm (by rw [HLE.out.len]; omega)).mono ?_; (rintro e w11 ⟨a11, c11, ms11, rfl, hm11, hc11, hx11⟩); have HCO := Lib.hid (And.intro hc11 hx11); have HM11 := Lib.hid hm11; clear hm11 hc11 hx11)))
     by_cases hk0 : k = 0
     · have hk0i : ((k : Int) == 0) = true := by simp; omega
       subst hk0
       go_wp2
       go_ret
       exact ⟨rfl, HLV.out.st.mod⟩
     · have hk0i : ((k : Int) == 0) = false := by simp; omega
       have hk0j : ¬ (k : Int) = 0 := by omega
       obtain ⟨hi, hhi⟩ : ∃ h, h = pk % k := ⟨_, rfl⟩
       have hkw : IntKind.i64.wrap (k : Int) = (k : Int) := IntWalk.i64_in _ (by omega)
       have hw0 : IntKind.i64.wrap (pk : Int) = (pk : Int) := IntWalk.i64_in _ (by omega)
       have htm : (pk : Int).tmod (k : Int) = (hi : Int) := by
         rw [hhi, Int.tmod_eq_emod_of_nonneg (by omega)]
         simp
       have htm2 : (pk : Int) % (k : Int) = (hi : Int) := by rw [hhi]; simp
       have hlt : hi < k := by rw [hhi]; exact Nat.mod_lt _ (by omega)
       have hwh : IntKind.i64.wrap (hi : Int) = (hi : Int) := IntWalk.i64_in _ (by omega)
       have hi0 : (0 : Int) ≤ (hi : Int) := by omega
       have hik : (hi : Int) < (k : Int) := by omega
       clear hhi
       obtain ⟨c, hc⟩ : ∃ c, ms[hi]? = some c := ⟨_, List.getElem?_eq_getElem (by rw [HLE.out.len]; exact hlt)⟩
       have hcx : (ms.map Cm.x)[hi]? = some c.x := by rw [List.getElem?_map, hc]; rfl
       have hp := (HLE.out.hist hi c.x hcx).2.2.2
       obtain ⟨g, off, cap, hue, -⟩ := HLV.out.st.row.open (by rw [HLE.out.len]; omega)
       rw [HLE.out.len] at hue
       injection hue with hue _ hce
       subst hue hce
       obtain ⟨hcell, hfr, hgl, hcrd, hcrd', hmod⟩ := HLV.out.st.turn hc HLE.out.len.symm (c.x.p + 1)
       have HTU := Lib.hid (And.intro hcrd (And.intro hcrd' hmod))
       have HBV : Hid (verdict ((ms.set hi { c with x := { c.x with p := c.x.p + 1 } }).map Cm.x) (rs.map Cm.x) = some (1, hi)) := Lib.hid (by
         rw [List.map_set]
         exact bad_law HLE.out.hist hcx)
       have HSS : Hid (∀ d ∈ ms.set hi { c with x := { c.x with p := c.x.p + 1 } }, d.Small) := Lib.hid (fun d hd => by
         rcases List.mem_or_eq_of_mem_set hd with hd | hd
         · exact HLE.out.sm d hd
         · have := HLE.out.sm c (List.mem_of_getElem? hc)
           rw [hd]; exact ⟨this.ops, this.vals, this.list⟩)
       obtain ⟨p, hpe⟩ : ∃ p, p = c.x.p := ⟨_, rfl⟩
       rw [← hpe] at hp hcell HTU HBV HSS
       obtain ⟨hp0, hp20⟩ := hp
       have hpw : IntKind.i64.wrap (p + 1) = p + 1 := IntWalk.i64_in _ (by omega)
       clear hc hcx hcrd hcrd' hmod hpe
       go_wp2_with (first
         | (have hq := HRE2.out; go_at_call 10; go_loud (refine (HVER.out _ _ _ _ _ ((ms.set hi { c with x := { c.x with p := p + 1 } }).map Cm.x) (rs.map Cm.x) HMW22.out (HCO2.out.1.keep HM22.out) HRE2.out.1 HCO2.out.2 HRE2.out.2 (by rw [List.length_map, List.length_set, HLE.out.len]; omega) (by rw [List.length_map, HLE.out.len']; omega)).mono ?_; (rintro e w23 ⟨he, hm23⟩); rw [HBV.out] at he; simp only [verdV] at he; subst he; have HM23 : Hid (Mod (fun _ => False) w w23) := Lib.hid (HMW22.out.trans hm23); clear hm23 hq))
         | (have hq := HTU.out; go_at_call 12; go_loud (refine (HREP.out _ _ _ (HTU.out.2.1.keep HM21.out) HLE.out.sm' (by rw [HLE.out.len']; omega)).mono ?_; (rintro e w22 ⟨a22, c22, ms22, rfl, hm22, hc22, hx22⟩); have HRE2 := Lib.hid (And.intro hc22 hx22); have HM22 := Lib.hid hm22; have HMW22 : Hid (Mod (fun _ => False) w w22) := Lib.hid (HTU.out.2.2.trans (HM21.out.trans hm22)); clear hm22 hc22 hx22 hq))
         | (go_at_call 11; go_loud (refine (HCOM.out _ _ _ HTU.out.1 HSS.out (by rw [List.length_set, HLE.out.len]; omega)).mono ?_; (rintro e w21 ⟨a21, c21, ms21, rfl, hm21, hc21, hx21⟩); have HCO2 := Lib.hid (And.intro hc21 hx21); have HM21 := Lib.hid hm21; clear hm21 hc21 hx21)))
       go_ret
       exact ⟨by simp, HM23.out.alloc _⟩
end Go.Proofs.YtpigipgoopeeoaaGreatDoor
