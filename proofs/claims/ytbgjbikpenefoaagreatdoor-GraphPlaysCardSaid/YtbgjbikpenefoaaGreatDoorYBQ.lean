/- YBQ: what is needed of it (by shake.py). -/
import Derived.Test.YtbgjbikpenefoaaGreatDoorM43
import Derived.Test.YtbgjbikpenefoaaGreatDoorM44

/- YBQ, as far as the seat goes. -/
/- gussetlaw03.GraphPlays, walked. (Printed by gen_gplays.py.) -/
namespace Go.Proofs.YtbgjbikpenefoaaGreatDoor
set_option linter.unusedVariables false
set_option linter.unusedSimpArgs false
open Go.RowKit Go.Maps
set_option maxRecDepth 100000 in
set_option maxHeartbeats 16000000 in
theorem gplays_main (vs : Value) (rs : List Qs) (v : Nat) (hvb : v < 4294967296) (w : World) (hs : QRd w vs rs) (hg : ErrT w) :
    Calls Tryz.prog 4 #[vs, .int .u32 (v : Int)] w fun e w' => e = .returned (.bool true) ∧ Mod (fun _ => False) w w' := by
  have HVB := Lib.hid hvb
  have HAW := Lib.hid (awake_any w hg)
  have HE := Lib.hid hg
  have HRS := Lib.hid hs
  obtain ⟨as_, cs_, rfl, hcs, hcs2, -⟩ := hs.row.shape
  obtain ⟨n, hn⟩ : ∃ n, n = rs.length := ⟨_, rfl⟩
  rw [← hn] at HRS hcs ⊢
  have HN := Lib.hid hn
  clear hs hn hg
  clear hvb
  go_enter Tryz.func4, Tryz.ntmps4
  go_wp2_with (first
    | (go_at_call 11; refine (snew_any w w1 HM1.out).mono ?_; (rintro e w2 ⟨rfl, hm2, hst, hz2⟩); have HPY0 : Hid (Py w (w1.heap.size + 1) w1.heap.size w2.heap.size [] (w2.alloc (.cells #[.slice none 0 0] 51))) := Lib.hid ⟨hst.keep ((Mod.refl _ _).alloc _), ⟨_, [], ⟨heap_alloc_new' _ _, ⟨RdS.none _ _, by simp⟩⟩, rfl⟩, hst.mod.size⟩; clear hm2 hst hz2)
    | (go_at_call 10; refine HAW.out.mono ?_; (rintro e w1 ⟨rfl, hm1⟩); have HM1 := Lib.hid hm1; clear hm1))
  go_loopw [26] (fun i wr => ∃ k : Nat, i = .int .i64 (k : Int) ∧ k ≤ n ∧ ∃ L, Py w (w1.heap.size + 1) w1.heap.size w2.heap.size L wr) (fun i _ => n - (intOf i).toNat)
  case atStart => exact ⟨0, rfl, Nat.zero_le _, _, HPY0.out⟩
  case round =>
    obtain ⟨k, rfl, hk, L, hpy⟩ := hrel
    have HPY := Lib.hid hpy
    clear hpy HPY0
    have HLI : Hid (∀ w', Mod (fun _ => False) wr w' → Calls Tryz.prog 25 #[.pointer (some ⟨w1.heap.size + 1, 0, none⟩)] w' fun e w'' => ∃ v, e = .returned v ∧ SegN w' w'' v (L.map Vtx.id)) := Lib.hid (fun w' m => slist_any _ _ L w w' (HPY.out.st.keep m))
    have HDI : Hid (∀ w', Mod (fun _ => False) wr w' → Calls Tryz.prog 26 #[.pointer (some ⟨w2.heap.size, 0, none⟩)] w' fun e w'' => ∃ v, e = .returned v ∧ SegN w' w'' v (L.map Vtx.id)) := Lib.hid (fun w' m => by
      obtain ⟨gv, l, hg, hl⟩ := HPY.out.rf
      have h := dids_any w2.heap.size gv l w' (hg.keep m) (by have h1 := congrArg List.length hl; rw [List.length_map] at h1; have := HPY.out.st.good.short; omega)
      rw [hl] at h
      exact h)
    by_cases hkn : k < n
    · skip
      obtain ⟨q, hq⟩ : ∃ q, rs[k]? = some q := ⟨_, List.getElem?_eq_getElem (by rw [← HN.out]; exact hkn)⟩
      obtain ⟨bl, offl, e0, hbl, r0, r1, r2, r3, r4⟩ := HRS.out.ent hq rfl
      replace r0 := HPY.out.st.mod.cell r0
      replace r1 := HPY.out.st.mod.cell r1
      replace r2 := HPY.out.st.mod.cell r2
      replace r3 := HPY.out.st.mod.cell r3
      replace r4 := HPY.out.st.mod.cell r4
      have zbl : bl < wr.heap.size := Nat.lt_of_lt_of_le hbl HPY.out.st.mod.size
      have HOR := Lib.hid (HRS.out.each q (List.mem_of_getElem? hq))
      have HSM := Lib.hid (HRS.out.small q (List.mem_of_getElem? hq))
      clear hq hbl
      subst e0
      obtain ⟨⟨kind, ops, vq, kk, dd⟩, qo⟩ := q
      obtain ⟨aq, cq, hqe, -⟩ := HOR.out.row.shape
      simp only at hqe HOR r0 r1 r2 r3 r4
      subst hqe
      obtain ⟨nq, hnq⟩ : ∃ n, n = ops.length := ⟨_, rfl⟩
      rw [← hnq] at r1 HOR
      have HNQ := Lib.hid hnq
      clear hnq
      by_cases h60 : k < 60
      · skip
        obtain ⟨q, hq⟩ : ∃ q, q = min nq 20 := ⟨_, rfl⟩
        have hq1 : min (nq : Int) 20 = (q : Int) := by omega
        have hqn : q ≤ nq := by omega
        have HQ20 : Hid (q ≤ 20) := Lib.hid (by omega)
        obtain ⟨ac, cc, hsl, hoc⟩ := HOR.out.to (k := q) (by have := HNQ.out; omega) .i64
        obtain ⟨W8, hW8⟩ : ∃ W8, W8 = wr.alloc (.cells #[.int .u8 (kind : Int), .slice ac q cc, .int .u32 (vq : Int), .int .i64 kk, .int .i64 dd] 29) := ⟨_, rfl⟩
        have hm8 : Mod (fun _ => False) wr W8 := by rw [hW8]; exact (Mod.refl _ _).alloc _
        have hb8 : W8.heap[wr.heap.size]? = some (.cells #[.int .u8 (kind : Int), .slice ac q cc, .int .u32 (vq : Int), .int .i64 kk, .int .i64 dd] 29 (0, 0)) := by rw [hW8]; exact heap_alloc_new' _ _
        have HB8 := Lib.hid hb8
        have hol : (ops.take q).length = q := by rw [List.length_take]; have := HNQ.out; omega
        have HOC := Lib.hid hoc
        have HTW : Hid (Calls Tryz.prog 16 #[.agg #[.int .u8 (kind : Int), .slice ac q cc, .int .u32 (vq : Int), .int .i64 kk, .int .i64 dd]] W8 fun e w' => ∃ ao co, e = .returned (.agg #[.int .u8 (kind : Int), .slice ao q co, .int .u32 (vq : Int), .int .i64 kk, .int .i64 dd]) ∧ Mod (fun _ => False) W8 w' ∧ ORd w' (.slice ao q co) (ops.take q)) := Lib.hid ((twinreq_any ⟨kind, ops.take q, vq, kk, dd⟩ (.slice ac q cc) W8 (hoc.keep (HPY.out.st.mod.trans hm8)) (by have h := HSM.out.size; simp only at h ⊢; rw [hol]; rw [← HNQ.out] at h; omega)).mono (by
          rintro e w' ⟨vo, rfl, m, ho⟩
          obtain ⟨a, c, e1, -⟩ := ho.row.shape
          simp only at e1
          rw [hol] at e1
          subst e1
          exact ⟨a, c, rfl, m, ho⟩))
        have t0 := cell_of_row hb8 0
        have t1 := cell_of_row hb8 1
        have t2 := cell_of_row hb8 2
        have t3 := cell_of_row hb8 3
        have t4 := cell_of_row hb8 4
        have z8 := lt_of_block hb8
        simp at t0 t1 t2 t3 t4
        have HM8 := Lib.hid hm8
        have hslw := hsl (wr.alloc (.cells #[.int .u8 (kind : Int), .slice aq nq cq, .int .u32 (vq : Int), .int .i64 kk, .int .i64 dd] 29))
        clear hq hm8 hb8 hoc hol hsl
        have h60' : ¬ (60 : Int) ≤ (k : Int) := by omega
        go_upto_region 9 with fail
        rw [← hW8]
        clear hW8 r0 r1 r2 r3 r4 zbl hslw
        go_upto_region 10 with (go_at_call 16; go_loud (refine HTW.out.mono ?_; (rintro e w5 ⟨ao, co, rfl, hm5, ho5⟩); have HM5 := Lib.hid hm5; have HO5 := Lib.hid ho5; clear hm5 ho5))
        obtain ⟨W0, hW0⟩ : ∃ W0, W0 = w5.alloc (.cells #[.int .u8 (kind : Int), .slice ao q co, .int .u32 (vq : Int), .int .i64 kk, .int .i64 dd] 29) := ⟨_, rfl⟩
        have hm0 : Mod (fun _ => False) w5 W0 := by rw [hW0]; exact (Mod.refl _ _).alloc _
        obtain ⟨b9, hb9e⟩ : ∃ b, b = w5.heap.size := ⟨_, rfl⟩
        have hb90 : W0.heap[b9]? = some (.cells #[.int .u8 (kind : Int), .slice ao q co, .int .u32 (vq : Int), .int .i64 kk, .int .i64 dd] 29 (0, 0)) := by rw [hW0, hb9e]; exact heap_alloc_new' _ _
        have hb80 : W0.heap[wr.heap.size]? = some (.cells #[.int .u8 (kind : Int), .slice ac q cc, .int .u32 (vq : Int), .int .i64 kk, .int .i64 dd] 29 (0, 0)) := (HM5.out.trans hm0).heap HB8.out (fun f => f)
        have HM0 := Lib.hid (HM8.out.trans (HM5.out.trans hm0))
        have HPY0 := Lib.hid (HPY.out.keep HM0.out)
        have HO9 := Lib.hid (HO5.out.keep hm0)
        have HO8 := Lib.hid (HOC.out.keep (HPY.out.st.mod.trans HM0.out))
        have HB80 := Lib.hid hb80
        have HB90 := Lib.hid hb90
        obtain ⟨b8, hb8e⟩ : ∃ b, b = wr.heap.size := ⟨_, rfl⟩
        rw [← hb8e] at HB80
        rw [← hW0, ← hb9e, ← hb8e]
        have HB8E := Lib.hid hb8e
        clear hb8e
        obtain ⟨ze, hze⟩ : ∃ e, e = (doG L ⟨kind, ops.take q, vq, kk, dd⟩).2.e := ⟨_, rfl⟩
        obtain ⟨za, hza⟩ : ∃ e, e = (doG L ⟨kind, ops.take q, vq, kk, dd⟩).2.at_ := ⟨_, rfl⟩
        obtain ⟨nv, hnv⟩ : ∃ e, e = (doG L ⟨kind, ops.take q, vq, kk, dd⟩).2.vals.length := ⟨_, rfl⟩
        obtain ⟨nl, hnl⟩ : ∃ e, e = (doG L ⟨kind, ops.take q, vq, kk, dd⟩).2.list.length := ⟨_, rfl⟩
        have HDO : Hid (∀ wA, Mod (fun _ => False) W0 wA → Calls Tryz.prog 13 #[.pointer (some ⟨w1.heap.size + 1, 0, none⟩), .agg #[.int .u8 (kind : Int), .slice ao q co, .int .u32 (vq : Int), .int .i64 kk, .int .i64 dd]] wA fun e w' => ∃ av cv al cl, e = .returned (.agg #[.int .i64 (ze : Int), .int .i64 (za : Int), .slice av nv cv, .slice al nl cl]) ∧ SDo w (w1.heap.size + 1) w1.heap.size L ⟨kind, ops.take q, vq, kk, dd⟩ wA (.slice av nv cv) (.slice al nl cl) w') := Lib.hid (fun wA m => (sgdo_any (w1.heap.size + 1) w1.heap.size L ⟨kind, ops.take q, vq, kk, dd⟩ (.slice ao q co) w wA (HPY0.out.st.keep m) (HO9.out.keep m) HSM.out.fits.v HE.out).mono (by
          rintro e w' ⟨vv, vl, rfl, hs⟩
          obtain ⟨a, c, e1, -⟩ := hs.vals.rdS.shape
          obtain ⟨a', c', e2, -⟩ := hs.list.rdS.shape
          rw [← hnv] at e1
          rw [← hnl] at e2
          subst e1 e2
          rw [hze, hza]
          exact ⟨a, c, a', c', rfl, hs⟩))
        have HDR : Hid (∀ wB, (∃ gv l, GrAt wB w2.heap.size gv l ∧ l.map Vs.x = L) → ORd wB (.slice ac q cc) (ops.take q) → Calls Tryz.prog 17 #[.pointer (some ⟨w2.heap.size, 0, none⟩), .agg #[.int .u8 (kind : Int), .slice ac q cc, .int .u32 (vq : Int), .int .i64 kk, .int .i64 dd]] wB fun e w' => ∃ av cv al cl, e = .returned (.agg #[.int .i64 (ze : Int), .int .i64 (za : Int), .slice av nv cv, .slice al nl cl]) ∧ RDo w2.heap.size L ⟨kind, ops.take q, vq, kk, dd⟩ (.slice av nv cv) (.slice al nl cl) wB w') := Lib.hid (fun wB hr ho => (rdo_any w2.heap.size L ⟨kind, ops.take q, vq, kk, dd⟩ (.slice ac q cc) wB hr HPY0.out.st.good ho).mono (by
          rintro e w' ⟨vv, vl, rfl, hs⟩
          obtain ⟨a, c, e1, -⟩ := hs.vals.shape
          obtain ⟨a', c', e2, -⟩ := hs.list.shape
          rw [← hnv] at e1
          rw [← hnl] at e2
          subst e1 e2
          rw [hze, hza]
          exact ⟨a, c, a', c', rfl, hs⟩))
        have HZE := Lib.hid hze
        have HZA := Lib.hid hza
        have HNV := Lib.hid hnv
        have HNL := Lib.hid hnl
        clear hze hza hnv hnl
        have HKB : Hid (∀ w' : World, w'.heap[b8]? = some (.cells #[.int .u8 (kind : Int), .slice ac q cc, .int .u32 (vq : Int), .int .i64 kk, .int .i64 dd] 29 (0, 0)) → w'.heap[b9]? = some (.cells #[.int .u8 (kind : Int), .slice ao q co, .int .u32 (vq : Int), .int .i64 kk, .int .i64 dd] 29 (0, 0)) → (fun w' => w'.cell? ⟨b8, 0, none⟩ = some (.int .u8 (kind : Int)) ∧ w'.cell? ⟨b8, 1, none⟩ = some (.slice ac q cc) ∧ w'.cell? ⟨b8, 2, none⟩ = some (.int .u32 (vq : Int)) ∧ w'.cell? ⟨b8, 3, none⟩ = some (.int .i64 kk) ∧ w'.cell? ⟨b8, 4, none⟩ = some (.int .i64 dd) ∧ w'.cell? ⟨b9, 0, none⟩ = some (.int .u8 (kind : Int)) ∧ w'.cell? ⟨b9, 1, none⟩ = some (.slice ao q co) ∧ w'.cell? ⟨b9, 2, none⟩ = some (.int .u32 (vq : Int)) ∧ w'.cell? ⟨b9, 3, none⟩ = some (.int .i64 kk) ∧ w'.cell? ⟨b9, 4, none⟩ = some (.int .i64 dd)) w') := Lib.hid (fun w' h8 h9 => ⟨cell_of_row h8 0, cell_of_row h8 1, cell_of_row h8 2, cell_of_row h8 3, cell_of_row h8 4, cell_of_row h9 0, cell_of_row h9 1, cell_of_row h9 2, cell_of_row h9 3, cell_of_row h9 4⟩)
        have HGRLT : Hid (w2.heap.size < W0.heap.size) := Lib.hid (by obtain ⟨gv, l, h1, -⟩ := HPY0.out.rf; exact lt_of_block h1.box)
        have HZ0 : Hid (b8 < W0.heap.size ∧ b9 < W0.heap.size) := Lib.hid ⟨lt_of_block HB80.out, lt_of_block HB90.out⟩
        clear hW0 hm0 hb90 hb80 hb9e t0 t1 t2 t3 t4 z8 HTW HM5 HO5 HM8 HB8
        obtain ⟨c0, c1, c2, c3, c4, d0, d1, d2, d3, d4⟩ := HKB.out W0.drew HB80.out HB90.out
        have HGRNE : Hid (w2.heap.size ≠ b8 ∧ w2.heap.size ≠ b9) := Lib.hid (by
          obtain ⟨gv, l, h1, -⟩ := HPY0.out.rf
          refine ⟨fun e => ?_, fun e => ?_⟩
          · have h := h1.box; rw [e, HB80.out] at h; injection h with h; injection h with _ h _; exact absurd h (by decide)
          · have h := h1.box; rw [e, HB90.out] at h; injection h with h; injection h with _ h _; exact absurd h (by decide))
        go_cut [10, 11] (fun p p' wx => ∃ b10 b11 av cv al cl av' cv' al' cl', p = .pointer (some ⟨b10, 0, none⟩) ∧ p' = .pointer (some ⟨b11, 0, none⟩) ∧ Pz w (w1.heap.size + 1) w1.heap.size w2.heap.size L ⟨kind, ops.take q, vq, kk, dd⟩ W0 b8 b9 #[.int .u8 (kind : Int), .slice ac q cc, .int .u32 (vq : Int), .int .i64 kk, .int .i64 dd] #[.int .u8 (kind : Int), .slice ao q co, .int .u32 (vq : Int), .int .i64 kk, .int .i64 dd] b10 b11 (.slice av nv cv) (.slice al nl cl) (.slice av' nv cv') (.slice al' nl cl') wx)
        case first =>
          go_wp2_with fail
          go_region_held3 (fun w' => w'.cell? ⟨b8, 0, none⟩ = some (.int .u8 (kind : Int)) ∧ w'.cell? ⟨b8, 1, none⟩ = some (.slice ac q cc) ∧ w'.cell? ⟨b8, 2, none⟩ = some (.int .u32 (vq : Int)) ∧ w'.cell? ⟨b8, 3, none⟩ = some (.int .i64 kk) ∧ w'.cell? ⟨b8, 4, none⟩ = some (.int .i64 dd) ∧ w'.cell? ⟨b9, 0, none⟩ = some (.int .u8 (kind : Int)) ∧ w'.cell? ⟨b9, 1, none⟩ = some (.slice ao q co) ∧ w'.cell? ⟨b9, 2, none⟩ = some (.int .u32 (vq : Int)) ∧ w'.cell? ⟨b9, 3, none⟩ = some (.int .i64 kk) ∧ w'.cell? ⟨b9, 4, none⟩ = some (.int .i64 dd))
            (first
              | (refine HKB.out _ ?_ ?_ <;> (repeat (first | (with_reducible (first | exact HB84.out | exact HB94.out | exact HB83.out | exact HB93.out | exact HB80.out | exact HB90.out | refine hp_alloc ?_)) | (with_reducible refine hp_set ?_ ?hne; case hne => first | exact Nat.ne_of_lt (Nat.lt_of_lt_of_le HZ0.out.1 (by (first | exact Nat.le_refl _ | exact Nat.le_succ _ | exact HZ3.out | exact Nat.le_succ_of_le HZ3.out | exact HZ04.out | exact Nat.le_succ_of_le HZ04.out))) | exact Nat.ne_of_lt (Nat.lt_of_lt_of_le HZ0.out.2 (by (first | exact Nat.le_refl _ | exact Nat.le_succ _ | exact HZ3.out | exact Nat.le_succ_of_le HZ3.out | exact HZ04.out | exact Nat.le_succ_of_le HZ04.out)))) | refine hp_drew ?_)))
              | go_keep)
            ((first
              | (have hq := HSD.out; go_at_call 17; go_loud (refine (HDR.out _ (rf_kept HPY0.out.rf (HK3.out.then (by repeat (first | exact Mod.refl _ _ | apply Mod.drew | apply Mod.alloc)))) ((HK3.out.then (by repeat (first | exact Mod.refl _ _ | apply Mod.drew | apply Mod.alloc))).ord HO8.out)).mono ?_; (rintro e w4 ⟨av4, cv4, al4, cl4, rfl, hr4⟩); have HRD := Lib.hid hr4; have hz4 := hr4.mod.size; (try simp only [World.size_alloc, World.size_drew] at hz4); have HZ34 : Hid (w3.heap.size ≤ w4.heap.size) := Lib.hid (by omega); have HZ04 : Hid (W0.heap.size ≤ w4.heap.size) := Lib.hid (by have := HZ3.out; omega); clear hz4; have HB84 := Lib.hid (hr4.mod.heap (by (repeat (first | (with_reducible (first | exact HB84.out | exact HB94.out | exact HB83.out | exact HB93.out | exact HB80.out | exact HB90.out | refine hp_alloc ?_)) | (with_reducible refine hp_set ?_ ?hne; case hne => first | exact Nat.ne_of_lt (Nat.lt_of_lt_of_le HZ0.out.1 (by (first | exact Nat.le_refl _ | exact Nat.le_succ _ | exact HZ3.out | exact Nat.le_succ_of_le HZ3.out | exact HZ04.out | exact Nat.le_succ_of_le HZ04.out))) | exact Nat.ne_of_lt (Nat.lt_of_lt_of_le HZ0.out.2 (by (first | exact Nat.le_refl _ | exact Nat.le_succ _ | exact HZ3.out | exact Nat.le_succ_of_le HZ3.out | exact HZ04.out | exact Nat.le_succ_of_le HZ04.out)))) | refine hp_drew ?_)) : _ = some (Obj.cells #[.int .u8 (kind : Int), .slice ac q cc, .int .u32 (vq : Int), .int .i64 kk, .int .i64 dd] 29 (0, 0))) (fun e => HGRNE.out.1 e.symm)); have HB94 := Lib.hid (hr4.mod.heap (by (repeat (first | (with_reducible (first | exact HB84.out | exact HB94.out | exact HB83.out | exact HB93.out | exact HB80.out | exact HB90.out | refine hp_alloc ?_)) | (with_reducible refine hp_set ?_ ?hne; case hne => first | exact Nat.ne_of_lt (Nat.lt_of_lt_of_le HZ0.out.1 (by (first | exact Nat.le_refl _ | exact Nat.le_succ _ | exact HZ3.out | exact Nat.le_succ_of_le HZ3.out | exact HZ04.out | exact Nat.le_succ_of_le HZ04.out))) | exact Nat.ne_of_lt (Nat.lt_of_lt_of_le HZ0.out.2 (by (first | exact Nat.le_refl _ | exact Nat.le_succ _ | exact HZ3.out | exact Nat.le_succ_of_le HZ3.out | exact HZ04.out | exact Nat.le_succ_of_le HZ04.out)))) | refine hp_drew ?_)) : _ = some (Obj.cells #[.int .u8 (kind : Int), .slice ao q co, .int .u32 (vq : Int), .int .i64 kk, .int .i64 dd] 29 (0, 0))) (fun e => HGRNE.out.2 e.symm)); (try (have hx : w4.heap[w3.heap.size]? = some (.cells #[.int .i64 0, .int .i64 0, .slice none 0 0, .slice none 0 0] 34 (0, 0)) := hr4.mod.heap (by first | exact heap_alloc_new' w3 (.cells #[.int .i64 0, .int .i64 0, .slice none 0 0, .slice none 0 0] 34) | exact heap_alloc_old (heap_alloc_new' w3 (.cells #[.int .i64 0, .int .i64 0, .slice none 0 0, .slice none 0 0] 34))) (fun e => by have := HGRLT.out; have := HZ3.out; omega); have ua0 := cell_of_row hx 0; have ua1 := cell_of_row hx 1; have ua2 := cell_of_row hx 2; have ua3 := cell_of_row hx 3; have uaf0 := free_of_row hx 0; have uaf1 := free_of_row hx 1; have uaf2 := free_of_row hx 2; have uaf3 := free_of_row hx 3; have uaz := lt_of_block hx; simp at ua0 ua1 ua2 ua3 uaf0 uaf1 uaf2 uaf3 uaz; have Hua := Lib.hid hx; clear hx)); (try (have hx : w4.heap[w3.heap.size + 1]? = some (.cells #[.int .i64 0, .int .i64 0, .slice none 0 0, .slice none 0 0] 34 (0, 0)) := hr4.mod.heap (by have h := heap_alloc_new' (w3.alloc (.cells #[.int .i64 0, .int .i64 0, .slice none 0 0, .slice none 0 0] 34)) (.cells #[.int .i64 0, .int .i64 0, .slice none 0 0, .slice none 0 0] 34); rw [World.size_alloc] at h; exact h) (fun e => by have := HGRLT.out; have := HZ3.out; omega); have ub0 := cell_of_row hx 0; have ub1 := cell_of_row hx 1; have ub2 := cell_of_row hx 2; have ub3 := cell_of_row hx 3; have ubf0 := free_of_row hx 0; have ubf1 := free_of_row hx 1; have ubf2 := free_of_row hx 2; have ubf3 := free_of_row hx 3; have ubz := lt_of_block hx; simp at ub0 ub1 ub2 ub3 ubf0 ubf1 ubf2 ubf3 ubz; have Hub := Lib.hid hx; clear hx)); (try (have hx : w4.heap[W0.heap.size]? = some (.cells #[.int .i64 0, .int .i64 0, .slice none 0 0, .slice none 0 0] 34 (0, 0)) := hr4.mod.heap (by first | exact Hxa.out | exact heap_alloc_old Hxa.out | exact heap_alloc_old (heap_alloc_old Hxa.out)) (fun e => by have := HGRLT.out; have := HZ3.out; omega); have va0 := cell_of_row hx 0; have va1 := cell_of_row hx 1; have va2 := cell_of_row hx 2; have va3 := cell_of_row hx 3; have vaf0 := free_of_row hx 0; have vaf1 := free_of_row hx 1; have vaf2 := free_of_row hx 2; have vaf3 := free_of_row hx 3; have vaz := lt_of_block hx; simp at va0 va1 va2 va3 vaf0 vaf1 vaf2 vaf3 vaz; have Hva := Lib.hid hx; clear hx)); (try (have hx : w4.heap[W0.heap.size + 1]? = some (.cells #[.int .i64 0, .int .i64 0, .slice none 0 0, .slice none 0 0] 34 (0, 0)) := hr4.mod.heap (by first | exact Hxb.out | exact heap_alloc_old Hxb.out | exact heap_alloc_old (heap_alloc_old Hxb.out)) (fun e => by have := HGRLT.out; have := HZ3.out; omega); have vb0 := cell_of_row hx 0; have vb1 := cell_of_row hx 1; have vb2 := cell_of_row hx 2; have vb3 := cell_of_row hx 3; have vbf0 := free_of_row hx 0; have vbf1 := free_of_row hx 1; have vbf2 := free_of_row hx 2; have vbf3 := free_of_row hx 3; have vbz := lt_of_block hx; simp at vb0 vb1 vb2 vb3 vbf0 vbf1 vbf2 vbf3 vbz; have Hvb := Lib.hid hx; clear hx)); clear hr4 hq))
              | (go_at_call 13; go_loud (refine (HDO.out _ (by repeat (first | exact Mod.refl _ _ | apply Mod.drew | apply Mod.alloc))).mono ?_; (rintro e w3 ⟨av3, cv3, al3, cl3, rfl, hs3⟩); have HSD := Lib.hid hs3; have HK3 : Hid (Kept W0 w3) := Lib.hid ((Kept.mod (by repeat (first | exact Mod.refl _ _ | apply Mod.drew | apply Mod.alloc))).trans hs3.kept); have HB83 := Lib.hid (HK3.out.box HB80.out); have HB93 := Lib.hid (HK3.out.box HB90.out); have HZ3 := Lib.hid HK3.out.size; (try (have Hxa : Hid (w3.heap[W0.heap.size]? = some (.cells #[.int .i64 0, .int .i64 0, .slice none 0 0, .slice none 0 0] 34 (0, 0))) := Lib.hid (hs3.kept.box (by first | exact heap_alloc_new' W0 (.cells #[.int .i64 0, .int .i64 0, .slice none 0 0, .slice none 0 0] 34) | exact heap_alloc_old (heap_alloc_new' W0 (.cells #[.int .i64 0, .int .i64 0, .slice none 0 0, .slice none 0 0] 34)))); have xaz : W0.heap.size < w3.heap.size := lt_of_block Hxa.out; have xazn : w3.heap.size ≠ W0.heap.size := Nat.ne_of_gt xaz)); (try (have Hxb : Hid (w3.heap[W0.heap.size + 1]? = some (.cells #[.int .i64 0, .int .i64 0, .slice none 0 0, .slice none 0 0] 34 (0, 0))) := Lib.hid (hs3.kept.box (by have h := heap_alloc_new' (W0.alloc (.cells #[.int .i64 0, .int .i64 0, .slice none 0 0, .slice none 0 0] 34)) (.cells #[.int .i64 0, .int .i64 0, .slice none 0 0, .slice none 0 0] 34); rw [World.size_alloc] at h; exact h)); have xbz : W0.heap.size + 1 < w3.heap.size := lt_of_block Hxb.out; have xbzn : w3.heap.size ≠ W0.heap.size + 1 := Nat.ne_of_gt xbz)); clear hs3))))
          all_goals
            go_step
            go_step
            go_meet
            refine ⟨_, _, av3, cv3, al3, cl3, av4, cv4, al4, cl4, rfl, rfl, ?_⟩
            refine Pz.make HPY0.out HB80.out HB90.out ?_ HK3.out HSD.out ?_ HRD.out ?_ ?_ ?_ ?_ ?_ ?_ ?_ ?_ ?_
            · (try simp only [World.size_alloc, World.size_drew]); omega
            · repeat (with_reducible (first | exact Mod.refl _ _ | refine Mod.drew ?_ | refine Mod.alloc ?_ _))
            · repeat (with_reducible (first | exact Mod.refl _ _ | refine Mod.drew ?_ | refine Mod.alloc ?_ _ | refine Mod.setCell ?_ (fun _ => .inl rfl) _ | refine Mod.setCell ?_ (fun _ => .inr rfl) _))
            · have := HZ3.out; have := HZ34.out; omega
            · have := HZ3.out; have := HZ34.out; omega
            · first | (with_reducible exact fun _ => Hxa.out) | (with_reducible exact fun _ => Hxb.out) | exact fun h => absurd h (by have := HZ34.out; omega)
            · first | (with_reducible exact fun _ => Hxa.out) | (with_reducible exact fun _ => Hxb.out) | exact fun h => absurd h (by have := HZ34.out; omega)
            · first | (with_reducible exact fun _ => Hua.out) | (with_reducible exact fun _ => Hub.out) | (with_reducible exact fun _ => Hva.out) | (with_reducible exact fun _ => Hvb.out) | exact fun h => absurd h (by omega)
            · first | (with_reducible exact fun _ => Hua.out) | (with_reducible exact fun _ => Hub.out) | (with_reducible exact fun _ => Hva.out) | (with_reducible exact fun _ => Hvb.out) | exact fun h => absurd h (by omega)
            all_goals
              rw [← HZE.out, ← HZA.out]
              repeat (with_reducible (first | exact x_set4 _ _ _ _ Hua.out | exact x_set4 _ _ _ _ Hub.out | exact x_set4 _ _ _ _ Hva.out | exact x_set4 _ _ _ _ Hvb.out | refine x_set4 _ _ _ _ ?_ | exact Hua.out | exact Hub.out | exact Hva.out | exact Hvb.out | refine hp_new ?_ | refine hp_alloc ?_ | refine hp_set ?_ ?_))
              all_goals first | (simp only [World.size_alloc, World.size_drew, World.size_setCell]; done) | (have := HZ3.out; have := HZ34.out; (try simp only [World.size_alloc, World.size_drew, World.size_setCell]); omega)
        case rest =>
          obtain ⟨b10, b11, av, cv, al, cl, av', cv', al', cl', rfl, rfl, hpz⟩ := hcut
          have HPZ := Lib.hid hpz
          have h10 := hpz.b10
          have h11 := hpz.b11
          have h8 := hpz.b8
          have h9 := hpz.b9
          clear hpz c0 c1 c2 c3 c4 d0 d1 d2 d3 d4 HDO HDR HKB
          simp only [ansC] at h10 h11
          rw [← HZE.out, ← HZA.out] at h10 h11
          have HWW : Hid (w.heap.size ≤ W0.heap.size) := Lib.hid HPY0.out.st.mod.size
          have HSA : Hid (∀ x : MW wc, Calls Tryz.prog 18 #[.agg #[.int .i64 (ze : Int), .int .i64 (za : Int), .slice av nv cv, .slice al nl cl], .agg #[.int .i64 (ze : Int), .int .i64 (za : Int), .slice av' nv cv', .slice al' nl cl']] x.w fun e w'' => e = .returned (.bool true) ∧ ∃ x' : MW wc, w'' = x'.w) := Lib.hid (fun x => Calls.quietM ((anssame_any _ _ _ _ _ _ _ _ _ _ _ _ x.w (HPZ.out.vals.rdS.keep x.mod) (HPZ.out.vals2.keep x.mod) (HPZ.out.list.rdS.keep x.mod) (HPZ.out.list2.keep x.mod)).mono (by rintro e w'' ⟨rfl, mm⟩; exact ⟨by simp, mm⟩)))
          obtain ⟨zc, hzc⟩ : ∃ z, z = checkR ⟨kind, ops.take q, vq, kk, dd⟩ := ⟨_, rfl⟩
          have HGC : Hid (∀ x : MW wc, Calls Tryz.prog 19 #[.agg #[.int .u8 (kind : Int), .slice ao q co, .int .u32 (vq : Int), .int .i64 kk, .int .i64 dd]] x.w fun e w'' => e = .returned (.int .i64 (zc : Int)) ∧ ∃ x' : MW wc, w'' = x'.w) := Lib.hid (fun x => Calls.quietM (by rw [hzc]; exact gcheck_any ⟨kind, ops.take q, vq, kk, dd⟩ (.slice ao q co) x.w ((HPZ.out.ord _ _ HO9.out).keep x.mod)))
          have HDC : Hid (∀ x : MW wc, Calls Tryz.prog 20 #[.agg #[.int .u8 (kind : Int), .slice ac q cc, .int .u32 (vq : Int), .int .i64 kk, .int .i64 dd]] x.w fun e w'' => e = .returned (.int .i64 (zc : Int)) ∧ ∃ x' : MW wc, w'' = x'.w) := Lib.hid (fun x => Calls.quietM (by rw [hzc]; exact dcheck_any ⟨kind, ops.take q, vq, kk, dd⟩ (.slice ac q cc) x.w ((HPZ.out.ord _ _ HO8.out).keep x.mod)))
          have HSR : Hid (∀ x : MW wc, Calls Tryz.prog 21 #[.agg #[.int .u8 (kind : Int), .slice ao q co, .int .u32 (vq : Int), .int .i64 kk, .int .i64 dd], .agg #[.int .u8 (kind : Int), .slice ac q cc, .int .u32 (vq : Int), .int .i64 kk, .int .i64 dd]] x.w fun e w'' => e = .returned (.bool true) ∧ ∃ x' : MW wc, w'' = x'.w) := Lib.hid (fun x => Calls.quietM (reqsame_yes ⟨kind, ops.take q, vq, kk, dd⟩ (.slice ao q co) (.slice ac q cc) x.w ((HPZ.out.ord _ _ HO9.out).keep x.mod) ((HPZ.out.ord _ _ HO8.out).keep x.mod)))
          clear hzc
          have a10a : ∀ x : MW wc, x.w.cell? ⟨b10, 0, none⟩ = some (.int .i64 (ze : Int)) := fun x => x.cell (cell_of_row h10 0)
          have a10b : ∀ x : MW wc, x.w.cell? ⟨b10, 1, none⟩ = some (.int .i64 (za : Int)) := fun x => x.cell (cell_of_row h10 1)
          have a10c : ∀ x : MW wc, x.w.cell? ⟨b10, 2, none⟩ = some (.slice av nv cv) := fun x => x.cell (cell_of_row h10 2)
          have a10d : ∀ x : MW wc, x.w.cell? ⟨b10, 3, none⟩ = some (.slice al nl cl) := fun x => x.cell (cell_of_row h10 3)
          have a11a : ∀ x : MW wc, x.w.cell? ⟨b11, 0, none⟩ = some (.int .i64 (ze : Int)) := fun x => x.cell (cell_of_row h11 0)
          have a11b : ∀ x : MW wc, x.w.cell? ⟨b11, 1, none⟩ = some (.int .i64 (za : Int)) := fun x => x.cell (cell_of_row h11 1)
          have a11c : ∀ x : MW wc, x.w.cell? ⟨b11, 2, none⟩ = some (.slice av' nv cv') := fun x => x.cell (cell_of_row h11 2)
          have a11d : ∀ x : MW wc, x.w.cell? ⟨b11, 3, none⟩ = some (.slice al' nl cl') := fun x => x.cell (cell_of_row h11 3)
          have a8a : ∀ x : MW wc, x.w.cell? ⟨b8, 0, none⟩ = some (.int .u8 (kind : Int)) := fun x => x.cell (cell_of_row h8 0)
          have a8b : ∀ x : MW wc, x.w.cell? ⟨b8, 1, none⟩ = some (.slice ac q cc) := fun x => x.cell (cell_of_row h8 1)
          have a8c : ∀ x : MW wc, x.w.cell? ⟨b8, 2, none⟩ = some (.int .u32 (vq : Int)) := fun x => x.cell (cell_of_row h8 2)
          have a8d : ∀ x : MW wc, x.w.cell? ⟨b8, 3, none⟩ = some (.int .i64 kk) := fun x => x.cell (cell_of_row h8 3)
          have a8e : ∀ x : MW wc, x.w.cell? ⟨b8, 4, none⟩ = some (.int .i64 dd) := fun x => x.cell (cell_of_row h8 4)
          have a9a : ∀ x : MW wc, x.w.cell? ⟨b9, 0, none⟩ = some (.int .u8 (kind : Int)) := fun x => x.cell (cell_of_row h9 0)
          have a9b : ∀ x : MW wc, x.w.cell? ⟨b9, 1, none⟩ = some (.slice ao q co) := fun x => x.cell (cell_of_row h9 1)
          have a9c : ∀ x : MW wc, x.w.cell? ⟨b9, 2, none⟩ = some (.int .u32 (vq : Int)) := fun x => x.cell (cell_of_row h9 2)
          have a9d : ∀ x : MW wc, x.w.cell? ⟨b9, 3, none⟩ = some (.int .i64 kk) := fun x => x.cell (cell_of_row h9 3)
          have a9e : ∀ x : MW wc, x.w.cell? ⟨b9, 4, none⟩ = some (.int .i64 dd) := fun x => x.cell (cell_of_row h9 4)
          clear h8 h9 h10 h11
          go_wp2_with fail
          refine wp_region_quietM (by kernel_rfl) (by kernel_rfl) ?_
          repeat (go_big_quiet_step (first | (go_at_call 18; exact HSA.out _) | (go_at_call 19; exact HGC.out _) | (go_at_call 20; exact HDC.out _) | (go_at_call 21; exact HSR.out _)))
          refine wpQuiet_nil ?_
          intro wA hmA
          have HPA := Lib.hid (HPZ.out.keep (MW.mod_of hmA))
          clear hmA HSA HGC HDC HSR HPZ a10a a10b a10c a10d a11a a11b a11c a11d a8a a8b a8c a8d a8e a9a a9b a9c a9d a9e
          -- the values' turning
          have HTA : Hid (TL wA 44 3 nv 1 (okI .i64) (.slice av nv cv) wA) := Lib.hid (by
            have h := HPA.out.vals
            rw [← HNV.out] at h
            exact TL.start h (fun j hj => vvcells_at _ j (by rw [← HNV.out]; exact hj)))
          have HAB : Hid (¬ (Value.slice av nv cv).ownBlock = some b10) := Lib.hid (own_offT HPA.out.vals HPA.out.b10 (by decide))
          have H10 : Hid (wA.heap[b10]? = some (.cells #[.int .i64 (ze : Int), .int .i64 (za : Int), .slice av nv cv, .slice al nl cl] 34 (0, 0))) := Lib.hid (by have h := HPA.out.b10; simp only [ansC] at h; rw [← HZE.out, ← HZA.out] at h; exact h)
          obtain ⟨wo, hwo⟩ : ∃ wo : World, wo = wr := ⟨_, rfl⟩
          subst hwo
          have y2 := cell_of_row H10.out 2
          have z10 := lt_of_block H10.out
          simp at y2
          go_wp2
          clear y2 z10
          go_loopw [69] (fun i wx => ∃ j : Nat, i = .int .i64 (j : Int) ∧ j ≤ nv ∧ TL wA 44 3 nv 1 (okI .i64) (.slice av nv cv) wx) (fun i _ => nv - (intOf i).toNat)
          case atStart => exact ⟨0, rfl, Nat.zero_le _, HTA.out⟩
          case round =>
            obtain ⟨j, rfl, hj, htl⟩ := hrel
            have HTL := Lib.hid htl
            clear htl
            have hb10 := HTL.out.mod.heap H10.out HAB.out
            have y2 := cell_of_row hb10 2
            have y3 := cell_of_row hb10 3
            have z10 := lt_of_block hb10
            simp at y2 y3
            clear hb10
            by_cases hjn : j < nv
            · obtain ⟨bv, ov, cap, u, e0, hc1, hc2, hu, ⟨iu, rfl⟩, hfz, hbz, hbx, hst⟩ := HTL.out.at hjn (by decide)
              injection e0 with e1 e2 e3
              subst e1 e3
              have HST := Lib.hid hst
              replace hu : wr.cell? ⟨bv, ov + j * 3 + 1, none⟩ = some (.int .i64 iu) := hu
              replace hfz : wr.frozen? ⟨bv, ov + j * 3 + 1, none⟩ = false := hfz
              have hcl : nv ≤ 9223372036854775807 := by unfold maxLen at hc2; omega
              clear hst hbx e2 y3 hc1 hc2
              go_wp2
              go_roundw
              case rel => exact ⟨j + 1, by go_num, by omega, HST.out _ ⟨_, rfl⟩ rfl⟩
              case measure => simp [intOf]; omega
            · have HPB : Hid (Pa w (w1.heap.size + 1) w1.heap.size w2.heap.size L ⟨kind, ops.take q, vq, kk, dd⟩ W0 b8 #[.int .u8 (kind : Int), .slice ac q cc, .int .u32 (vq : Int), .int .i64 kk, .int .i64 dd] b10 (.slice av nv cv) (.slice al nl cl) wr) := Lib.hid (HPA.out.pa HWW.out HTL.out.mod)
              clear HTL HTA HPA
              obtain ⟨wB, hwB⟩ : ∃ wB : World, wB = wr := ⟨_, rfl⟩
              subst hwB
              have H10B : Hid (wB.heap[b10]? = some (.cells #[.int .i64 (ze : Int), .int .i64 (za : Int), .slice av nv cv, .slice al nl cl] 34 (0, 0))) := Lib.hid (by have h := HPB.out.b10; simp only [ansC] at h; rw [← HZE.out, ← HZA.out] at h; exact h)
              have HTB : Hid (TL wB 23 1 nl 0 (okI .u32) (.slice al nl cl) wB) := Lib.hid (by
                have h := HPB.out.list
                rw [← HNL.out] at h
                exact TL.start h (fun j hj => numcells_at _ _ j (by rw [← HNL.out]; exact hj)))
              have HLB : Hid (¬ (Value.slice al nl cl).ownBlock = some b10) := Lib.hid (own_offT HPB.out.list HPB.out.b10 (by decide))
              go_wp2
              clear y2 y3 z10
              go_loopw [85] (fun i wx => ∃ j : Nat, i = .int .i64 (j : Int) ∧ j ≤ nl ∧ TL wB 23 1 nl 0 (okI .u32) (.slice al nl cl) wx ∧ (nl = 0 → wx = wB)) (fun i _ => nl - (intOf i).toNat)
              case atStart => exact ⟨0, rfl, Nat.zero_le _, HTB.out, fun _ => rfl⟩
              case round =>
                obtain ⟨j2, rfl, hj2, htl, hnz⟩ := hrel
                have HTL := Lib.hid htl
                have HNZ := Lib.hid hnz
                clear htl hnz
                have hb10 := HTL.out.mod.heap H10B.out HLB.out
                have y3 := cell_of_row hb10 3
                have z10 := lt_of_block hb10
                simp at y3
                clear hb10
                by_cases hjn2 : j2 < nl
                · obtain ⟨bv, ov, cap, u, e0, hc1, hc2, hu, ⟨iu, rfl⟩, hfz, hbz, hbx, hst⟩ := HTL.out.at hjn2 (by decide)
                  injection e0 with e1 e2 e3
                  subst e1 e3
                  simp only [Nat.mul_one, Nat.add_zero] at hu hfz hst
                  have HST := Lib.hid hst
                  have hcl : nl ≤ 9223372036854775807 := by unfold maxLen at hc2; omega
                  clear hst hbx e2 hc1 hc2
                  go_wp2
                  go_roundw
                  case rel => exact ⟨j2 + 1, by go_num, by omega, HST.out _ ⟨_, rfl⟩ rfl, fun e => absurd e (by omega)⟩
                  case measure => simp [intOf]; omega
                · have hdone := HPB.out.done HPY0.out HTL.out.mod (fun e => HNZ.out (HNL.out.trans e))
                  obtain ⟨L', hL'⟩ : ∃ L', L' = (doG L ⟨kind, ops.take q, vq, kk, dd⟩).1 := ⟨_, rfl⟩
                  rw [← hL'] at hdone
                  have HP2 := Lib.hid hdone.1
                  have hb8 := hdone.2
                  have x2 := cell_of_row hb8 2
                  have z8 := lt_of_block hb8
                  simp at x2
                  obtain ⟨wC, hwC⟩ : ∃ wC : World, wC = wr := ⟨_, rfl⟩
                  subst hwC
                  clear hdone hL' hb8 HTL HNZ HPB HTB HLB H10B H10 y3 z10
                  have hk60 : (k : Int) < 4294967296 := by omega
                  have hk32 : (k : Int) % 4294967296 = (k : Int) := by omega
                  go_wp2
                  clear x2 z8
                  go_loopw [103] (fun i wx => ∃ j : Nat, i = .int .i64 (j : Int) ∧ j ≤ 3 ∧ Py w (w1.heap.size + 1) w1.heap.size w2.heap.size L' wx ∧ wx.heap[wC.heap.size]? = some (.cells #[.int .u32 (v : Int), .int .u32 (vq : Int), .int .u32 (k : Int)] 23 (0, 0))) (fun i _ => 3 - (intOf i).toNat)
                  case atStart => exact ⟨0, rfl, Nat.zero_le _, HP2.out.keep ((Mod.refl _ _).alloc _), heap_alloc_new' _ _⟩
                  case round =>
                    obtain ⟨wD, hwD⟩ : ∃ wD : World, wD = wr := ⟨_, rfl⟩
                    subst hwD
                    obtain ⟨j3, rfl, hj3, hpy3, hbx⟩ := hrel
                    have HP3 := Lib.hid hpy3
                    have HBX := Lib.hid hbx
                    clear hpy3 hbx HP2 hk60 hk32
                    by_cases hj33 : j3 < 3
                    · obtain ⟨id, hid, hid32⟩ : ∃ id : Nat, (#[.int .u32 (v : Int), .int .u32 (vq : Int), .int .u32 (k : Int)] : Array Value)[j3]? = some (.int .u32 (id : Int)) ∧ id < 4294967296 := by
                        rcases j3 with _ | _ | _ | j3
                        · exact ⟨v, rfl, HVB.out⟩
                        · exact ⟨vq, rfl, HSM.out.fits.v⟩
                        · exact ⟨k, rfl, by omega⟩
                        · omega
                      have p0 : wD.cell? ⟨wC.heap.size, j3, none⟩ = some (.int .u32 (id : Int)) := (cell_of_row HBX.out j3).trans hid
                      have zp := lt_of_block HBX.out
                      have HIDB := Lib.hid hid32
                      clear hid hid32
                      obtain ⟨x, hx⟩ : ∃ x, x = tellV L' id := ⟨_, rfl⟩
                      have HVX : Hid (∀ w', Mod (fun _ => False) wD w' → Calls Tryz.prog 14 #[.pointer (some ⟨w1.heap.size + 1, 0, none⟩), .int .u32 (id : Int)] w' (Twins w' x)) := Lib.hid (fun w' mm => by rw [hx]; exact svertex_any _ _ L' id w w' (HP3.out.st.keep mm) HIDB.out)
                      have HDX : Hid (∀ w', Mod (fun _ => False) wD w' → Calls Tryz.prog 23 #[.pointer (some ⟨w2.heap.size, 0, none⟩), .int .u32 (id : Int)] w' fun e w'' => ∃ vp vh, e = .returned (vtxV x vp vh) ∧ Mod (fun _ => False) w' w'' ∧ VRd w'' vp vh x) := Lib.hid (fun w' mm => by
                        obtain ⟨gv, l, hg, hl⟩ := HP3.out.rf
                        have h := dvertex_any w2.heap.size gv l id w' (hg.keep mm) HIDB.out
                        rw [hl, ← hx] at h
                        exact h)
                      have HSV : Hid (∀ vp vh vp' vh' w', VRd w' vp vh x → VRd w' vp' vh' x → Calls Tryz.prog 22 #[vtxV x vp vh, vtxV x vp' vh'] w' fun e w'' => e = .returned (.bool true) ∧ Mod (fun _ => False) w' w'') := Lib.hid (fun vp vh vp' vh' w' h1 h2 => vsame_yes x vp vh vp' vh' w' h1 h2)
                      clear hx
                      obtain ⟨xid, there, xs, ys⟩ := x
                      simp only [vtxV] at HVX HDX HSV
                      obtain ⟨np, hnp⟩ : ∃ n, n = xs.length := ⟨_, rfl⟩
                      obtain ⟨nh, hnh⟩ : ∃ n, n = ys.length := ⟨_, rfl⟩
                      have HNP := Lib.hid hnp
                      have HNH := Lib.hid hnh
                      clear hnp hnh
                      go_upto_region 27 with (go_at_call 14; go_loud (refine (HVX.out _ (Mod.refl _ _)).mono ?_; (rintro e w4 ⟨vp4, vh4, rfl, hm4, hn4⟩); (obtain ⟨a5, c5, rfl⟩ : ∃ a c, vp4 = .slice a np c := (by obtain ⟨a, c, e, _⟩ := hn4.props.shape; exact ⟨a, c, by rw [e, HNP.out]⟩)); (obtain ⟨a6, c6, rfl⟩ : ∃ a c, vh4 = .slice a nh c := (by obtain ⟨a, c, e, _⟩ := hn4.halves.shape; exact ⟨a, c, by rw [e, HNH.out]⟩)); have HM4 := Lib.hid hm4; have HN4 := Lib.hid hn4; clear hm4 hn4))
                      obtain ⟨w5, hw5⟩ : ∃ W, W = w4.alloc (.cells #[.int .u32 (xid : Int), .bool there, .slice a5 np c5, .slice a6 nh c6] 40) := ⟨_, rfl⟩
                      obtain ⟨bx, hbx⟩ : ∃ b, b = w4.heap.size := ⟨_, rfl⟩
                      have h45 : Mod (fun _ => False) w4 w5 := by rw [hw5]; exact (Mod.refl _ _).alloc _
                      have hb5 : w5.heap[bx]? = some (.cells #[.int .u32 (xid : Int), .bool there, .slice a5 np c5, .slice a6 nh c6] 40 (0, 0)) := by rw [hw5, hbx]; exact heap_alloc_new' _ _
                      have HB5 := Lib.hid hb5
                      have HM5 := Lib.hid (HM4.out.trans h45)
                      have HN5 := Lib.hid (HN4.out.props.mod h45 (fun _ _ f => f))
                      have HN6 := Lib.hid (HN4.out.halves.mod h45 (fun _ _ f => f))
                      have HNP5 := Lib.hid HN4.out.newp
                      have HNH5 := Lib.hid HN4.out.newh
                      have HV5 := Lib.hid (HN4.out.rd.keep h45)
                      rw [← hw5, ← hbx]
                      clear hw5 hbx h45 hb5 HN4 HM4 p0 zp
                      have HKEEP : Hid (∀ w' : World, Mod (fun _ => False) w5 w' → (fun w' => w'.cell? ⟨bx, 0, none⟩ = some (.int .u32 (xid : Int)) ∧ w'.cell? ⟨bx, 1, none⟩ = some (.bool there) ∧ w'.cell? ⟨bx, 2, none⟩ = some (.slice a5 np c5) ∧ w'.cell? ⟨bx, 3, none⟩ = some (.slice a6 nh c6)) w') := Lib.hid (fun w' m => ⟨cell_of_row (m.heap HB5.out (fun f => f)) 0, cell_of_row (m.heap HB5.out (fun f => f)) 1, cell_of_row (m.heap HB5.out (fun f => f)) 2, cell_of_row (m.heap HB5.out (fun f => f)) 3⟩)
                      obtain ⟨k0, k1, k2, k3⟩ := HKEEP.out _ ((Mod.refl (fun _ => False) w5).drew)
                      have zbx := lt_of_block HB5.out
                      go_region_held3 (fun w' => w'.cell? ⟨bx, 0, none⟩ = some (.int .u32 (xid : Int)) ∧ w'.cell? ⟨bx, 1, none⟩ = some (.bool there) ∧ w'.cell? ⟨bx, 2, none⟩ = some (.slice a5 np c5) ∧ w'.cell? ⟨bx, 3, none⟩ = some (.slice a6 nh c6))
                        (first
                          | go_keep
                          | exact HKEEP.out _ N7.out
                          | exact HKEEP.out _ N6.out)
                        ((first
                          | (go_at_call 22; go_loud (refine (HSV.out _ _ _ _ _ (HV5.out.keep N6.out) HV6.out).mono ?_; (rintro e w7 ⟨rfl, hm7⟩); have N7 : Hid (Mod (fun _ => False) w5 w7) := Lib.hid (N6.out.trans hm7); clear hm7))
                          | (go_at_call 23; go_loud (refine (HDX.out _ (HM5.out.trans ((Mod.refl (fun _ => False) w5).drew))).mono ?_; (rintro e w6 ⟨vp6, vh6, rfl, hm6, hv6⟩); have N6 : Hid (Mod (fun _ => False) w5 w6) := Lib.hid (((Mod.refl (fun _ => False) w5).drew).trans hm6); have HV6 := Lib.hid hv6; clear hm6 hv6))))
                      all_goals
                        have HB7 := Lib.hid (N7.out.heap HB5.out (fun f => f))
                        have y2 := cell_of_row HB7.out 2
                        have zb := lt_of_block HB7.out
                        simp at y2
                        have HT7 : Hid (TL w7 61 4 np 0 (okI .u8) (.slice a5 np c5) w7) := Lib.hid (by
                          have h := HN5.out.mod N7.out (fun _ _ f => f)
                          (try simp only at h)
                          rw [← HNP.out] at h
                          exact TL.start h (fun j hj => entcells_at _ _ j (by rw [← HNP.out]; exact hj)))
                        have HS7 := Lib.hid (HN5.out.mod N7.out (fun _ _ f => f))
                        have HS8 := Lib.hid (HN6.out.mod N7.out (fun _ _ f => f))
                        have HM7 := Lib.hid (HM5.out.trans N7.out)
                        clear N6 HV6 k0 k1 k2 k3 zbx HSV HDX HVX HKEEP
                        go_wp2
                        clear y2 zb
                        go_loopw [119] (fun i wx => ∃ j : Nat, i = .int .i64 (j : Int) ∧ j ≤ np ∧ TL w7 61 4 np 0 (okI .u8) (.slice a5 np c5) wx) (fun i _ => np - (intOf i).toNat)
                        case atStart => exact ⟨0, rfl, Nat.zero_le _, HT7.out⟩
                        case round =>
                          obtain ⟨j4, rfl, hj4, htl⟩ := hrel
                          have HTL := Lib.hid htl
                          clear htl
                          have HB8 := Lib.hid (HTL.out.mod.heap HB7.out (own_offT HS7.out HB7.out (by decide)))
                          have y2 := cell_of_row HB8.out 2
                          have y3 := cell_of_row HB8.out 3
                          have zb := lt_of_block HB8.out
                          simp at y2 y3
                          by_cases hjn4 : j4 < np
                          · obtain ⟨bv, ov, cap, u, e0, hc1, hc2, hu, ⟨iu, rfl⟩, hfz, hbz, hbx, hst⟩ := HTL.out.at hjn4 (by decide)
                            injection e0 with e1 e2 e3
                            subst e1 e3
                            simp only [Nat.add_zero] at hu hfz hst
                            have HST := Lib.hid hst
                            have hcl : np ≤ 9223372036854775807 := by unfold maxLen at hc2; omega
                            clear hst hbx e2 y3 hc1 hc2
                            go_wp2
                            go_roundw
                            case rel => exact ⟨j4 + 1, by go_num, by omega, HST.out _ ⟨_, rfl⟩ rfl⟩
                            case measure => simp [intOf]; omega
                          · obtain ⟨w8, hw8⟩ : ∃ W : World, W = wr := ⟨_, rfl⟩
                            subst hw8
                            have HM8 := Lib.hid (turned_own HM7.out HTL.out.mod HNP5.out)
                            have HS9 := Lib.hid (HS8.out.mod HTL.out.mod (fun b hb s => by
                              obtain ⟨cur, hc⟩ := seg_box HS8.out hb
                              exact own_offT HS7.out hc (by decide) s))
                            have HT8 : Hid (TL w8 46 4 nh 0 (okI .u32) (.slice a6 nh c6) w8) := Lib.hid (by
                              have h := HS9.out
                              (try simp only at h)
                              rw [← HNH.out] at h
                              exact TL.start h (fun j hj => entcells_at _ _ j (by rw [← HNH.out]; exact hj)))
                            go_wp2
                            clear y2 y3 zb
                            go_loopw [135] (fun i wx => ∃ j : Nat, i = .int .i64 (j : Int) ∧ j ≤ nh ∧ TL w8 46 4 nh 0 (okI .u32) (.slice a6 nh c6) wx) (fun i _ => nh - (intOf i).toNat)
                            case atStart => exact ⟨0, rfl, Nat.zero_le _, HT8.out⟩
                            case round =>
                              obtain ⟨j5, rfl, hj5, htl⟩ := hrel
                              have HTM := Lib.hid htl
                              clear htl
                              have hb9 := HTM.out.mod.heap HB8.out (own_offT HS9.out HB8.out (by decide))
                              have y3 := cell_of_row hb9 3
                              have zb := lt_of_block hb9
                              simp at y3
                              clear hb9
                              by_cases hjn5 : j5 < nh
                              · obtain ⟨bv, ov, cap, u, e0, hc1, hc2, hu, ⟨iu, rfl⟩, hfz, hbz, hbx, hst⟩ := HTM.out.at hjn5 (by decide)
                                injection e0 with e1 e2 e3
                                subst e1 e3
                                simp only [Nat.add_zero] at hu hfz hst
                                have HST := Lib.hid hst
                                have hcl : nh ≤ 9223372036854775807 := by unfold maxLen at hc2; omega
                                clear hst hbx e2 hc1 hc2
                                go_wp2
                                go_roundw
                                case rel => exact ⟨j5 + 1, by go_num, by omega, HST.out _ ⟨_, rfl⟩ rfl⟩
                                case measure => simp [intOf]; omega
                              · have HM9 := Lib.hid (turned_own HM8.out HTM.out.mod HNH5.out)
                                have HP4 := Lib.hid (HP3.out.keep HM9.out)
                                have HB9 := Lib.hid (HM9.out.heap HBX.out (fun f => f))
                                go_wp2
                                go_roundw
                                case rel => exact ⟨j3 + 1, by go_num, by omega, HP4.out, HB9.out⟩
                                case measure => simp [intOf]; omega
                    · go_wp2
                      go_roundw
                      case rel => exact ⟨k + 1, by go_num, by omega, L', HP3.out⟩
                      case measure => simp [intOf]; omega
      · have h60' : (60 : Int) ≤ (k : Int) := by omega
        go_wp2_with (first
          | (have hq := N2.out; go_at_call 24; go_loud (refine (nsame_yes _ _ _ _ (HSI.out.seg.mod N23.out (fun _ _ f => f)).rdS HSJ.out.seg.rdS).mono ?_; (rintro e w9 ⟨rfl, hm9⟩); have N9 := Lib.hid (N2.out.trans hm9); clear hm9 hq))
          | (have hq := N1.out; go_at_call 26; go_loud (refine (HDI.out _ N1.out).mono ?_; (rintro e w8 ⟨v8, rfl, hs8⟩); have N23 := Lib.hid hs8.mod; have N2 := Lib.hid (N1.out.trans hs8.mod); have HSJ := Lib.hid hs8; clear hs8 hq))
          | (go_at_call 25; go_loud (refine (HLI.out _ (by repeat (first | exact Mod.refl _ _ | apply Mod.drew | apply Mod.alloc))).mono ?_; (rintro e w7 ⟨v7, rfl, hs7⟩); have N1 : Hid (Mod (fun _ => False) wr w7) := Lib.hid ((show Mod (fun _ => False) wr _ from by repeat (first | exact Mod.refl _ _ | apply Mod.drew | apply Mod.alloc)).trans hs7.mod); have HSI := Lib.hid hs7; clear hs7)))
        go_ret
        exact ⟨rfl, HPY.out.st.mod.trans N9.out⟩
    · clear HRS
      go_wp2_with (first
        | (have hq := N2.out; go_at_call 24; go_loud (refine (nsame_yes _ _ _ _ (HSI.out.seg.mod N23.out (fun _ _ f => f)).rdS HSJ.out.seg.rdS).mono ?_; (rintro e w9 ⟨rfl, hm9⟩); have N9 := Lib.hid (N2.out.trans hm9); clear hm9 hq))
        | (have hq := N1.out; go_at_call 26; go_loud (refine (HDI.out _ N1.out).mono ?_; (rintro e w8 ⟨v8, rfl, hs8⟩); have N23 := Lib.hid hs8.mod; have N2 := Lib.hid (N1.out.trans hs8.mod); have HSJ := Lib.hid hs8; clear hs8 hq))
        | (go_at_call 25; go_loud (refine (HLI.out _ (by repeat (first | exact Mod.refl _ _ | apply Mod.drew | apply Mod.alloc))).mono ?_; (rintro e w7 ⟨v7, rfl, hs7⟩); have N1 : Hid (Mod (fun _ => False) wr w7) := Lib.hid ((show Mod (fun _ => False) wr _ from by repeat (first | exact Mod.refl _ _ | apply Mod.drew | apply Mod.alloc)).trans hs7.mod); have HSI := Lib.hid hs7; clear hs7)))
      go_ret
      exact ⟨rfl, HPY.out.st.mod.trans N9.out⟩
end Go.Proofs.YtbgjbikpenefoaaGreatDoor
