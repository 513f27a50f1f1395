/- The walk of CreditLost. -/
import Derived.Test.YtabhddbfjfomeaaW3
import Derived.Test.YtabhddbfjfomeaaW4
import Derived.Test.YtabhddbfjfomeaaP5
import Derived.Test.YtabhddbfjfomeaaS
import Derived.Deep.DeepCutAuto
import Derived.OpenShut
namespace Go.Proofs.Ytabhddbfjfomeaa
set_option linter.unusedVariables false
open Go.RowKit Go.Maps

theorem info34 : (Try.prog.info? 34).map (fun i => (i.zero, i.size, i.bytes)) = some (some (.agg #[.int .u64 0, .int .u64 0, .int .i64 0]), 3, 24) := by kernel_rfl
theorem msgInfo : (Try.prog.info? 34).map (·.size) = some 3 := by kernel_rfl

structure LostAt (w0 w : World) (pb mb : Nat) (v : Value) (bag : List Msg) (next k : Nat) (gone : Bool) (cnt : Nat) (D : DataW Unit) (L out : Int) : Prop where
  pool : PoolAt w pb mb out cnt D
  seg : Seg w 34 3 v bag.length (flat bag)
  own : ∀ b, v.ownBlock = some b → w0.heap.size ≤ b ∧ b ≠ pb ∧ b ≠ mb
  mod : Mod (fun _ => False) w0 w
  hp : w0.heap.size ≤ pb
  hm : w0.heap.size ≤ mb
  hk : k ≤ 150
  hcnt : cnt ≤ k
  hlen : bag.length ≤ 1 + 4 * k
  hnext : next ≤ 1 + 4 * k
  inv : LInv bag next gone D L out

theorem LostAt.dropped {w0 w : World} {pb mb : Nat} {v v' : Value} {x : Msg} {rest : List Msg} {next k : Nat} {gone : Bool} {cnt : Nat} {D : DataW Unit} {L out : Int} (h : LostAt w0 w pb mb v (x :: rest) next k gone cnt D L out) (o : Obj)
    (hs : Seg (w.alloc o) 34 3 v' ((x :: rest).length - 1) ((flat (x :: rest)).drop (1 * 3))) (ho : v'.ownBlock = v.ownBlock) (hk : k < 150) : LostAt w0 (w.alloc o) pb mb v' rest next (k + 1) true cnt D (L + x.credit) out := by
  have e : (flat (x :: rest)).drop (1 * 3) = flat rest := rfl
  rw [e] at hs
  have h1 := h.hcnt
  have h2 := h.hlen
  have h3 := h.hnext
  simp at h2
  exact ⟨h.pool.alloc o, by simpa using hs, fun b hb => h.own b (ho ▸ hb), h.mod.alloc o, h.hp, h.hm, by omega, by omega, by omega, by omega, h.inv.drop⟩

/-- In the midst of a message: q of those that it causes are in the bag. -/
structure KidAt (w0 w : World) (pb mb xb : Nat) (x : Msg) (v : Value) (rest : List Msg) (next q : Nat) (S : Int) (cnt : Nat) (D : DataW Unit) (out : Int) : Prop where
  pool : PoolAt w pb mb out cnt D
  seg : Seg w 34 3 v (rest.length + q) (flat (rest ++ kids next q S (x.depth + 1)))
  own : ∀ b, v.ownBlock = some b → w0.heap.size ≤ b ∧ b ≠ pb ∧ b ≠ mb ∧ b ≠ xb
  mod : Mod (fun _ => False) w0 w
  row : w.heap[xb]? = some (.cells #[.int .u64 x.num, .int .u64 x.credit, .int .i64 x.depth] 34 (0, 0))
  hx : w0.heap.size ≤ xb ∧ xb ≠ pb ∧ xb ≠ mb
theorem LostAt.kid {w0 w : World} {pb mb : Nat} {v v' : Value} {x : Msg} {rest : List Msg} {next k : Nat} {gone : Bool} {cnt : Nat} {D : DataW Unit} {L out S : Int} (h : LostAt w0 w pb mb v (x :: rest) next k gone cnt D L out)
    (hs : Seg (w.alloc (.cells #[.int .u64 x.num, .int .u64 x.credit, .int .i64 x.depth] 34)) 34 3 v' ((x :: rest).length - 1) ((flat (x :: rest)).drop (1 * 3))) (ho : v'.ownBlock = v.ownBlock) :
    KidAt w0 (w.alloc (.cells #[.int .u64 x.num, .int .u64 x.credit, .int .i64 x.depth] 34)) pb mb w.heap.size x v' rest next 0 S cnt D out := by
  have e : (flat (x :: rest)).drop (1 * 3) = flat rest := rfl
  rw [e] at hs
  have hlt := h.seg.lt
  have hpb := lt_of_block h.pool.row
  have hmb := h.pool.map.lt
  exact ⟨h.pool.alloc _, by simpa [kids] using hs, fun b hb => by have := h.own b (ho ▸ hb); have := hlt b (ho ▸ hb); omega, h.mod.alloc _, heap_alloc_new' _ _, h.mod.size, by omega, by omega⟩

theorem KidAt.next {w0 w w' : World} {pb mb xb : Nat} {x : Msg} {v v' : Value} {rest : List Msg} {next q : Nat} {S : Int} {cnt : Nat} {D : DataW Unit} {out : Int} (h : KidAt w0 w pb mb xb x v rest next q S cnt D out)
    (hs : Seg w' 34 3 v' (rest.length + q + 1) (flat (rest ++ kids next q S (x.depth + 1)) ++ (#[.int .u64 ((next + q : Nat) : Int), .int .u64 S, .int .i64 ((x.depth : Int) + 1)] : Array Value).toList))
    (hg : (w.alloc (.cells #[.int .u64 ((next + q : Nat) : Int), .int .u64 S, .int .i64 ((x.depth : Int) + 1)] 34)).grownBy w' v.ownBlock)
    (ho : v'.ownBlock = v.ownBlock ∨ v'.ownBlock = some (w.alloc (.cells #[.int .u64 ((next + q : Nat) : Int), .int .u64 S, .int .i64 ((x.depth : Int) + 1)] 34)).heap.size) :
    KidAt w0 w' pb mb xb x v' rest next (q + 1) S cnt D out := by
  have hm : Mod (fun b => some b = v.ownBlock) w w' := ((Mod.refl _ w).alloc _).grown hg (fun b hb _ => hb.symm)
  have hpb := lt_of_block h.pool.row
  have hmb := h.pool.map.lt
  have hxb := lt_of_block h.row
  refine ⟨h.pool.mod hm (fun e => (h.own pb e.symm).2.1 rfl) (fun e => (h.own mb e.symm).2.2.1 rfl), ?_, ?_, h.mod.trans' hm (fun i hi e => by have := (h.own i e.symm).1; omega), hm.heap h.row (fun e => (h.own xb e.symm).2.2.2 rfl), h.hx⟩
  · rw [kids_succ, ← List.append_assoc, flat_append]
    exact hs
  · intro b hb
    rcases ho with ho | ho
    · exact h.own b (ho ▸ hb)
    · rw [ho] at hb
      simp at hb
      have := h.mod.size
      omega

theorem KidAt.finish {w0 wo w w' : World} {pb mb xb : Nat} {x : Msg} {v v0 : Value} {rest : List Msg} {next k m : Nat} {gone : Bool} {S R : Int} {cnt : Nat} {D : DataW Unit} {L out : Int} (h : KidAt w0 w pb mb xb x v rest next m S cnt D out)
    (hA : LostAt w0 wo pb mb v0 (x :: rest) next k gone cnt D L out) (hk : k < 150) (hm4 : m ≤ 4) (hI : LInv (rest ++ kids next m S (x.depth + 1)) (next + m) gone (D.put (noteKey 0 x.num) (.agg [])) L (out - R))
    (hP : PoolAt w' pb mb (out - R) (cnt + 1) (D.put (noteKey 0 x.num) (.agg []))) (hM : Mod (fun b => b = pb ∨ b = mb) w w') :
    LostAt w0 w' pb mb v (rest ++ kids next m S (x.depth + 1)) (next + m) (k + 1) gone (cnt + 1) (D.put (noteKey 0 x.num) (.agg [])) L (out - R) := by
  have h1 := hA.hcnt
  have h2 := hA.hlen
  have h3 := hA.hnext
  simp at h2
  refine ⟨hP, ?_, fun b hb => by have := h.own b hb; omega, h.mod.trans' hM (fun i hi e => by have := hA.hp; have := hA.hm; omega), hA.hp, hA.hm, by omega, by omega, ?_, by omega, hI⟩
  · have := h.seg.mod hM (fun b hb e => by have := h.own b hb; omega)
    simpa [kids_length] using this
  · simp [kids_length]; omega

set_option maxRecDepth 100000 in
set_option maxHeartbeats 8000000 in
theorem lost_walk (a : Option Addr) (len cap : Nat) (f : Nat → Int) (lost : Int) (hl0 : 0 ≤ lost) (hl1 : lost ≤ 255) (w : World) (hr : RowAt .u8 w a len f) :
    Calls Try.prog 5 #[.slice a len cap, .int .u8 lost] w fun e w' => e = .returned (.bool true) ∧ Mod (fun _ => False) w w' := by
  have hlen := hr.len_le
  have HR := Lib.hid hr
  clear hr
  go_enter Try.func5, Try.ntmps5
  go_wp2_with fail
  refine (awake_any _).mono ?_
  rintro e w1 ⟨rfl, hM1⟩
  have HM1 := Lib.hid hM1
  clear hM1
  go_wp2_with fail
  refine (new_any _).mono ?_
  rintro e w' ⟨rfl, rfl⟩
  have hP := new_pool w1
  have hM : Mod (fun _ => False) w ((w1.alloc (.map #[] 0)).alloc (.cells #[.int .u64 1152921504606846976, .map (some w1.heap.size)] 45)) := ((HM1.out.alloc _).alloc _)
  have hsz := HM1.out.size
  have hsz2 : ((w1.alloc (.map #[] 0)).alloc (.cells #[.int .u64 1152921504606846976, .map (some w1.heap.size)] 45)).heap.size = w1.heap.size + 2 := by simp
  generalize (w1.alloc (.map #[] 0)).alloc (.cells #[.int .u64 1152921504606846976, .map (some w1.heap.size)] 45) = w2 at hP hM hsz2 ⊢
  have hseg := Seg.lit (e := 34) (size := 3) w2 #[.int .u64 (0 : Nat), .int .u64 1152921504606846976, .int .i64 (0 : Nat)] 1 rfl (by decide) (by simp [Value.oneCell'])
  have hD : LostAt w (w2.alloc (.cells #[.int .u64 (0 : Nat), .int .u64 1152921504606846976, .int .i64 (0 : Nat)] 34)) (w1.heap.size + 1) w1.heap.size (.slice (some ⟨w2.heap.size, 0, none⟩) 1 1) [⟨0, 1152921504606846976, 0⟩] 1 0 false 0 (.map []) 0 1152921504606846976 :=
    ⟨hP.alloc _, hseg, fun b hb => by simp [Value.ownBlock] at hb; omega, hM.alloc _, by omega, hsz, by omega, by omega, by simp, by omega, LInv.start⟩
  have HD := Lib.hid hD
  generalize w1.heap.size + 1 = pb at *
  generalize w1.heap.size = mb at *
  clear hP hM hD hsz hsz2 hseg
  go_wp2_with fail
  go_loopw [6, 7, 8, 9] (fun v nx i g wr => ∃ (bag : List Msg) (next k : Nat) (gone : Bool) (cnt : Nat) (D : DataW Unit) (L out : Int), nx = .int .u64 next ∧ i = .int .i64 k ∧ g = .bool gone ∧ LostAt w wr pb mb v bag next k gone cnt D L out) (fun _ _ i _ _ => 150 - (intOf i).toNat)
  case atStart => exact ⟨_, 1, 0, false, _, _, _, _, rfl, rfl, rfl, HD.out⟩
  case round =>
    obtain ⟨bag, next, k, gone, cnt, D, L, out, rfl, rfl, rfl, hA⟩ := hrel
    have hk := hA.hk
    have hlen2 := hA.hlen
    have HA := Lib.hid hA
    have HDN := Lib.hid hA.inv.done
    have hM := hA.mod
    have HM := Lib.hid hM
    clear hA HD hM
    match bag, HA, HDN, hlen2 with
    | [], HA, HDN, hlen2 =>
      obtain ⟨a', cap', rfl, hcap⟩ := HA.out.seg.shape
      have hd := HDN.out
      cases gone
      · simp at hd
        go_wp2_with fail
        refine (done_any _ _ _ _ _ _ HA.out.pool).mono ?_
        rintro e w' ⟨rfl, rfl⟩
        go_wp2
        go_ret
        exact ⟨ret_bool (by first | rfl | simp [hd]), HM.out⟩
      · simp at hd
        go_wp2_with fail
        refine (done_any _ _ _ _ _ _ HA.out.pool).mono ?_
        rintro e w' ⟨rfl, rfl⟩
        go_wp2
        go_ret
        exact ⟨ret_bool (by first | rfl | simp [hd]), HM.out⟩
    | x :: rest, HA, HDN, hlen2 =>
      obtain ⟨g, off, cap', rfl, hcap, hmax, hg, hcells⟩ := HA.out.seg.open (by simp)
      have c0 := (hcells 0 (by simp <;> omega)).1
      have c1 := (hcells 1 (by simp <;> omega)).1
      have c2 := (hcells 2 (by simp <;> omega)).1
      simp [flat, Msg.cells] at c0 c1 c2
      clear hcells
      obtain ⟨hcr, hcro, hdep, hnum, hlow⟩ := HA.out.inv.head
      have hhi := HA.out.inv.hi
      have hnx := HA.out.hnext
      by_cases hk150 : k < 150
      · have hlt : (k : Int) < 150 := by omega
        have hseg := HA.out.seg.alloc (.cells #[.int .u64 x.num, .int .u64 x.credit, .int .i64 x.depth] 34)
        by_cases hlost : (k : Int) = lost
        · subst hlost
          go_wp2_with (first | (refine wpList_from_seg rfl (.tmp 32) (.const (.int .i64 1)) 35 rfl hseg 1 .i64 rfl rfl (by simp) Try.underlying35 msgInfo ?_; intro v' hseg' hown'))
          have hN := HA.out.dropped _ hseg' hown' hk150
          have HN := Lib.hid hN
          clear hN hseg hseg' hown'
          go_roundw
          case rel => exact ⟨rest, next, k + 1, true, cnt, D, _, out, rfl, by go_num, rfl, HN.out⟩
          case measure => simp [intOf]; omega
        · go_upto_region 14 with (first | (refine wpList_from_seg rfl (.tmp 32) (.const (.int .i64 1)) 35 rfl hseg 1 .i64 rfl rfl (by simp) Try.underlying35 msgInfo ?_; intro v' hseg' hown'))
          go_cut [48] (fun b wx => ∃ c : Bool, b = .bool c ∧ (c = true → k < len ∧ x.depth < 8) ∧ wx = wr.alloc (.cells #[.int .u64 x.num, .int .u64 x.credit, .int .i64 x.depth] 34))
          case first =>
            by_cases hkl : k < len
            · by_cases hd8 : x.depth < 8
              · go_wp2
                go_meet
                exact ⟨true, by first | rfl | (simp; omega), fun _ => ⟨hkl, hd8⟩, rfl⟩
              · go_wp2
                go_meet
                exact ⟨false, by first | rfl | (simp; omega), by simp, rfl⟩
            · go_wp2
              go_meet
              exact ⟨false, rfl, by simp, rfl⟩
          case rest =>
            obtain ⟨c, rfl, hc, rfl⟩ := hcut
            have HC := Lib.hid hc
            clear hc
            go_upto_if 48 with fail
            go_cut [11] (fun m wx => ∃ q : Nat, m = .int .i64 q ∧ q ≤ 4 ∧ (q = 0 ∨ x.depth < 8) ∧ wx = wr.alloc (.cells #[.int .u64 x.num, .int .u64 x.credit, .int .i64 x.depth] 34))
            case first =>
              cases c
              · go_wp2
                go_meet
                exact ⟨0, rfl, by omega, Or.inl rfl, rfl⟩
              · obtain ⟨hkl, hd8⟩ := HC.out rfl
                obtain ⟨b, off1, rfl, hb, hcl⟩ := HR.out.cell k hkl
                have hbw : b < wr.heap.size := Nat.lt_of_lt_of_le hb HM.out.size
                have hcell : wr.cell? ⟨b, off1 + k, none⟩ = some (.int .u8 (f k)) := (World.cell?_of_block (w := w) (HM.out.block b hb (fun h => h))).trans hcl
                have hx := bounds_u8 (HR.out.wf k hkl)
                clear hcl
                go_wp2
                go_meet
                exact ⟨(f k % 5).toNat, by rw [Int.toNat_of_nonneg (by omega)], by omega, Or.inr hd8, rfl⟩
            case rest =>
              obtain ⟨m, rfl, hm4, hmd, rfl⟩ := hcut
              have hS1 : 1 ≤ x.credit / ((m : Int) + 1) := Int.le_ediv_of_mul_le (by omega) (by omega)
              have hSm : x.credit / ((m : Int) + 1) * m ≤ x.credit := by
                have h1 : x.credit / ((m : Int) + 1) * (m + 1) ≤ x.credit := Int.ediv_mul_le _ (by omega)
                rw [Int.mul_add] at h1; omega
              have hSc : x.credit / ((m : Int) + 1) ≤ x.credit := Int.ediv_le_self _ (by omega)
              have hSm0 : 0 ≤ x.credit / ((m : Int) + 1) * m := Int.mul_nonneg (by omega) (by omega)
              have hstep := HA.out.inv.step (m := m) hm4 hmd rfl rfl (by omega) (by omega)
              have HMD := Lib.hid hmd
              clear hmd
              go_wp2_with fail
              refine (split_some x.credit m (by omega) (by omega) (by omega) (by omega) _).mono ?_
              rintro e w' ⟨rfl, rfl⟩
              generalize x.credit / ((m : Int) + 1) = S at hS1 hSm hSc hSm0 hstep ⊢
              have hR0 : 0 ≤ x.credit - S * m := by omega
              have hRc : x.credit - S * m ≤ x.credit := by omega
              generalize x.credit - S * m = R at hR0 hRc hstep ⊢
              have HSTEP := Lib.hid hstep
              have hkid : KidAt w _ pb mb wr.heap.size x v' rest next 0 S cnt D out := HA.out.kid hseg' hown'
              have HKID := Lib.hid hkid
              clear hstep hkid hseg hseg' hown' c0 c1 c2
              obtain ⟨wo, rfl⟩ : ∃ wo : World, wo = wr := ⟨_, rfl⟩
              obtain ⟨i0, hi, hz0, hz1, hz2⟩ := info_parts info34
              have hrest : rest.length ≤ 4 * k := by simp at hlen2; omega
              have HI : Hid (Try.prog.info? 34 = some i0 ∧ i0.zero = some (.agg #[.int .u64 0, .int .u64 0, .int .i64 0]) ∧ i0.size = 3 ∧ i0.bytes = 24) := ⟨hi, hz0, hz1, hz2⟩
              clear hi hz0 hz1 hz2 hlen2
              go_wp2_with fail
              go_loopw [6, 7, 70] (fun v nx j wr => ∃ q : Nat, nx = .int .u64 ((next + q : Nat) : Int) ∧ j = .int .i64 q ∧ q ≤ m ∧ KidAt w wr pb mb wo.heap.size x v rest next q S cnt D out) (fun _ _ j _ => m - (intOf j).toNat)
              case atStart => exact ⟨0, rfl, rfl, Nat.zero_le _, HKID.out⟩
              case round =>
                rename_i v2 nx2 j2
                obtain ⟨q, rfl, rfl, hq, hQ⟩ := hrel
                have hr0 := cell_of_row hQ.row 0
                have hr1 := cell_of_row hQ.row 1
                have hr2 := cell_of_row hQ.row 2
                have hxlt := lt_of_block hQ.row
                simp at hr0 hr1 hr2
                have HQ := Lib.hid hQ
                clear hQ HKID
                by_cases hqm : q < m
                · have hs1 := HQ.out.seg.alloc (.cells #[.int .u64 ((next + q : Nat) : Int), .int .u64 S, .int .i64 ((x.depth : Int) + 1)] 34)
                  have hsrc := Src.one (size := 3) wr #[.int .u64 ((next + q : Nat) : Int), .int .u64 S, .int .i64 ((x.depth : Int) + 1)] 34 1 1 rfl (by simp [Value.oneCell'])
                  have HS1 := Lib.hid hs1
                  have HSRC := Lib.hid hsrc
                  clear hs1 hsrc
                  go_wp2_with (first | (at_builtin; refine wpList_append_seg rfl (.tmp 72) (.tmp 79) 35 rfl i0 _ 3 24 Try.underlying35 HI.out.1 HI.out.2.1 HI.out.2.2.1 HI.out.2.2.2 rfl (by decide) rfl HS1.out _ 1 _ rfl HSRC.out (by unfold maxLen; omega) (by omega) ?_; intro v3 w3 hs3 hg3 ho3))
                  have hnext := HQ.out.next hs3 hg3 ho3
                  have HN := Lib.hid hnext
                  clear hnext hs3 hg3 ho3
                  go_roundw
                  case rel => exact ⟨q + 1, by go_num, by go_num, by omega, HN.out⟩
                  case measure => simp [intOf]; omega
                · obtain rfl : q = m := by omega
                  go_wp2_with fail
                  refine (back_new _ pb mb _ 0 x.num R _ _ HQ.out.pool (by decide) (wf_u64 (by omega)) (HA.out.inv.fresh x (by simp)) (by omega) hR0 (by omega) (by have := HA.out.hcnt; unfold maxLen; omega)).mono ?_
                  rintro e w4 ⟨rfl, hP4, hM4⟩
                  have hfin := HQ.out.finish HA.out hk150 hm4 HSTEP.out hP4 hM4
                  have HF := Lib.hid hfin
                  clear hfin hP4 hM4
                  go_wp2
                  go_roundw
                  case rel => exact ⟨_, next + q, k + 1, gone, cnt + 1, _, L, out - R, by go_num, by go_num, rfl, HF.out⟩
                  case measure => simp [intOf]; omega
      · obtain rfl : k = 150 := by omega
        have hd : (out == 0) = false := by simp; omega
        go_wp2_with fail
        refine (done_any _ _ _ _ _ _ HA.out.pool).mono ?_
        rintro e w' ⟨rfl, rfl⟩
        cases gone
        · go_wp2
          go_ret
          exact ⟨ret_bool (by first | rfl | simp [hd] | (simp; omega)), HM.out⟩
        · go_wp2
          go_ret
          exact ⟨ret_bool (by first | rfl | simp [hd] | (simp; omega)), HM.out⟩
end Go.Proofs.Ytabhddbfjfomeaa
