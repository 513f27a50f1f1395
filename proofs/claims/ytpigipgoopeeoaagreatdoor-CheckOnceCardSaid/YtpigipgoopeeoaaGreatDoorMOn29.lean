import Derived.Test.YtpigipgoopeeoaaGreatDoorMOn06
set_option linter.unusedVariables false
set_option linter.unusedSimpArgs false
namespace Go.Proofs.YtpigipgoopeeoaaGreatDoor
open Go.RowKit Go.Maps
theorem nan_any8 (x : Nat) (w : World) : Calls Tryz.prog 138 #[.int .u8 x] w fun e w' => e = .returned (.bool false) ∧ w' = w := by
 go_enter Tryz.func138, Tryz.ntmps138
 go_wp2
 go_ret
 exact ⟨by simp, rfl⟩
theorem less_any8 (x y : Nat) (w : World) : Calls Tryz.prog 122 #[.int .u8 x, .int .u8 y] w fun e w' => e = .returned (.bool (ltN x y)) ∧ w' = w := by
 go_enter Tryz.func122, Tryz.ntmps122
 go_wp2_with (go_at_call 138; refine (nan_any8 _ _).mono ?_; rintro e w' ⟨rfl, rfl⟩)
 go_ret
 exact ⟨by simp [ltN], rfl⟩
structure DAt8 (w0 w : World) (g off n : Nat) (d : Nat → Nat) : Prop where
 mod : Mod (fun k => k = g) w0 w
 lt : g < w0.heap.size
 cell : ∀ k, k < n → w.cell? ⟨g, off + k, none⟩ = some (.int .u8 (d k))
 free : ∀ k, k < n → w.frozen? ⟨g, off + k, none⟩ = false
 shape : ∀ cur e, w0.heap[g]? = some (.cells cur e (0, 0)) → ∃ cur', w.heap[g]? = some (.cells cur' e (0, 0)) ∧ cur'.size = cur.size
variable {w0 w : World} {g off n : Nat} {d e : Nat → Nat}
theorem DAt8.glt (h : DAt8 w0 w g off n d) : g < w.heap.size := Nat.lt_of_lt_of_le h.lt h.mod.size
theorem DAt8.drewN (h : DAt8 w0 w g off n d) (q : Nat) : DAt8 w0 (w.drewN q) g off n d := ⟨⟨h.mod.os, h.mod.tape, h.mod.output, h.mod.size, h.mod.block⟩, h.lt, h.cell, h.free, h.shape⟩
theorem DAt8.drew (h : DAt8 w0 w g off n d) : DAt8 w0 w.drew g off n d := ⟨h.mod.drew, h.lt, h.cell, h.free, h.shape⟩
theorem DAt8.moved {w' : World} (h : DAt8 w0 w g off n d) (m : Mod (fun _ => False) w w') : DAt8 w0 w' g off n d := by
 have hb := m.block g h.glt (fun f => f)
 refine ⟨h.mod.trans (m.mono (fun _ _ f => f.elim)), h.lt, fun k hk => ?_, fun k hk => ?_, fun cur e hc => ?_⟩
 · rw [← h.cell k hk]; simp [World.cell?, hb]
 · rw [← h.free k hk]; simp [World.frozen?, hb]
 · rw [hb]; exact h.shape cur e hc
theorem DAt8.set (h : DAt8 w0 w g off n d) {i : Nat} (x : Nat) : DAt8 w0 (w.setCell ⟨g, off + i, none⟩ (.int .u8 x)) g off n (fun k => if k = i then x else d k) := by
 refine ⟨h.mod.setCell (fun _ => rfl) _, h.lt, fun k hk => ?_, fun k hk => ?_, fun cur e hc => ?_⟩
 · by_cases ek : k = i
   · subst ek
     rw [if_pos rfl]
     exact World.cell?_setCell_same _ _ _ (h.cell k hk)
   · rw [if_neg ek, World.cell?_setCell_other _ _ _ _ (by intro e; injection e with e1 e2; omega)]
     exact h.cell k hk
 · rw [World.frozen?_setCell]; exact h.free k hk
 · obtain ⟨cur', h1, h2⟩ := h.shape cur e hc
   exact ⟨_, row_setCell h1 _ _, by simp [h2]⟩
theorem DAt8.congr {d' : Nat → Nat} (h : DAt8 w0 w g off n d) (e : ∀ k, d' k = d k) : DAt8 w0 w g off n d' := by
 have : d' = d := funext e
 rw [this]; exact h
theorem DAt8.swap (h : DAt8 w0 w g off n d) (i j : Nat) : DAt8 w0 ((w.setCell ⟨g, off + i, none⟩ (.int .u8 (d j))).setCell ⟨g, off + j, none⟩ (.int .u8 (d i))) g off n (swp d i j) :=
 ((h.set (i := i) (d j)).set (i := j) (d i)).congr fun k => by
   unfold swp
   by_cases e1 : k = i
   · subst e1
     by_cases e2 : k = j
     · subst e2; simp
     · simp [e2]
   · by_cases e2 : k = j
     · subst e2; simp [e1]
     · simp [e1, e2]
set_option maxRecDepth 100000 in
set_option maxHeartbeats 6400000 in
theorem insertion_any8 (g off cap n a b : Nat) (d : Nat → Nat) (w0 w : World) (hD : DAt8 w0 w g off n d) (hab : a ≤ b) (hb : b ≤ n) (hn : n < 999999) :
   Calls Tryz.prog 116 #[.slice (some ⟨g, off, none⟩) n cap, .int .i64 a, .int .i64 b] w fun e w' =>
     e = .returned (.tuple #[]) ∧ ∃ d', DAt8 w0 w' g off n d' ∧ Sw a b d d' ∧ Srt a b d' := by
 have HD := Lib.hid hD
 clear hD
 go_enter Tryz.func116, Tryz.ntmps116
 go_wp2
 go_loopw [6] (fun vi wr => ∃ (i : Nat) (dk : Nat → Nat), vi = .int .i64 i ∧ a < i ∧ i ≤ b + 1 ∧ Hid (DAt8 w0 wr g off n dk) ∧ Hid (Sw a b d dk) ∧ Hid (Srt a i dk)) (fun vi _ => b + 1 - (intOf vi).toNat)
 case atStart => exact ⟨a + 1, d, by go_num, by omega, by omega, HD.out, Sw.refl, Srt.short (Nat.le_refl _)⟩
 case round =>
   obtain ⟨i, dk, rfl, hai, hib, HDk, HSk, HOk⟩ := hrel
   go_wp2
   · have hlt : i < b := by assumption
     go_loopw [7] (fun vj wr2 => ∃ (j : Nat) (dj : Nat → Nat), vj = .int .i64 j ∧ a ≤ j ∧ j ≤ i ∧ Hid (DAt8 w0 wr2 g off n dj) ∧ Hid (Sw a b d dj) ∧ Hid (Ins a j i dj)) (fun vj _ => (intOf vj).toNat)
     case atStart => exact ⟨i, dk, rfl, by omega, Nat.le_refl _, HDk.out, HSk.out, Ins.start HOk.out⟩
     case round =>
       obtain ⟨j, dj, rfl, haj, hji, HDj, HSj, HIj⟩ := hrel
       have hcw : ∀ t, t < n → wr.cell? ⟨g, off + t, none⟩ = some (.int .u8 (dj t)) := HDj.out.cell
       have hfw : ∀ t, t < n → wr.frozen? ⟨g, off + t, none⟩ = false := HDj.out.free
       have out : (j ≤ a ∨ dj (j - 1) ≤ dj j) → ∀ q, ∃ (i' : Nat) (dk' : Nat → Nat), Value.int .i64 ((i : Int) + 1) = .int .i64 (i' : Nat) ∧ a < i' ∧ i' ≤ b + 1 ∧ Hid (DAt8 w0 (wr.drewN q) g off n dk') ∧ Hid (Sw a b d dk') ∧ Hid (Srt a i' dk') := fun hs q =>
         ⟨i + 1, dj, by go_num, by omega, by omega, HDj.out.drewN q, HSj.out, HIj.out.done hs haj hji⟩
       have OUT : Hid _ := out
       clear out
       go_wp2
       by_cases hja : a < j
       · go_quiet (first | (go_at_call 122; refine Calls.quiet_of_same (less_any8 _ _ _)))
         go_wp2
         · have hl : ltN (dj j) (dj (j - 1)) = true := by assumption
           go_region
           all_goals go_wp2
           go_roundw
           case rel => exact ⟨j - 1, swp dj j (j - 1), by congr 1; omega, by omega, by omega, (HDj.out.drewN _).swap j (j - 1), .step HSj.out (by omega) (by omega) (by omega) (by omega), HIj.out.go hja hji (ltN_t hl)⟩
           case measure => simp [intOf]; omega
         · have hl : ltN (dj j) (dj (j - 1)) = false := by assumption
           go_roundw
           case rel => exact OUT.out (.inr (ltN_f hl)) nq
           case measure => simp [intOf]; omega
       · go_quiet (first | (go_at_call 122; refine Calls.quiet_of_same (less_any8 _ _ _)))
         go_wp2
         go_roundw
         case rel => exact OUT.out (.inl (by omega)) nq
         case measure => simp [intOf]; omega
   · have hge : ¬ i < b := by assumption
     go_end0
     exact ⟨rfl, dk, HDk.out, HSk.out, HOk.out.less (by omega)⟩
theorem infoU328 : (Tryz.prog.info? 5).map (fun i => (i.zero, i.size, i.bytes)) = some (some (.int .u8 0), 1, 1) := by kernel_rfl
structure SegN8 (w w' : World) (v : Value) (ss : List Nat) : Prop where
 seg : Seg w' 5 1 v ss.length (ss.map (keyV .u8))
 own : ∀ k, v.ownBlock = some k → w.heap.size ≤ k
 mod : Mod (fun _ => False) w w'
def ApI8 (w : World) (ss : List Nat) (W : World) : Prop :=
 ∃ v, W.heap[w.heap.size]? = some (.cells #[v] 23 (0, 0)) ∧ Seg W 5 1 v ss.length (ss.map (keyV .u8)) ∧ (∀ k, v.ownBlock = some k → w.heap.size < k) ∧ Mod (fun _ => False) w W
theorem ApI8.own (w : World) {B : Nat} (hB : w.heap.size ≤ B) : OwnFrom B (ApI8 w) := by
 rintro s W W' row ⟨v, h1, h2, h3, h4⟩ hg hr
 have hr' : ∀ r, row = some r → ∃ o : Obj, W.heap[r]? = some o ∧ o.isCells = false := fun r e => (hr r e).2
 exact ⟨v, box_grown h1 hg hr', h2.grown hg hr', h3, h4.grown hg (fun b hb hlt => by have := (hr b hb).1; omega)⟩
theorem ApI8.begin (w : World) : ApI8 w [] (w.alloc (.cells #[.slice none 0 0] 23)) :=
 ⟨_, heap_alloc_new' w _, Seg.nil _ _ _, fun k h => by simp [Value.ownBlock] at h, (Mod.refl _ w).alloc _⟩
set_option maxRecDepth 100000 in
set_option maxHeartbeats 2000000 in
theorem appSeq_any8 (g : Nat) (lb : Array Value) (eg : ∀ args w, (callFunc g args).run Tryz.prog w = .ok (.enter g args) w) (S Sp : List Nat → Prop) (N : Nat) (hN : N < 999999) (w : World) (hseq : SeqStops Fence.wide 4 Tryz.prog g lb (keyV .u8) S Sp N w) :
   Calls Tryz.prog 94 #[.slice none 0 0, .func (.func g) #[] lb] w fun e w' => ∃ v ss, e = .returned v ∧ S ss ∧ SegN8 w w' v ss := by
 refine callsIn_wide (n := 5).1 ?_
 obtain ⟨i0, hi, hz0, hz1, hz2⟩ := info_parts infoU328
 refine callsIn_of_wp_marks Tryz.func94 rfl trivial ?_ rfl
 simp only [Tryz.ntmps94, List.size_toArray, List.length_cons, List.length_nil, Nat.reduceAdd, Nat.reduceSub, Array.replicate_succ, Array.replicate_zero, List.push_toArray, List.append_toArray, List.nil_append, List.cons_append]
 gi_wp2
 refine wpIn_rangeFunc_ownF rfl (by decide) (gf := g) (lb := lb) rfl trivial eg (seqStopsA_iff.1 (seqStops_iff.1 hseq)) walksK_t walksK_b ((Below.refl _ w).alloc (Nat.le_refl _) _) (fun _ => rfl)
   (ApI8 w) (fun _ _ _ => False) (ApI8.own w (by simp)) (fun _ _ _ _ _ hs _ _ => hs) (ApI8.begin w)
   (fun x => { tmps := #[.slice none 0 0, .func (.func g) #[] lb, .pointer (some ⟨w.heap.size, 0, none⟩), undef, .slice none 0 0, .int .u8 (x : Int), .func (.func g) #[] lb, .int .u8 (x : Int), undef, undef, undef, undef, undef], defers := [] }) ?assign ?body ?done ?stop
 case assign =>
   intro l x W K hK
   gi_wp2_with gi_round_op_a
   exact hK
 case body =>
   rintro l pre x W ⟨v, hbox, hseg, hown, hmod⟩ hlen
   have HI : Hid (Tryz.prog.info? 5 = some i0 ∧ i0.zero = some (.int .u8 0) ∧ i0.size = 1 ∧ i0.bytes = 1) := ⟨hi, hz0, hz1, hz2⟩
   have hbc := cell_of_row hbox 0
   simp at hbc
   have hblt := lt_of_block hbox
   have HX := Lib.hid (And.intro hbox (And.intro hseg (And.intro hown hmod)))
   have HA := Lib.hid (hseg.alloc (.cells #[.int .u8 (x : Int)] 5))
   have HS : Hid (Src (W.alloc (.cells #[.int .u8 (x : Int)] 5)) 1 (.slice (some ⟨W.heap.size, 0, none⟩) 1 1) 1 [.int .u8 (x : Int)]) := Src.one (size := 1) W #[.int .u8 (x : Int)] 5 1 1 rfl (by simp [Value.oneCell'])
   clear hi hz0 hz1 hz2 hbox hseg hown hmod
   gi_wp2_with (first
     | (gi_at_builtin; refine wpListIn_append_seg rfl (.tmp 8) (.tmp 10) 23 rfl i0 _ 1 1 Tryz.underlying23 HI.out.1 HI.out.2.1 HI.out.2.2.1 HI.out.2.2.2 rfl (by decide) rfl HA.out _ 1 _ rfl HS.out (by unfold maxLen; omega) (by omega) ?_; (intro v3 w3 hs3 hg3 ho3)
        have hb3 : w3.heap[w.heap.size]? = some (.cells #[v] 23 (0, 0)) := (hg3.block w.heap.size (by simp; omega) (fun e => by have := HX.out.2.2.1 _ e.symm; omega)).trans (heap_alloc_old HX.out.1)
        have HB3 := Lib.hid hb3
        have hc3 := cell_of_row hb3 0
        have hf3 := free_of_row hb3 0
        simp at hc3
        have HG3 := Lib.hid (And.intro hs3 (And.intro hg3 ho3))
        obtain ⟨v4, hv4⟩ : ∃ v4, v4 = v3 := ⟨_, rfl⟩
        have HV4 := Lib.hid hv4
        obtain ⟨a3, c3, hsh, -⟩ := hs3.shape
        have HSH := Lib.hid hsh
        subst hsh
        clear hs3 hg3 ho3 hb3
        go_frame)
     | gi_round_op_a)
   obtain ⟨hbox, hseg, hown, hmod⟩ := HX.out
   obtain ⟨hs3, hg3, ho3⟩ := HG3.out
   rw [← HV4.out] at hs3 ho3 ⊢
   have hcells : ∀ (j : Nat) (o : Obj), v.ownBlock = some j → (W.alloc (.cells #[.int .u8 (x : Int)] 5)).heap[j]? = some o → o.isCells = true := fun j o hj ho => by
     obtain ⟨o', h1, h2⟩ := HA.out.own_cells j hj
     rw [ho] at h1; cases h1; exact h2
   have hK := ((KeepsOthers.alloc W (.cells #[.int .u8 (x : Int)] 5)).trans (KeepsOthers.of_grownBy hg3 hcells)).trans (KeepsOthers.setCell w3 ⟨w.heap.size, 0, none⟩ v4)
   have hown3 : ∀ k, v4.ownBlock = some k → w.heap.size < k := fun k hk => by
     rcases ho3 with e | e
     · exact hown k (e ▸ hk)
     · rw [e] at hk; simp at hk; omega
   refine ⟨hK, hK.walks, v4, ?_, ?_, hown3, ?_⟩
   · have := row_setCell HB3.out 0 v4
     simpa using this
   · have := hs3.mod (S := fun k => k = w.heap.size) ((Mod.refl (fun k => k = w.heap.size) w3).setCell (p := ⟨w.heap.size, 0, none⟩) (fun _ => rfl) v4) (fun k hk e => by have := hown3 k hk; omega)
     simpa [keyV] using this
   · exact ((hmod.alloc _).grown hg3 (fun b hb hlt => by have := hown b hb; omega)).setCell (fun h => absurd (show w.heap.size < w.heap.size from h) (by omega)) _
 case done =>
   rintro D ys W hD hS ⟨v, hbox, hseg, hown, hmod⟩ hK
   have hc := cell_of_row hbox 0
   simp at hc
   gi_wp2
   refine ⟨by simp, .inl ⟨_, _, rfl, run_takeDeferred hK, ?_⟩⟩
   have hr : ∀ r, some D = some r → ∃ o : Obj, W.heap[r]? = some o ∧ o.isCells = false := fun r e => by cases e; exact ⟨_, hK, rfl⟩
   have hlt : w.heap.size < D := by simp at hD; omega
   exact ⟨_, results_tmp rfl _ _ _, v, ys, rfl, hS, hseg.grown (grownBy_putObj' W D (.deferred none)) hr, fun k hk => by have := hown k hk; omega, hmod.grown (grownBy_putObj' W D (.deferred none)) (fun b hb hl => by cases hb; omega)⟩
 case stop =>
   rintro D c pre W _ _ h _
   exact h.elim
set_option maxRecDepth 100000 in
set_option maxHeartbeats 2000000 in
theorem collect_any8 (g : Nat) (lb : Array Value) (eg : ∀ args w, (callFunc g args).run Tryz.prog w = .ok (.enter g args) w) (S Sp : List Nat → Prop) (N : Nat) (hN : N < 999999) (w : World) (hseq : SeqStops Fence.wide 4 Tryz.prog g lb (keyV .u8) S Sp N w) :
   Calls Tryz.prog 80 #[.func (.func g) #[] lb] w fun e w' => ∃ v ss, e = .returned v ∧ S ss ∧ SegN8 w w' v ss := by
 have HC := Lib.hid (appSeq_any8 g lb eg S Sp N hN w hseq)
 clear hseq eg
 go_enter Tryz.func80, Tryz.ntmps80
 go_wp2_with (go_at_call 94; refine HC.out.mono ?_; (rintro e w1 ⟨v, ss, rfl, hS, hn⟩); have HN := Lib.hid hn; have HS := Lib.hid hS; clear hn hS)
 go_ret
 exact ⟨v, ss, rfl, HS.out, HN.out⟩
theorem seg_rows8 {w : World} {g off cap : Nat} {ss : List Nat} (h : Seg w 5 1 (.slice (some ⟨g, off, none⟩) ss.length cap) ss.length (ss.map (keyV .u8))) (h0 : 0 < ss.length) : DAt8 w w g off ss.length (fun k => ss.getD k 0) := by
 obtain ⟨g', off', cap', e, h1, h2, h3, h4⟩ := h.open h0
 cases e
 refine ⟨Mod.refl _ _, h3, fun k hk => ?_, fun k hk => (h4 k (by omega)).2, fun cur e hc => ⟨cur, hc, rfl⟩⟩
 rw [(h4 k (by omega)).1, List.getElem?_map, List.getElem?_eq_getElem hk]
 simp [keyV, List.getD, List.getElem?_eq_getElem hk]
theorem rows_seg8 {w w' : World} {g off cap n : Nat} {e : TypeId} {xs : List Value} {d : Nat → Nat} (h : Seg w e 1 (.slice (some ⟨g, off, none⟩) n cap) n xs) (hD : DAt8 w w' g off n d) : Seg w' e 1 (.slice (some ⟨g, off, none⟩) n cap) n ((List.range n).map fun k => keyV .u8 (d k)) := by
 rcases h.2.2 with ⟨e', _⟩ | ⟨g', off', cap', cur, e', hg, h1, h2, h3, h4⟩
 · cases e'
 · cases e'
   obtain ⟨cur', hg', hs⟩ := hD.shape _ _ hg
   refine ⟨by simp, fun u hu => ?_, .inr ⟨g, off, cap, cur', rfl, hg', h1, h2, by omega, ?_⟩⟩
   · obtain ⟨k, _, rfl⟩ := List.mem_map.1 hu
     rfl
   · apply List.ext_getElem?
     intro j
     by_cases hj : j < n
     · have hc := hD.cell j hj
       rw [cell_of_row hg'] at hc
       rw [List.getElem?_take_of_lt (by omega), List.getElem?_drop, Array.getElem?_toList, hc]
       simp [hj, keyV]
     · rw [List.getElem?_take_eq_none (by omega), List.getElem?_eq_none (by simp; omega)]
theorem insertion08 (a : Option Addr) (c : Nat) (w : World) : Calls Tryz.prog 116 #[.slice a 0 c, .int .i64 0, .int .i64 0] w fun e w' => e = .returned (.tuple #[]) ∧ w' = w := by
 go_enter Tryz.func116, Tryz.ntmps116
 go_wp2
 go_loopw [6] (fun vi wr => vi = .int .i64 1 ∧ wr = w) (fun vi _ => 0)
 case atStart => exact ⟨rfl, rfl⟩
 case round =>
   obtain ⟨rfl, hw⟩ := hrel
   have HW := Lib.hid hw
   clear hw
   go_wp2
   go_end0
   exact ⟨rfl, HW.out⟩
set_option maxRecDepth 100000 in
set_option maxHeartbeats 3200000 in
theorem pdq08 (a : Option Addr) (c lim : Nat) (w : World) : Calls Tryz.prog 95 #[.slice a 0 c, .int .i64 0, .int .i64 0, .int .i64 lim] w fun e w' => e = .returned (.tuple #[]) ∧ w' = w := by
 go_enter Tryz.func95, Tryz.ntmps95
 go_wp2
 go_loopw [1, 2] (fun va vb wr => va = .int .i64 0 ∧ vb = .int .i64 0 ∧ wr = w) (fun _ _ _ => 0)
 case atStart => exact ⟨rfl, rfl, rfl⟩
 case round =>
   obtain ⟨rfl, rfl, hw⟩ := hrel
   have HW := Lib.hid hw
   clear hw
   go_wp2_with (first | (go_at_call 116; refine (insertion08 _ _ _).mono ?_; (rintro e w1 ⟨rfl, hw1⟩); have HW1 := Lib.hid hw1; clear hw1))
   (try simp only [Exit.inBlock, Exit.then])
   refine bodyPost_ret (results_none rfl _ _ _) rfl ?_
   exact ⟨rfl, HW1.out.trans HW.out⟩
set_option maxRecDepth 100000 in
theorem sort08 (a : Option Addr) (c : Nat) (w : World) : Calls Tryz.prog 81 #[.slice a 0 c] w fun e w' => e = .returned (.tuple #[]) ∧ w' = w := by
 have HL := Lib.hid (len_any 0 (by omega))
 have HC := Lib.hid (pdq08 a c)
 generalize Sort.bitsLen 0 = L at HL
 go_enter Tryz.func81, Tryz.ntmps81
 go_wp2_with (first
   | (go_at_call 93; refine (HL.out _).mono ?_; (rintro e w1 ⟨rfl, rfl⟩))
   | (go_at_call 95; refine (HC.out L _).mono ?_; (rintro e w2 ⟨rfl, rfl⟩)))
 go_end0
 exact ⟨rfl, rfl⟩
set_option maxRecDepth 100000 in
set_option maxHeartbeats 3200000 in
theorem pdqFew8 (g off cap n : Nat) (d : Nat → Nat) (w0 w : World) (hD : DAt8 w0 w g off n d) (hn : n ≤ 12) (lim : Nat) :
   Calls Tryz.prog 95 #[.slice (some ⟨g, off, none⟩) n cap, .int .i64 0, .int .i64 (n : Int), .int .i64 lim] w fun e w' => e = .returned (.tuple #[]) ∧ ∃ d', DAt8 w0 w' g off n d' ∧ Sw 0 n d d' ∧ Srt 0 n d' := by
 have HC := Lib.hid (insertion_any8 g off cap n 0 n d w0 w hD (Nat.zero_le _) (Nat.le_refl _) (by omega))
 have hn' : (n : Int) ≤ 12 := by omega
 clear hD
 go_enter Tryz.func95, Tryz.ntmps95
 go_wp2
 go_loopw [1, 2] (fun va vb wr => va = .int .i64 0 ∧ vb = .int .i64 (n : Int) ∧ wr = w) (fun _ _ _ => 0)
 case atStart => exact ⟨rfl, rfl, rfl⟩
 case round =>
   obtain ⟨rfl, rfl, hw⟩ := hrel
   subst hw
   go_wp2_with (first | (go_at_call 116; refine HC.out.mono ?_; (rintro e w1 ⟨rfl, d1, hd1, hs1, ho1⟩); have HD1 := Lib.hid (And.intro hd1 (And.intro hs1 ho1)); clear hd1 hs1 ho1))
   (try simp only [Exit.inBlock, Exit.then])
   refine bodyPost_ret (results_none rfl _ _ _) rfl ?_
   exact ⟨rfl, d1, HD1.out.1, HD1.out.2.1, HD1.out.2.2⟩
set_option maxRecDepth 100000 in
set_option maxHeartbeats 3200000 in
theorem sort_few8 (g off cap n : Nat) (d : Nat → Nat) (w0 w : World) (hD : DAt8 w0 w g off n d) (hn : n ≤ 12) :
   Calls Tryz.prog 81 #[.slice (some ⟨g, off, none⟩) n cap] w fun e w' => e = .returned (.tuple #[]) ∧ ∃ d', DAt8 w0 w' g off n d' ∧ Sw 0 n d d' ∧ Srt 0 n d' := by
 have HL := Lib.hid (len_any n (by omega))
 have HC := Lib.hid (pdqFew8 g off cap n d w0 w hD hn)
 generalize Sort.bitsLen n = L at HL
 clear hD
 go_enter Tryz.func81, Tryz.ntmps81
 go_wp2_with (first
   | (go_at_call 93; refine (HL.out _).mono ?_; (rintro e w1 ⟨rfl, rfl⟩))
   | (go_at_call 95; refine (HC.out L).mono ?_; (rintro e w2 ⟨rfl, d1, hd1, hs1, ho1⟩); have HD1 := Lib.hid (And.intro hd1 (And.intro hs1 ho1)); clear hd1 hs1 ho1))
 go_end0
 exact ⟨rfl, d1, HD1.out.1, HD1.out.2.1, HD1.out.2.2⟩
theorem sortSeg_any8 (v : Value) (ss : List Nat) (w : World) (hs : Seg w 5 1 v ss.length (ss.map (keyV .u8))) (hn : ss.length ≤ 12) :
   Calls Tryz.prog 81 #[v] w fun e w' => e = .returned (.tuple #[]) ∧ ∃ ts : List Nat, ts.Perm ss ∧ ts.Pairwise (· ≤ ·) ∧ Seg w' 5 1 v ss.length (ts.map (keyV .u8)) ∧ Mod (fun k => v.ownBlock = some k) w w' := by
 rcases Nat.eq_zero_or_pos ss.length with h0 | h0
 · have e0 : ss = [] := List.eq_nil_of_length_eq_zero h0
   subst e0
   obtain ⟨a, c, rfl, -⟩ := hs.shape
   refine (sort08 a c w).mono ?_
   rintro e w' ⟨rfl, rfl⟩
   exact ⟨rfl, [], List.Perm.refl _, List.Pairwise.nil, hs, Mod.refl _ _⟩
 · obtain ⟨g, off, cap, rfl, h1, h2, h3, h4⟩ := hs.open h0
   refine (sort_few8 g off cap ss.length _ w w (seg_rows8 hs h0) hn).mono ?_
   rintro e w' ⟨rfl, d', hd, hsw, hso⟩
   exact ⟨rfl, (List.range ss.length).map d', hsw.perm_list, hso.pairwise, by rw [List.map_map]; exact rows_seg8 hs hd, hd.mod.mono (fun k _ e => by rw [e]; rfl)⟩
theorem SegN8.more {w w1 w2 : World} {v : Value} {ss ts : List Nat} (h : SegN8 w w1 v ss) (hl : ts.length = ss.length) (hs : Seg w2 5 1 v ss.length (ts.map (keyV .u8))) (m : Mod (fun k => v.ownBlock = some k) w1 w2) : SegN8 w w2 v ts :=
 ⟨by rw [hl]; exact hs, h.own, h.mod.trans' m (fun i hi e => by have := h.own i e; omega)⟩
set_option maxRecDepth 100000 in
set_option maxHeartbeats 2000000 in
theorem sorted_any8 (g : Nat) (lb : Array Value) (eg : ∀ args w, (callFunc g args).run Tryz.prog w = .ok (.enter g args) w) (S Sp : List Nat → Prop) (N : Nat) (hN : N < 999999) (hS : ∀ ss, S ss → ss.length ≤ 12) (w : World) (hseq : SeqStops Fence.wide 4 Tryz.prog g lb (keyV .u8) S Sp N w) :
   Calls Tryz.prog 65 #[.func (.func g) #[] lb] w fun e w' => ∃ v ss ts, e = .returned v ∧ S ss ∧ ts.Perm ss ∧ ts.Pairwise (· ≤ ·) ∧ SegN8 w w' v ts := by
 have HC := Lib.hid (collect_any8 g lb eg S Sp N hN w hseq)
 have HSS := Lib.hid hS
 clear hseq eg hS
 go_enter Tryz.func65, Tryz.ntmps65
 go_wp2_with (first
   | (go_at_call 80; refine HC.out.mono ?_; (rintro e w1 ⟨v, ss, rfl, hS, hn⟩); have HN := Lib.hid hn; have HS := Lib.hid hS; (have HSO : Hid _ := Lib.hid (sortSeg_any8 v ss w1 hn.seg (HSS.out ss hS))); (obtain ⟨a, c, hv, -⟩ := hn.seg.shape); have HV := Lib.hid hv; clear hn hS; subst hv)
   | (go_at_call 81; refine HSO.out.mono ?_; (rintro e w2 ⟨rfl, ts, h1, h2, h3, h4⟩); have HT := Lib.hid (And.intro h1 (And.intro h2 (And.intro h3 h4))); clear h1 h2 h3 h4))
 go_ret
 obtain ⟨h1, h2, h3, h4⟩ := HT.out
 exact ⟨_, ss, ts, rfl, HS.out, h1, h2, HN.out.more h1.length_eq h3 h4⟩
set_option maxRecDepth 100000 in
set_option maxHeartbeats 2000000 in
theorem keysStopBy (Bm b : Nat) (es : Ents) (w : World) (hBm : Bm < w.heap.size) (hm : w.cell? ⟨Bm, 0, none⟩ = some (.map (some b))) (hU : UMap Tryz.prog 5 .u8 w b es) :
   SeqStops Fence.wide 4 Tryz.prog 82 #[.pointer (some ⟨Bm, 0, none⟩)] (keyV .u8) (fun ss => ss.Perm (es.map (·.1))) (fun _ => True) es.length w := by
 intro l J Jx W hW hJ _ hY h0
 have hm' : W.cell? ⟨Bm, 0, none⟩ = some (.map (some b)) := (hW.cell (p := ⟨Bm, 0, none⟩) hBm).trans hm
 have hown : W.ownsMap Tryz.prog 5 rawE b es.length (entsD .u8 es) := by
   have hbl := hU.lt
   obtain ⟨xs, clock, hb, Ft, hs, hD⟩ := hU.own
   exact ⟨xs, clock, (hW.block b hbl).trans hb, Ft, hs, hD⟩
 have hsz : Maps.size (entsD .u8 es) = es.length := entsD_size _ _
 have hri := UMap.rising hU (int_keyed Tryz.underlying5)
 refine callsIn_of_wp Tryz.func82 rfl trivial ?_ rfl
 simp only [Tryz.ntmps82, List.size_toArray, List.length_cons, List.length_nil, Nat.reduceAdd, Nat.reduceSub, Array.replicate_succ, Array.replicate_zero, List.push_toArray, List.append_toArray, List.nil_append, List.cons_append]
 have HRI := Lib.hid hri
 have HSZ := Lib.hid hsz
 have HU := Lib.hid hU
 have HW := Lib.hid hW
 clear hri hsz hm hU hW
 gi_wp2_with (first
   | (gi_at_range; refine wpListIn_range_own _ rfl _ 140 rfl 5 77 (int_keyed Tryz.underlying5) Tryz.underlying140 _ b es.length _ rfl hown ?_; intro w0 hrg0 hg0 hs0)
   | gi_in)
 go_frame
 gi_loopw [3] (fun _ wr => ∃ (left : Lit → Bool) (cnt : Nat) (ss : List Nat), wr.ranges Tryz.prog 5 rawE b W.heap.size es.length (entsD .u8 es) left cnt ∧ ss.length + cnt ≤ es.length ∧ CollU .u8 es left ss ∧ J ss wr)
   (fun _ wr => wr.rangeLeft b W.heap.size)
 case atStart =>
   exact ⟨_, _, [], hrg0, by rw [HSZ.out]; simp, CollU.start _ _, hJ [] W w0 none h0 hg0 (fun r e => by cases e)⟩
 case round =>
   obtain ⟨left, cnt, ss, hrg, hcs, hC, hJs⟩ := hrel
   gi_wp2_with (first
     | (gi_at_next; refine wpListIn_next_ranges _ rfl _ rfl 5 (int_keyed Tryz.underlying5) rawE (keyV .u8) id (fun key kl hk => by obtain ⟨x, hx, _⟩ := key_nat (by simp) Tryz.underlying5 hk; exact ⟨x, hx⟩) (fun v _ _ => ⟨v, rfl⟩) b W.heap.size es.length _ _ _ rfl hrg ?_ ?_)
     | gi_in)
   · intro hc0 hl0
     gi_wp2
     go_end0
     exact ⟨⟨_, rfl⟩, .inl ⟨ss, hC.perm HRI.out hl0, hJs⟩⟩
   · intro x c kl yd yp w2 cnt2 hkey hlk hv hat hrg2 hlt hg2 hs2 hen
     obtain ⟨x', ex, rfl, _⟩ := key_nat (by simp) Tryz.underlying5 hkey
     obtain rfl : x = x' := keyV_inj ex
     have hJ2 : J ss w2 := hJ ss wr w2 (some W.heap.size) hJs hg2 (fun r e => by cases e; exact ⟨Nat.le_refl _, hrg.iter_walk⟩)
     obtain ⟨fn, tmps, assign, body, hy, hR⟩ := hY ss x w2 hJ2 (by omega)
     clear hs2
     gi_wp2
     refine hR.mono ?_
     have hC2 := hC.step hlk hat
     rintro e W3 (⟨rfl, hJ3, hk3⟩ | ⟨rfl, hJx3⟩)
     · gi_wp2
       have hrg3 := hrg2.of_walks hk3
       go_roundw
       case rel => exact ⟨_, cnt2, ss ++ [x], hrg3, by simp; omega, hC2, hJ3⟩
       case measure => rw [hrg3.left_eq, hrg.left_eq]; exact hlt
     · gi_wp2
       refine bodyPost_ret (results_none rfl _ _ _) rfl ?_
       exact ⟨⟨_, rfl⟩, .inr ⟨ss ++ [x], trivial, hJx3⟩⟩
theorem keysBy (mb : Option Nat) (w : World) : Calls Tryz.prog 66 #[.map mb] w fun e w' => e = .returned (.func (.func 82) #[] #[.pointer (some ⟨w.heap.size, 0, none⟩)]) ∧ w' = w.alloc (.cells #[.map mb] 140) := by
 go_enter Tryz.func66, Tryz.ntmps66
 go_wp2
 go_ret
 exact ⟨rfl, rfl⟩
theorem sortedKeysBy (b : Nat) (es : Ents) (w : World) (hU : UMap Tryz.prog 5 .u8 w b es) (hl : es.length ≤ 12) :
   Calls Tryz.prog 65 #[.func (.func 82) #[] #[.pointer (some ⟨w.heap.size, 0, none⟩)]] (w.alloc (.cells #[.map (some b)] 140)) fun e w' => ∃ v, e = .returned v ∧ SegN8 w w' v (es.map (·.1)) := by
 have hri := UMap.rising hU (int_keyed Tryz.underlying5)
 refine (sorted_any8 _ _ (enters_of Tryz.func82 (by kernel_rfl) rfl) _ _ es.length (by omega) (fun ss h => by rw [h.length_eq, List.length_map]; exact hl) _
   (keysStopBy w.heap.size b es _ (by simp) (by rw [cell_of_row (heap_alloc_new' w _)]; rfl) (hU.keep ((Mod.refl _ w).alloc _)))).mono ?_
 rintro e w' ⟨v, ss, ts, rfl, h1, h2, h3, h4⟩
 have e1 : ts = es.map (·.1) := rising_eq (by rw [List.pairwise_map]; exact hri) (h2.trans h1) h3
 subst e1
 exact ⟨v, rfl, h4.seg, fun k hk => by have := h4.own k hk; simp at this; omega, ((Mod.refl _ w).alloc _).trans h4.mod⟩
open Go.RowKit Go.Maps
set_option maxRecDepth 100000 in
set_option maxHeartbeats 2000000 in
theorem keysStopEd (Bm b : Nat) (es : Ents) (w : World) (hBm : Bm < w.heap.size) (hm : w.cell? ⟨Bm, 0, none⟩ = some (.map (some b))) (hU : UMap Tryz.prog 32 .u32 w b es) :
   SeqStops Fence.wide 4 Tryz.prog 83 #[.pointer (some ⟨Bm, 0, none⟩)] (keyV .u32) (fun ss => ss.Perm (es.map (·.1))) (fun _ => True) es.length w := by
 intro l J Jx W hW hJ _ hY h0
 have hm' : W.cell? ⟨Bm, 0, none⟩ = some (.map (some b)) := (hW.cell (p := ⟨Bm, 0, none⟩) hBm).trans hm
 have hown : W.ownsMap Tryz.prog 32 rawE b es.length (entsD .u32 es) := by
   have hbl := hU.lt
   obtain ⟨xs, clock, hb, Ft, hs, hD⟩ := hU.own
   exact ⟨xs, clock, (hW.block b hbl).trans hb, Ft, hs, hD⟩
 have hsz : Maps.size (entsD .u32 es) = es.length := entsD_size _ _
 have hri := UMap.rising hU (int_keyed Tryz.underlying32)
 refine callsIn_of_wp Tryz.func83 rfl trivial ?_ rfl
 simp only [Tryz.ntmps83, List.size_toArray, List.length_cons, List.length_nil, Nat.reduceAdd, Nat.reduceSub, Array.replicate_succ, Array.replicate_zero, List.push_toArray, List.append_toArray, List.nil_append, List.cons_append]
 have HRI := Lib.hid hri
 have HSZ := Lib.hid hsz
 have HU := Lib.hid hU
 have HW := Lib.hid hW
 clear hri hsz hm hU hW
 gi_wp2_with (first
   | (gi_at_range; refine wpListIn_range_own _ rfl _ 141 rfl 32 77 (int_keyed Tryz.underlying32) Tryz.underlying141 _ b es.length _ rfl hown ?_; intro w0 hrg0 hg0 hs0)
   | gi_in)
 go_frame
 gi_loopw [3] (fun _ wr => ∃ (left : Lit → Bool) (cnt : Nat) (ss : List Nat), wr.ranges Tryz.prog 32 rawE b W.heap.size es.length (entsD .u32 es) left cnt ∧ ss.length + cnt ≤ es.length ∧ CollU .u32 es left ss ∧ J ss wr)
   (fun _ wr => wr.rangeLeft b W.heap.size)
 case atStart =>
   exact ⟨_, _, [], hrg0, by rw [HSZ.out]; simp, CollU.start _ _, hJ [] W w0 none h0 hg0 (fun r e => by cases e)⟩
 case round =>
   obtain ⟨left, cnt, ss, hrg, hcs, hC, hJs⟩ := hrel
   gi_wp2_with (first
     | (gi_at_next; refine wpListIn_next_ranges _ rfl _ rfl 32 (int_keyed Tryz.underlying32) rawE (keyV .u32) id (fun key kl hk => by obtain ⟨x, hx, _⟩ := key_nat (by simp) Tryz.underlying32 hk; exact ⟨x, hx⟩) (fun v _ _ => ⟨v, rfl⟩) b W.heap.size es.length _ _ _ rfl hrg ?_ ?_)
     | gi_in)
   · intro hc0 hl0
     gi_wp2
     go_end0
     exact ⟨⟨_, rfl⟩, .inl ⟨ss, hC.perm HRI.out hl0, hJs⟩⟩
   · intro x c kl yd yp w2 cnt2 hkey hlk hv hat hrg2 hlt hg2 hs2 hen
     obtain ⟨x', ex, rfl, _⟩ := key_nat (by simp) Tryz.underlying32 hkey
     obtain rfl : x = x' := keyV_inj ex
     have hJ2 : J ss w2 := hJ ss wr w2 (some W.heap.size) hJs hg2 (fun r e => by cases e; exact ⟨Nat.le_refl _, hrg.iter_walk⟩)
     obtain ⟨fn, tmps, assign, body, hy, hR⟩ := hY ss x w2 hJ2 (by omega)
     clear hs2
     gi_wp2
     refine hR.mono ?_
     have hC2 := hC.step hlk hat
     rintro e W3 (⟨rfl, hJ3, hk3⟩ | ⟨rfl, hJx3⟩)
     · gi_wp2
       have hrg3 := hrg2.of_walks hk3
       go_roundw
       case rel => exact ⟨_, cnt2, ss ++ [x], hrg3, by simp; omega, hC2, hJ3⟩
       case measure => rw [hrg3.left_eq, hrg.left_eq]; exact hlt
     · gi_wp2
       refine bodyPost_ret (results_none rfl _ _ _) rfl ?_
       exact ⟨⟨_, rfl⟩, .inr ⟨ss ++ [x], trivial, hJx3⟩⟩
theorem keysEd (mb : Option Nat) (w : World) : Calls Tryz.prog 67 #[.map mb] w fun e w' => e = .returned (.func (.func 83) #[] #[.pointer (some ⟨w.heap.size, 0, none⟩)]) ∧ w' = w.alloc (.cells #[.map mb] 141) := by
 go_enter Tryz.func67, Tryz.ntmps67
 go_wp2
 go_ret
 exact ⟨rfl, rfl⟩
theorem sortedKeysEd (b : Nat) (es : Ents) (w : World) (hU : UMap Tryz.prog 32 .u32 w b es) (hl : es.length < 999999) :
   Calls Tryz.prog 63 #[.func (.func 83) #[] #[.pointer (some ⟨w.heap.size, 0, none⟩)]] (w.alloc (.cells #[.map (some b)] 141)) fun e w' => ∃ v, e = .returned v ∧ SegN w w' v (es.map (·.1)) := by
 have hri := UMap.rising hU (int_keyed Tryz.underlying32)
 refine (sorted_any _ _ (enters_of Tryz.func83 (by kernel_rfl) rfl) _ _ es.length hl (fun ss h => by rw [h.length_eq, List.length_map]; exact hl) _
   (keysStopEd w.heap.size b es _ (by simp) (by rw [cell_of_row (heap_alloc_new' w _)]; rfl) (hU.keep ((Mod.refl _ w).alloc _)))).mono ?_
 rintro e w' ⟨v, ss, ts, rfl, h1, h2, h3, h4⟩
 have e1 : ts = es.map (·.1) := rising_eq (by rw [List.pairwise_map]; exact hri) (h2.trans h1) h3
 subst e1
 exact ⟨v, rfl, h4.seg, fun k hk => by have := h4.own k hk; simp at this; omega, ((Mod.refl _ w).alloc _).trans h4.mod⟩
end Go.Proofs.YtpigipgoopeeoaaGreatDoor
