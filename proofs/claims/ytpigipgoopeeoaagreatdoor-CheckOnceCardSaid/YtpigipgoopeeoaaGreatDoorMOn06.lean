import Derived.Test.YtpigipgoopeeoaaGreatDoorMOn01
import Derived.Test.YtpigipgoopeeoaaGreatDoorMOn05
import Derived.Maps.RangeWalk
import Derived.Sort.MapsRangeIn
import Derived.RangeFuncWrites
import Derived.RangeFuncLeaves
import Derived.Shelf.SlIter.Collect
import Derived.OwnWalkIn
import Derived.TacticsInMore
import Derived.RegionIn
import Derived.LoopNIn
import Derived.LoopIn
set_option linter.unusedVariables false
set_option linter.unusedSimpArgs false
namespace Go.Proofs.YtpigipgoopeeoaaGreatDoor
open Go.RowKit Go.Maps
def keyV (q : IntKind) (x : Nat) : Value := .int q (x : Int)
def CollU (q : IntKind) (es : Ents) (left : Lit → Bool) (ss : List Nat) : Prop := ss.Nodup ∧ ∀ x : Nat, x ∈ ss ↔ ((getL x es).isSome = true ∧ left (.int q (x : Int)) = false)
section
variable {q : IntKind} {es : Ents} {left : Lit → Bool} {ss : List Nat}
theorem CollU.start (q : IntKind) (es : Ents) : CollU q es (Maps.has (entsD q es)) [] := ⟨List.nodup_nil, fun x => by rw [entsD_has]; cases (getL x es).isSome <;> simp⟩
theorem CollU.step (h : CollU q es left ss) {x : Nat} {y : DataW Value} (hlk : left (.int q (x : Int)) = true) (hat : ∀ zd, (entsD q es).atKey (.int q (x : Int)) zd = y) : CollU q es (fun z => left z && !z.sameKey (.int q (x : Int))) (ss ++ [x]) := by
 have hhas : (getL x es).isSome = true := by rw [← entsD_has q]; exact has_true_of_atKey hat
 have hnew : x ∉ ss := fun hx => by have := ((h.2 x).1 hx).2; rw [hlk] at this; cases this
 refine ⟨List.nodup_append.2 ⟨h.1, by simp, fun a ha b hb => by simp at hb; subst hb; exact fun e => hnew (e ▸ ha)⟩, fun y => ?_⟩
 show y ∈ ss ++ [x] ↔ (getL y es).isSome = true ∧ (left (.int q (y : Int)) && !(Lit.int q (y : Int)).sameKey (.int q (x : Int))) = false
 rw [same_int]
 by_cases hy : y = x
 · subst hy; simp [hhas]
 · simp [h.2 y, hy]
theorem mem_keys (es : Ents) (x : Nat) : x ∈ es.map (·.1) ↔ (getL x es).isSome = true := by
 unfold getL
 rw [Option.isSome_map, List.find?_isSome, List.mem_map]
 constructor
 · rintro ⟨p, hp, rfl⟩; exact ⟨p, hp, by simp⟩
 · rintro ⟨p, hp, h⟩; exact ⟨p, hp, by simpa using h⟩
theorem CollU.perm (h : CollU q es left ss) (hr : es.Pairwise fun x y => x.1 < y.1) (hl : ∀ kl, left kl = false) : ss.Perm (es.map (·.1)) := by
 refine (List.perm_ext_iff_of_nodup h.1 ?_).2 fun x => ?_
 · rw [List.nodup_iff_pairwise_ne, List.pairwise_map]
   exact hr.imp fun h => Nat.ne_of_lt h
 · rw [h.2 x, hl, mem_keys]; simp
end
theorem key_nat {P : Program} {k : TypeId} {q : IntKind} (hq : q = .u32 ∨ q = .u8) (hk : P.underlying k = some (.int q)) {key : Value} {kl : Lit} (h : keyOf P k key = some kl) : ∃ x : Nat, key = keyV q x ∧ kl = .int q (x : Int) ∧ (Lit.int q (x : Int)).wf = true := by
 obtain ⟨a, h1, h2, h3⟩ := Maps.keyOf_int_inv hk h
 have h0 : 0 ≤ a := by
   rcases hq with rfl | rfl
   · simp [Lit.wf] at h3; have e : IntKind.u32.min = 0 := rfl; omega
   · simp [Lit.wf] at h3; have e : IntKind.u8.min = 0 := rfl; omega
 obtain ⟨x, rfl⟩ := Int.eq_ofNat_of_zero_le h0
 exact ⟨x, h1, h2, h3⟩
theorem keyV_inj {q : IntKind} {x y : Nat} (h : keyV q x = keyV q y) : x = y := by
 unfold keyV at h
 injection h with _ h
 omega
section
variable {F : Fence} {m : Nat} {P : Program} {w : World} {e : TypeId} {size n : Nat} {v : Value} {xs : List Value}
theorem wpListIn_append_seg {ops : Array Oper} {rest : List Oper} {o : Oper} {a : Act} {Q : Exit → Act → World → Prop} (hgd : o.guard = none) (s x : Operand) (t : TypeId)
   (ho : o.op = .call { callee := .builtin .append, args := #[s, x], argTypes := #[t, t] })
   (i : TypeInfo) (z : Value) (size bytes : Nat) (ht : P.underlying t = some (.slice e)) (hi : P.info? e = some i) (hz : i.zero = some z)
   (hsize : i.size = size) (hby : i.bytes = bytes) (hzs : z.cells.size = size) (hsz : 0 < size)
   (hs : a.eval s = v) (hown : Seg w e size v n xs) (xv : Value) (k : Nat) (news : List Value) (hx : a.eval x = xv) (hsrc : Src w size xv k news)
   (h63 : n + k ≤ maxLen) (hbytes : (n + k) * bytes ≤ 140737488355328)
   (h : ∀ v' w', Seg w' e size v' (n + k) (xs ++ news) → w.grownBy w' v.ownBlock → (v'.ownBlock = v.ownBlock ∨ v'.ownBlock = some w.heap.size) → wpListIn F m P ops Q rest (a.put o.dst v') w') : wpListIn F m P ops Q (o :: rest) a w := by
 refine wpListIn_plain hgd fun K' hK' => ?_
 obtain ⟨v', w', hr, h2, h3, h4⟩ := run_append_seg (P := P) t o.type i z size bytes ht hi hz hsize hby hzs hsz hown xv k news hsrc h63 hbytes
 unfold Oper.wpIn
 refine ⟨?_, ?_⟩
 · simp [Oper.about, ho, resolve, Target.leads, Sem.run_pure]
 · rw [Oper.semAt_plain F _ _ (by rw [ho]; intro c hc'; cases hc')]
   simp only [execOp, ho, resolve, invoke, builtin, Sem.run_bind, Sem.run_pure, Result.andThen_ok, List.map_toArray, List.map_cons, List.map_nil, hs, hx, hr]
   exact hK' _ _ (h v' w' h2 h3 h4)
end
open Go.RowKit Go.Maps
theorem infoU32 : (Tryz.prog.info? 32).map (fun i => (i.zero, i.size, i.bytes)) = some (some (.int .u32 0), 1, 4) := by kernel_rfl
structure SegN (w w' : World) (v : Value) (ss : List Nat) : Prop where
 seg : Seg w' 32 1 v ss.length (ss.map (keyV .u32))
 own : ∀ k, v.ownBlock = some k → w.heap.size ≤ k
 mod : Mod (fun _ => False) w w'
def ApI (w : World) (ss : List Nat) (W : World) : Prop :=
 ∃ v, W.heap[w.heap.size]? = some (.cells #[v] 37 (0, 0)) ∧ Seg W 32 1 v ss.length (ss.map (keyV .u32)) ∧ (∀ k, v.ownBlock = some k → w.heap.size < k) ∧ Mod (fun _ => False) w W
theorem Seg.own_cells {w : World} {e : TypeId} {size : Nat} {v : Value} {n : Nat} {xs : List Value} (h : Seg w e size v n xs) : ∀ k, v.ownBlock = some k → ∃ o, w.heap[k]? = some o ∧ o.isCells = true := by
 intro k hk
 rcases h.2.2 with ⟨rfl, _⟩ | ⟨g, off, cap, cur, rfl, hg, _⟩
 · simp [Value.ownBlock] at hk
 · simp [Value.ownBlock] at hk; subst hk; exact ⟨_, hg, rfl⟩
theorem Seg.grown {w w' : World} {e : TypeId} {size : Nat} {v : Value} {n : Nat} {xs : List Value} {row : Option Nat} (h : Seg w e size v n xs) (hg : w.grownBy w' row) (hr : ∀ r, row = some r → ∃ o : Obj, w.heap[r]? = some o ∧ o.isCells = false) : Seg w' e size v n xs := by
 refine h.mod (S := fun k => some k = row) ((Mod.refl _ w).grown hg (fun b hb _ => hb.symm)) (fun k hk hs => ?_)
 obtain ⟨o, ho, hc⟩ := h.own_cells k hk
 obtain ⟨o', ho', hc'⟩ := hr k hs.symm
 rw [ho] at ho'; cases ho'; rw [hc] at hc'; cases hc'
theorem box_grown {w w' : World} {b : Nat} {c : Array Value} {t : TypeId} {f : Nat × Nat} {row : Option Nat} (h : w.heap[b]? = some (.cells c t f)) (hg : w.grownBy w' row) (hr : ∀ r, row = some r → ∃ o : Obj, w.heap[r]? = some o ∧ o.isCells = false) : w'.heap[b]? = some (.cells c t f) :=
 (grownBy_keeps_cells hg hr h rfl).trans h
theorem ApI.own (w : World) {B : Nat} (hB : w.heap.size ≤ B) : OwnFrom B (ApI w) := by
 rintro s W W' row ⟨v, h1, h2, h3, h4⟩ hg hr
 have hr' : ∀ r, row = some r → ∃ o : Obj, W.heap[r]? = some o ∧ o.isCells = false := fun r e => (hr r e).2
 exact ⟨v, box_grown h1 hg hr', h2.grown hg hr', h3, h4.grown hg (fun b hb hlt => by have := (hr b hb).1; omega)⟩
theorem ApI.begin (w : World) : ApI w [] (w.alloc (.cells #[.slice none 0 0] 37)) :=
 ⟨_, heap_alloc_new' w _, Seg.nil _ _ _, fun k h => by simp [Value.ownBlock] at h, (Mod.refl _ w).alloc _⟩
set_option maxRecDepth 100000 in
set_option maxHeartbeats 2000000 in
theorem appSeq_any (g : Nat) (lb : Array Value) (eg : ∀ args w, (callFunc g args).run Tryz.prog w = .ok (.enter g args) w) (S Sp : List Nat → Prop) (N : Nat) (hN : N < 999999) (w : World) (hseq : SeqStops Fence.wide 4 Tryz.prog g lb (keyV .u32) S Sp N w) :
   Calls Tryz.prog 91 #[.slice none 0 0, .func (.func g) #[] lb] w fun e w' => ∃ v ss, e = .returned v ∧ S ss ∧ SegN w w' v ss := by
 refine callsIn_wide (n := 5).1 ?_
 obtain ⟨i0, hi, hz0, hz1, hz2⟩ := info_parts infoU32
 refine callsIn_of_wp_marks Tryz.func91 rfl trivial ?_ rfl
 simp only [Tryz.ntmps91, List.size_toArray, List.length_cons, List.length_nil, Nat.reduceAdd, Nat.reduceSub, Array.replicate_succ, Array.replicate_zero, List.push_toArray, List.append_toArray, List.nil_append, List.cons_append]
 gi_wp2
 refine wpIn_rangeFunc_ownF rfl (by decide) (gf := g) (lb := lb) rfl trivial eg (seqStopsA_iff.1 (seqStops_iff.1 hseq)) walksK_t walksK_b ((Below.refl _ w).alloc (Nat.le_refl _) _) (fun _ => rfl)
   (ApI w) (fun _ _ _ => False) (ApI.own w (by simp)) (fun _ _ _ _ _ hs _ _ => hs) (ApI.begin w)
   (fun x => { tmps := #[.slice none 0 0, .func (.func g) #[] lb, .pointer (some ⟨w.heap.size, 0, none⟩), undef, .slice none 0 0, .int .u32 (x : Int), .func (.func g) #[] lb, .int .u32 (x : Int), undef, undef, undef, undef, undef], defers := [] }) ?assign ?body ?done ?stop
 case assign =>
   intro l x W K hK
   gi_wp2_with gi_round_op_a
   exact hK
 case body =>
   rintro l pre x W ⟨v, hbox, hseg, hown, hmod⟩ hlen
   have HI : Hid (Tryz.prog.info? 32 = some i0 ∧ i0.zero = some (.int .u32 0) ∧ i0.size = 1 ∧ i0.bytes = 4) := ⟨hi, hz0, hz1, hz2⟩
   have hbc := cell_of_row hbox 0
   simp at hbc
   have hblt := lt_of_block hbox
   have HX := Lib.hid (And.intro hbox (And.intro hseg (And.intro hown hmod)))
   have HA := Lib.hid (hseg.alloc (.cells #[.int .u32 (x : Int)] 32))
   have HS : Hid (Src (W.alloc (.cells #[.int .u32 (x : Int)] 32)) 1 (.slice (some ⟨W.heap.size, 0, none⟩) 1 1) 1 [.int .u32 (x : Int)]) := Src.one (size := 1) W #[.int .u32 (x : Int)] 32 1 1 rfl (by simp [Value.oneCell'])
   clear hi hz0 hz1 hz2 hbox hseg hown hmod
   gi_wp2_with (first
     | (gi_at_builtin; refine wpListIn_append_seg rfl (.tmp 8) (.tmp 10) 37 rfl i0 _ 1 4 Tryz.underlying37 HI.out.1 HI.out.2.1 HI.out.2.2.1 HI.out.2.2.2 rfl (by decide) rfl HA.out _ 1 _ rfl HS.out (by unfold maxLen; omega) (by omega) ?_; (intro v3 w3 hs3 hg3 ho3)
        have hb3 : w3.heap[w.heap.size]? = some (.cells #[v] 37 (0, 0)) := (hg3.block w.heap.size (by simp; omega) (fun e => by have := HX.out.2.2.1 _ e.symm; omega)).trans (heap_alloc_old HX.out.1)
        have HB3 := Lib.hid hb3
        have hc3 := cell_of_row hb3 0
        have hf3 := free_of_row hb3 0
        simp at hc3
        have HG3 := Lib.hid (And.intro hs3 (And.intro hg3 ho3))
        obtain ⟨v4, hv4⟩ : ∃ v4, v4 = v3 := ⟨_, rfl⟩
        have HV4 := Lib.hid hv4
        obtain ⟨a3, c3, hsh, -⟩ := hs3.shape
        have HSH := Lib.hid hsh
        subst hsh
        clear hs3 hg3 ho3 hb3
        go_frame)
     | gi_round_op_a)
   obtain ⟨hbox, hseg, hown, hmod⟩ := HX.out
   obtain ⟨hs3, hg3, ho3⟩ := HG3.out
   rw [← HV4.out] at hs3 ho3 ⊢
   have hcells : ∀ (j : Nat) (o : Obj), v.ownBlock = some j → (W.alloc (.cells #[.int .u32 (x : Int)] 32)).heap[j]? = some o → o.isCells = true := fun j o hj ho => by
     obtain ⟨o', h1, h2⟩ := HA.out.own_cells j hj
     rw [ho] at h1; cases h1; exact h2
   have hK := ((KeepsOthers.alloc W (.cells #[.int .u32 (x : Int)] 32)).trans (KeepsOthers.of_grownBy hg3 hcells)).trans (KeepsOthers.setCell w3 ⟨w.heap.size, 0, none⟩ v4)
   have hown3 : ∀ k, v4.ownBlock = some k → w.heap.size < k := fun k hk => by
     rcases ho3 with e | e
     · exact hown k (e ▸ hk)
     · rw [e] at hk; simp at hk; omega
   refine ⟨hK, hK.walks, v4, ?_, ?_, hown3, ?_⟩
   · have := row_setCell HB3.out 0 v4
     simpa using this
   · have := hs3.mod (S := fun k => k = w.heap.size) ((Mod.refl (fun k => k = w.heap.size) w3).setCell (p := ⟨w.heap.size, 0, none⟩) (fun _ => rfl) v4) (fun k hk e => by have := hown3 k hk; omega)
     simpa [keyV] using this
   · exact ((hmod.alloc _).grown hg3 (fun b hb hlt => by have := hown b hb; omega)).setCell (fun h => absurd (show w.heap.size < w.heap.size from h) (by omega)) _
 case done =>
   rintro D ys W hD hS ⟨v, hbox, hseg, hown, hmod⟩ hK
   have hc := cell_of_row hbox 0
   simp at hc
   gi_wp2
   refine ⟨by simp, .inl ⟨_, _, rfl, run_takeDeferred hK, ?_⟩⟩
   have hr : ∀ r, some D = some r → ∃ o : Obj, W.heap[r]? = some o ∧ o.isCells = false := fun r e => by cases e; exact ⟨_, hK, rfl⟩
   have hlt : w.heap.size < D := by simp at hD; omega
   exact ⟨_, results_tmp rfl _ _ _, v, ys, rfl, hS, hseg.grown (grownBy_putObj' W D (.deferred none)) hr, fun k hk => by have := hown k hk; omega, hmod.grown (grownBy_putObj' W D (.deferred none)) (fun b hb hl => by cases hb; omega)⟩
 case stop =>
   rintro D c pre W _ _ h _
   exact h.elim
set_option maxRecDepth 100000 in
set_option maxHeartbeats 2000000 in
theorem collect_any (g : Nat) (lb : Array Value) (eg : ∀ args w, (callFunc g args).run Tryz.prog w = .ok (.enter g args) w) (S Sp : List Nat → Prop) (N : Nat) (hN : N < 999999) (w : World) (hseq : SeqStops Fence.wide 4 Tryz.prog g lb (keyV .u32) S Sp N w) :
   Calls Tryz.prog 77 #[.func (.func g) #[] lb] w fun e w' => ∃ v ss, e = .returned v ∧ S ss ∧ SegN w w' v ss := by
 have HC := Lib.hid (appSeq_any g lb eg S Sp N hN w hseq)
 clear hseq eg
 go_enter Tryz.func77, Tryz.ntmps77
 go_wp2_with (go_at_call 91; refine HC.out.mono ?_; (rintro e w1 ⟨v, ss, rfl, hS, hn⟩); have HN := Lib.hid hn; have HS := Lib.hid hS; clear hn hS)
 go_ret
 exact ⟨v, ss, rfl, HS.out, HN.out⟩
theorem range_map (ss : List Nat) (f : Nat → Value) : (List.range ss.length).map (fun k => f (ss.getD k 0)) = ss.map f := by
 apply List.ext_getElem
 · simp
 · intro i h1 h2
   have hi : i < ss.length := by simpa using h2
   simp [List.getD, List.getElem?_eq_getElem hi]
theorem seg_rows {w : World} {g off cap : Nat} {ss : List Nat} (h : Seg w 32 1 (.slice (some ⟨g, off, none⟩) ss.length cap) ss.length (ss.map (keyV .u32))) (h0 : 0 < ss.length) : DAt w w g off ss.length (fun k => ss.getD k 0) := by
 obtain ⟨g', off', cap', e, h1, h2, h3, h4⟩ := h.open h0
 cases e
 refine ⟨Mod.refl _ _, h3, fun k hk => ?_, fun k hk => (h4 k (by omega)).2, fun cur e hc => ⟨cur, hc, rfl⟩⟩
 rw [(h4 k (by omega)).1, List.getElem?_map, List.getElem?_eq_getElem hk]
 simp [keyV, List.getD, List.getElem?_eq_getElem hk]
theorem rows_seg {w w' : World} {g off cap n : Nat} {e : TypeId} {xs : List Value} {d : Nat → Nat} (h : Seg w e 1 (.slice (some ⟨g, off, none⟩) n cap) n xs) (hD : DAt w w' g off n d) : Seg w' e 1 (.slice (some ⟨g, off, none⟩) n cap) n ((List.range n).map fun k => keyV .u32 (d k)) := by
 rcases h.2.2 with ⟨e', _⟩ | ⟨g', off', cap', cur, e', hg, h1, h2, h3, h4⟩
 · cases e'
 · cases e'
   obtain ⟨cur', hg', hs⟩ := hD.shape _ _ hg
   refine ⟨by simp, fun u hu => ?_, .inr ⟨g, off, cap, cur', rfl, hg', h1, h2, by omega, ?_⟩⟩
   · obtain ⟨k, _, rfl⟩ := List.mem_map.1 hu
     rfl
   · apply List.ext_getElem?
     intro j
     by_cases hj : j < n
     · have hc := hD.cell j hj
       rw [cell_of_row hg'] at hc
       rw [List.getElem?_take_of_lt (by omega), List.getElem?_drop, Array.getElem?_toList, hc]
       simp [hj, keyV]
     · rw [List.getElem?_take_eq_none (by omega), List.getElem?_eq_none (by simp; omega)]
theorem Sw.perm_list {ss : List Nat} {e : Nat → Nat} (h : Sw 0 ss.length (fun k => ss.getD k 0) e) : ((List.range ss.length).map e).Perm ss := by
 have := h.perm (n := ss.length) (Nat.le_refl _)
 have e2 := range_map (ss := ss) (f := fun x => Value.int .u32 x)
 have e3 : (List.range ss.length).map (fun k => ss.getD k 0) = ss := by
   apply List.ext_getElem
   · simp
   · intro i h1 h2
     simp [List.getD, List.getElem?_eq_getElem h2]
 rwa [e3] at this
theorem Srt.pairwise {n : Nat} {e : Nat → Nat} (h : Srt 0 n e) : ((List.range n).map e).Pairwise (· ≤ ·) := by
 rw [List.pairwise_map]
 refine List.Pairwise.imp_of_mem ?_ List.pairwise_lt_range
 intro a b ha hb hab
 exact h a b (Nat.zero_le _) (Nat.le_of_lt hab) (List.mem_range.1 hb)
theorem insertion0 (a : Option Addr) (c : Nat) (w : World) : Calls Tryz.prog 105 #[.slice a 0 c, .int .i64 0, .int .i64 0] w fun e w' => e = .returned (.tuple #[]) ∧ w' = w := by
 go_enter Tryz.func105, Tryz.ntmps105
 go_wp2
 go_loopw [6] (fun vi wr => vi = .int .i64 1 ∧ wr = w) (fun vi _ => 0)
 case atStart => exact ⟨rfl, rfl⟩
 case round =>
   obtain ⟨rfl, hw⟩ := hrel
   have HW := Lib.hid hw
   clear hw
   go_wp2
   go_end0
   exact ⟨rfl, HW.out⟩
set_option maxRecDepth 100000 in
set_option maxHeartbeats 3200000 in
theorem pdq0 (a : Option Addr) (c lim : Nat) (w : World) : Calls Tryz.prog 92 #[.slice a 0 c, .int .i64 0, .int .i64 0, .int .i64 lim] w fun e w' => e = .returned (.tuple #[]) ∧ w' = w := by
 go_enter Tryz.func92, Tryz.ntmps92
 go_wp2
 go_loopw [1, 2] (fun va vb wr => va = .int .i64 0 ∧ vb = .int .i64 0 ∧ wr = w) (fun _ _ _ => 0)
 case atStart => exact ⟨rfl, rfl, rfl⟩
 case round =>
   obtain ⟨rfl, rfl, hw⟩ := hrel
   have HW := Lib.hid hw
   clear hw
   go_wp2_with (first | (go_at_call 105; refine (insertion0 _ _ _).mono ?_; (rintro e w1 ⟨rfl, hw1⟩); have HW1 := Lib.hid hw1; clear hw1))
   (try simp only [Exit.inBlock, Exit.then])
   refine bodyPost_ret (results_none rfl _ _ _) rfl ?_
   exact ⟨rfl, HW1.out.trans HW.out⟩
set_option maxRecDepth 100000 in
theorem sort0 (a : Option Addr) (c : Nat) (w : World) : Calls Tryz.prog 78 #[.slice a 0 c] w fun e w' => e = .returned (.tuple #[]) ∧ w' = w := by
 have HL := Lib.hid (len_any 0 (by omega))
 have HC := Lib.hid (pdq0 a c)
 generalize Sort.bitsLen 0 = L at HL
 go_enter Tryz.func78, Tryz.ntmps78
 go_wp2_with (first
   | (go_at_call 93; refine (HL.out _).mono ?_; (rintro e w1 ⟨rfl, rfl⟩))
   | (go_at_call 92; refine (HC.out L _).mono ?_; (rintro e w2 ⟨rfl, rfl⟩)))
 go_end0
 exact ⟨rfl, rfl⟩
theorem sortSeg_any (v : Value) (ss : List Nat) (w : World) (hs : Seg w 32 1 v ss.length (ss.map (keyV .u32))) (hn : ss.length < 999999) :
   Calls Tryz.prog 78 #[v] w fun e w' => e = .returned (.tuple #[]) ∧ ∃ ts : List Nat, ts.Perm ss ∧ ts.Pairwise (· ≤ ·) ∧ Seg w' 32 1 v ss.length (ts.map (keyV .u32)) ∧ Mod (fun k => v.ownBlock = some k) w w' := by
 rcases Nat.eq_zero_or_pos ss.length with h0 | h0
 · have e0 : ss = [] := List.eq_nil_of_length_eq_zero h0
   subst e0
   obtain ⟨a, c, rfl, -⟩ := hs.shape
   refine (sort0 a c w).mono ?_
   rintro e w' ⟨rfl, rfl⟩
   exact ⟨rfl, [], List.Perm.refl _, List.Pairwise.nil, hs, Mod.refl _ _⟩
 · obtain ⟨g, off, cap, rfl, h1, h2, h3, h4⟩ := hs.open h0
   refine (sort_any g off cap ss.length _ w w (seg_rows hs h0) hn).mono ?_
   rintro e w' ⟨rfl, d', hd, hsw, hso⟩
   exact ⟨rfl, (List.range ss.length).map d', hsw.perm_list, hso.pairwise, by rw [List.map_map]; exact rows_seg hs hd, hd.mod.mono (fun k _ e => by rw [e]; rfl)⟩
open Go.RowKit Go.Maps
theorem SegN.more {w w1 w2 : World} {v : Value} {ss ts : List Nat} (h : SegN w w1 v ss) (hl : ts.length = ss.length) (hs : Seg w2 32 1 v ss.length (ts.map (keyV .u32))) (m : Mod (fun k => v.ownBlock = some k) w1 w2) : SegN w w2 v ts :=
 ⟨by rw [hl]; exact hs, h.own, h.mod.trans' m (fun i hi e => by have := h.own i e; omega)⟩
set_option maxRecDepth 100000 in
set_option maxHeartbeats 2000000 in
theorem sorted_any (g : Nat) (lb : Array Value) (eg : ∀ args w, (callFunc g args).run Tryz.prog w = .ok (.enter g args) w) (S Sp : List Nat → Prop) (N : Nat) (hN : N < 999999) (hS : ∀ ss, S ss → ss.length < 999999) (w : World) (hseq : SeqStops Fence.wide 4 Tryz.prog g lb (keyV .u32) S Sp N w) :
   Calls Tryz.prog 63 #[.func (.func g) #[] lb] w fun e w' => ∃ v ss ts, e = .returned v ∧ S ss ∧ ts.Perm ss ∧ ts.Pairwise (· ≤ ·) ∧ SegN w w' v ts := by
 have HC := Lib.hid (collect_any g lb eg S Sp N hN w hseq)
 have HSS := Lib.hid hS
 clear hseq eg hS
 go_enter Tryz.func63, Tryz.ntmps63
 go_wp2_with (first
   | (go_at_call 77; refine HC.out.mono ?_; (rintro e w1 ⟨v, ss, rfl, hS, hn⟩); have HN := Lib.hid hn; have HS := Lib.hid hS; (have HSO : Hid _ := Lib.hid (sortSeg_any v ss w1 hn.seg (HSS.out ss hS))); (obtain ⟨a, c, hv, -⟩ := hn.seg.shape); have HV := Lib.hid hv; clear hn hS; subst hv)
   | (go_at_call 78; refine HSO.out.mono ?_; (rintro e w2 ⟨rfl, ts, h1, h2, h3, h4⟩); have HT := Lib.hid (And.intro h1 (And.intro h2 (And.intro h3 h4))); clear h1 h2 h3 h4))
 go_ret
 obtain ⟨h1, h2, h3, h4⟩ := HT.out
 exact ⟨_, ss, ts, rfl, HS.out, h1, h2, HN.out.more h1.length_eq h3 h4⟩
theorem rising_eq {l ts : List Nat} (hr : l.Pairwise (· < ·)) (hp : ts.Perm l) (ho : ts.Pairwise (· ≤ ·)) : ts = l :=
 hp.eq_of_pairwise (le := (· ≤ ·)) (fun a b _ _ h1 h2 => Nat.le_antisymm h1 h2) ho (hr.imp fun h => Nat.le_of_lt h)
open Go.RowKit Go.Maps
section
variable {β γ : Type}
end
abbrev Names := List (Nat × List Nat)
open Go.RowKit Go.Maps
abbrev Zs := List (Nat × (Value × List Nat))
section
variable {w w' : World} {g bh bn : Nat} {Z : Zs} {en en' : Ents} {c c' : Nat → Nat} {m m' : Nat}
end
section
variable {P : Program} {kt : TypeId} {q : IntKind} {w : World} {b : Nat} {es : Ents}
end
open Go.RowKit Go.Maps
open Go.RowKit Go.Maps
section
variable {w wx wy : World} {o : Array Value} {g bh bn : Nat} {Z : Zs} {en en' : Ents} {c c' : Nat → Nat} {m m' : Nat}
end
theorem Mod.cellS {S : Nat → Prop} {w w' : World} (m : Mod S w w') {a : Addr} {v : Value} (h : w.cell? a = some v) (hs : ¬ S a.block) : w'.cell? a = some v :=
 (World.cell?_of_block (w := w) (m.block a.block (World.block_lt_of_cell? _ _ h) hs)).trans h
theorem RdS.ent2 {w : World} {kk : IntKind} {v : Value} {n : Nat} {l : List Ent} (h : RdS w 4 v n (cellsOf kk l)) {i : Nat} {x : Ent} (hi : l[i]? = some x) {a : Option Addr} {c : Nat} (e : v = .slice a n c) :
   ∃ b off, a = some ⟨b, off, Option.none⟩ ∧ b < w.heap.size ∧ w.cell? ⟨b, off + i * 4, Option.none⟩ = some (.int kk (x.key : Int)) ∧ w.cell? ⟨b, off + i * 4 + 1, Option.none⟩ = some (.int .u8 (x.val.k : Int)) ∧ w.cell? ⟨b, off + i * 4 + 2, Option.none⟩ = some (.int .i64 x.val.n) ∧ w.cell? ⟨b, off + i * 4 + 3, Option.none⟩ = some (.string x.val.s) := h.ent hi e
open Go.RowKit Go.Maps
open Go.RowKit Go.Maps
open Go.RowKit Go.Maps
theorem take_snoc {α : Type} {l : List α} {k : Nat} {x : α} (h : l[k]? = some x) : l.take (k + 1) = l.take k ++ [x] := by
 obtain ⟨hk, he⟩ := List.getElem?_eq_some_iff.1 h
 rw [List.take_succ_eq_append_getElem hk, he]
open Go.RowKit
theorem SegN.snoc {w wr w3 : World} {v v3 : Value} {ss : List Nat} {k : Nat} {o : Obj} (h : SegN w wr v ss) (hs : Seg w3 32 1 v3 (ss.length + 1) (ss.map (keyV .u32) ++ [.int .u32 (k : Int)])) (hg : (wr.alloc o).grownBy w3 v.ownBlock) (ho : v3.ownBlock = v.ownBlock ∨ v3.ownBlock = some (wr.alloc o).heap.size) : SegN w w3 v3 (ss ++ [k]) := by
 refine ⟨by simpa [keyV] using hs, fun b hb => ?_, (h.mod.alloc o).grown hg (fun b hb hlt => by have := h.own b hb; omega)⟩
 rcases ho with e | e
 · exact h.own b (e ▸ hb)
 · have := h.mod.size
   rw [e] at hb; simp at hb; omega
theorem SegN.keep {w wr wx : World} {v : Value} {ss : List Nat} (h : SegN w wr v ss) (m : Mod (fun _ => False) wr wx) : SegN w wx v ss := ⟨h.seg.mod m (fun _ _ f => f), h.own, h.mod.trans m⟩
theorem SegN.nil {w wr : World} (m : Mod (fun _ => False) w wr) : SegN w wr (.slice none 0 0) [] := ⟨Seg.nil _ _ _, fun b hb => by simp [Value.ownBlock] at hb, m⟩
theorem num_ent {w : World} {v : Value} {l : List Nat} {n : Nat} (h : RdS w 1 v n (l.map (keyV .u32))) {i : Nat} {x : Nat} (hi : l[i]? = some x) {a : Option Addr} {m c : Nat} (e : v = .slice a m c) :
   ∃ b off, a = some ⟨b, off, none⟩ ∧ b < w.heap.size ∧ w.cell? ⟨b, off + i, none⟩ = some (.int .u32 (x : Int)) := by
 obtain ⟨a', c', e', _⟩ := h.shape
 have := e.symm.trans e'
 injection this with h1 h2 h3
 subst h1 h2 h3
 exact h.cell _ _ e i _ (by rw [List.getElem?_map, hi]; rfl)
open Go.RowKit
theorem RdS.cut {w : World} {size n : Nat} {v : Value} {xs : List Value} {P : Program} {e : TypeId} (h : RdS w size v n xs) (h0 : 0 < size) {lo hi : Nat} (hlo : lo ≤ hi) (hhi : hi ≤ n) {t : TypeId} (ht : P.underlying t = some (.slice e)) (hsz : (P.info? e).map (·.size) = some size) (kk kk' : IntKind)
   (L H : Option Value) (hL : L = some (.int kk lo) ∨ (L = none ∧ lo = 0)) (hH : H = some (.int kk' hi) ∨ (H = none ∧ hi = n)) :
   ∃ v', (∀ wx, (Instr.slice t v L H none).run P wx = .ok v' wx) ∧ RdS w size v' (hi - lo) ((xs.take (hi * size)).drop (lo * size)) ∧ v'.ownBlock = v.ownBlock := by
 obtain ⟨i, hi', hsi⟩ : ∃ i, P.info? e = some i ∧ i.size = size := by
   cases hp : P.info? e with
   | none => simp [hp] at hsz
   | some i => exact ⟨i, rfl, by simpa [hp] using hsz⟩
 obtain ⟨a, c, rfl, h1, h2, h3⟩ := h.shape
 have hx := h.len
 have hm : hi * size ≤ n * size := Nat.mul_le_mul_right _ hhi
 have hlen : ((xs.take (hi * size)).drop (lo * size)).length = (hi - lo) * size := by
   rw [List.length_drop, List.length_take, hx, Nat.sub_mul]; omega
 have hcell := h.cell a c rfl
 cases a with
 | none =>
   obtain rfl := h3 rfl
   obtain rfl : hi = 0 := by omega
   obtain rfl : lo = 0 := by omega
   obtain rfl : n = 0 := by omega
   refine ⟨.slice none 0 0, ?_, ⟨by rw [hlen], ⟨none, 0, rfl, by simp, by omega, fun _ => rfl⟩, fun a' c' e' j u hu => ?_⟩, rfl⟩
   · intro wx; rcases hL with rfl | ⟨rfl, _⟩ <;> rcases hH with rfl | ⟨rfl, _⟩ <;> simp [Instr.slice, run_underlying ht, Instr.sliceBounds, Instr.sliceBound, asIntOf, sizeOf, typeInfo, hi']
   · simp at hu
 | some ad =>
   have hhc : hi ≤ c := by omega
   have hlc : lo ≤ c := by omega
   refine ⟨.slice (some (if c = lo then ad else ad.add (lo * size))) (hi - lo) (c - lo), ?_, ⟨hlen, ⟨_, _, rfl, by omega, by omega, fun h => by cases h⟩, fun a' c' e' j u hu => ?_⟩, ?_⟩
   · intro wx
     by_cases hc : c = lo
     · subst hc
       obtain rfl : hi = c := by omega
       rcases hL with rfl | ⟨rfl, hl0⟩ <;> rcases hH with rfl | ⟨rfl, hhn⟩ <;> simp_all [Instr.slice, run_underlying ht, Instr.sliceBounds, Instr.sliceBound, asIntOf, sizeOf, typeInfo]
     · rcases hL with rfl | ⟨rfl, hl0⟩ <;> rcases hH with rfl | ⟨rfl, hhn⟩ <;> simp_all [Instr.slice, run_underlying ht, Instr.sliceBounds, Instr.sliceBound, asIntOf, sizeOf, typeInfo]
   · injection e' with e1 e2 e3
     have hj : j < (hi - lo) * size := by rw [← hlen]; exact (List.getElem?_eq_some_iff.1 hu).1
     have hc : c ≠ lo := fun e => by
       have : hi - lo = 0 := by omega
       rw [this] at hj; omega
     rw [List.getElem?_drop, List.getElem?_take] at hu
     split at hu
     · obtain ⟨b, off, ea, hb, hcl⟩ := hcell (lo * size + j) u hu
       injection ea with ea
       subst ea
       refine ⟨b, off + lo * size, by rw [← e1, if_neg hc, addr_add], hb, ?_⟩
       rw [Nat.add_assoc, hcl]
     · simp at hu
   · by_cases hc : c = lo
     · simp [hc, Value.ownBlock]
     · obtain ⟨b, off, spot⟩ := ad
       cases spot <;> simp only [hc, if_false, Value.ownBlock, Addr.add] <;> (try split) <;> rfl
theorem vcells_drop (l : List Vs) (k : Nat) : (vcells l).drop (k * 4) = vcells (l.drop k) := by
 induction l generalizing k with
 | nil => simp [vcells]
 | cons s r ih =>
   cases k with
   | zero => simp
   | succ k =>
     have : vcells (s :: r) = s.cells ++ vcells r := by simp [vcells]
     rw [this, show (k + 1) * 4 = 4 + k * 4 by omega, ← List.drop_drop, List.drop_left' (by rfl), List.drop_succ_cons, ih]
theorem vcells_take (l : List Vs) (k : Nat) : (vcells l).take (k * 4) = vcells (l.take k) := by
 induction l generalizing k with
 | nil => simp [vcells]
 | cons s r ih =>
   cases k with
   | zero => simp [vcells]
   | succ k =>
     have : vcells (s :: r) = s.cells ++ vcells r := by simp [vcells]
     have h2 : vcells (s :: r.take k) = s.cells ++ vcells (r.take k) := by simp [vcells]
     rw [this, show (k + 1) * 4 = s.cells.length + k * 4 by rw [show s.cells.length = 4 from rfl]; omega, List.take_length_add_append, List.take_succ_cons, h2, ih]
theorem LRd.from {w : World} {v : Value} {l : List Vs} (h : LRd w v l) {k : Nat} (hk : k ≤ l.length) (kk : IntKind) :
   ∃ v', (Instr.slice 26 v (some (.int kk k)) none none).run Tryz.prog w = .ok v' w ∧ LRd w v' (l.drop k) := by
 obtain ⟨v', h1, h2, _⟩ := h.row.cut (by omega) (lo := k) (hi := l.length) hk (Nat.le_refl _) Tryz.underlying26 (e := 104) (by kernel_rfl) kk kk (some (.int kk k)) none (.inl rfl) (.inr ⟨rfl, rfl⟩)
 refine ⟨v', h1 _, ?_, fun s hs => h.each s (List.mem_of_mem_drop hs)⟩
 rw [List.take_of_length_le (by rw [h.row.len]; omega), vcells_drop] at h2
 simpa using h2
theorem LRd.to {w : World} {v : Value} {l : List Vs} (h : LRd w v l) {k : Nat} (hk : k ≤ l.length) (kk : IntKind) :
   ∃ v', (Instr.slice 26 v none (some (.int kk k)) none).run Tryz.prog w = .ok v' w ∧ LRd w v' (l.take k) := by
 obtain ⟨v', h1, h2, _⟩ := h.row.cut (by omega) (lo := 0) (hi := k) (Nat.zero_le _) hk Tryz.underlying26 (e := 104) (by kernel_rfl) kk kk none (some (.int kk k)) (.inr ⟨rfl, rfl⟩) (.inl rfl)
 refine ⟨v', h1 _, ?_, fun s hs => h.each s (List.mem_of_mem_take hs)⟩
 rw [vcells_take] at h2
 simpa [List.length_take, Nat.min_eq_left hk] using h2
theorem cellsOf_take (q : IntKind) (l : List Ent) (k : Nat) : (cellsOf q l).take (k * 4) = cellsOf q (l.take k) := by
 induction l generalizing k with
 | nil => simp [cellsOf]
 | cons s r ih =>
   cases k with
   | zero => simp [cellsOf]
   | succ k =>
     have : cellsOf q (s :: r) = s.cells q ++ cellsOf q r := by simp [cellsOf]
     have h2 : cellsOf q (s :: r.take k) = s.cells q ++ cellsOf q (r.take k) := by simp [cellsOf]
     rw [this, show (k + 1) * 4 = (s.cells q).length + k * 4 by rw [show (s.cells q).length = 4 from rfl]; omega, List.take_length_add_append, List.take_succ_cons, h2, ih]
theorem VRd.cut {w : World} {vp vh : Value} {x : Vtx} (h : VRd w vp vh x) {k : Nat} (hk : k ≤ x.halves.length) (kk : IntKind) :
   ∃ v', (∀ wx, (Instr.slice 102 vh none (some (.int kk k)) none).run Tryz.prog wx = .ok v' wx) ∧ VRd w vp v' ⟨x.id, x.there, x.props, x.halves.take k⟩ := by
 obtain ⟨v', h1, h2, _⟩ := h.halves.cut (by omega) (lo := 0) (hi := k) (Nat.zero_le _) hk Tryz.underlying102 (e := 112) (by kernel_rfl) kk kk none (some (.int kk k)) (.inr ⟨rfl, rfl⟩) (.inl rfl)
 refine ⟨v', h1, ⟨h.fits.id, h.fits.props, fun p hp => h.fits.halves p (List.mem_of_mem_take hp)⟩, h.props, ?_⟩
 rw [cellsOf_take] at h2
 simpa [List.length_take, Nat.min_eq_left hk] using h2
open Go.RowKit Go.Maps
open Go.RowKit
open Go.RowKit
open Go.RowKit
theorem num_any (v : Nat) (w : World) : Calls Tryz.prog 48 #[.int .u32 (v : Int)] w fun e w' => e = .returned (.bool (numB v)) ∧ w = w' := by
 by_cases h1 : 0 < v
 · have t1 : (0 : Int) < (v : Int) := by omega
   by_cases h2 : v ≤ 40
   · have t2 : (v : Int) ≤ 40 := by omega
     have HF : Hid (numB v = true) := Lib.hid (by simp [numB]; omega)
     clear h1 h2
     go_enter Tryz.func48, Tryz.ntmps48
     go_wp2
     go_ret
     exact ⟨ret_bool HF.out.symm, rfl⟩
   · have t2 : ¬ (v : Int) ≤ 40 := by omega
     have HF : Hid (numB v = false) := Lib.hid (by simp [numB]; omega)
     clear h1 h2
     go_enter Tryz.func48, Tryz.ntmps48
     go_wp2
     go_ret
     exact ⟨ret_bool HF.out.symm, rfl⟩
 · have t1 : ¬ (0 : Int) < (v : Int) := by omega
   have HF : Hid (numB v = false) := Lib.hid (by simp [numB]; omega)
   clear h1
   go_enter Tryz.func48, Tryz.ntmps48
   go_wp2
   go_ret
   exact ⟨ret_bool HF.out.symm, rfl⟩
set_option maxRecDepth 100000 in
set_option maxHeartbeats 2000000 in
theorem form_text (s : ByteArray) (hs : s.size ≤ 8) (w : World) : Calls Tryz.prog 68 #[.agg #[.int .u8 2, .int .i64 0, .string s]] w fun e w' => e = .returned (.bool (textB s)) ∧ Mod (fun _ => False) w w' := by
 go_enter Tryz.func68, Tryz.ntmps68
 go_wp2
 go_loopw [3] (fun i wr => ∃ k : Nat, i = .int .i64 k ∧ k ≤ s.size ∧ (s.data.toList.take k).all (fun c => letterB c.toNat) = true ∧ Mod (fun _ => False) w wr ∧ wr.heap[w.heap.size]? = some (.cells #[.int .u8 2, .int .i64 0, .string s] 77 (0, 0))) (fun i _ => s.size - (intOf i).toNat)
 case atStart => exact ⟨0, rfl, Nat.zero_le _, rfl, (Mod.refl _ _).alloc _, heap_alloc_new' w _⟩
 case round =>
   obtain ⟨k, rfl, hk, hall, hm, hbx⟩ := hrel
   have HA := Lib.hid hall
   have HM := Lib.hid hm
   have HBX := Lib.hid hbx
   have b2 := cell_of_row hbx 2
   simp at b2
   clear hall hm hbx
   by_cases hlt : k < s.size
   · have hts : s.data.toList.take (k + 1) = s.data.toList.take k ++ [s[k]] := by
       rw [List.take_succ_eq_append_getElem (by simpa using hlt)]; rfl
     have HS : Hid (∀ b, letterB s[k].toNat = b → (s.data.toList.take (k + 1)).all (fun c => letterB c.toNat) = b) := Lib.hid (by
       intro b hb
       rw [hts, List.all_append, HA.out]
       simp [hb])
     have hb256 := UInt8.toNat_lt s[k]
     have HBAD : Hid (letterB s[k].toNat = false → textB s = false) := Lib.hid (fun hb => by
       unfold textB
       have h1 := HS.out false hb
       have h2 : s.data.toList.all (fun c => letterB c.toNat) = false := by
         rw [List.all_eq_false] at h1 ⊢
         obtain ⟨c, hc, hn⟩ := h1
         exact ⟨c, List.mem_of_mem_take hc, hn⟩
       rw [h2]; rfl)
     clear hts
     have HGO : Hid (letterB s[k].toNat = true → (s.data.toList.take (k + 1)).all (fun c => letterB c.toNat) = true) := Lib.hid (fun hb => HS.out true hb)
     clear HS
     have hcs : (97 ≤ s[k].toNat ∧ s[k].toNat ≤ 122) ∨ (122 < s[k].toNat) ∨ (48 ≤ s[k].toNat ∧ s[k].toNat ≤ 57) ∨ (57 < s[k].toNat ∧ s[k].toNat < 97) ∨ (s[k].toNat = 46) ∨ (s[k].toNat = 45) ∨ (s[k].toNat < 48 ∧ s[k].toNat ≠ 46 ∧ s[k].toNat ≠ 45) := by omega
     rcases hcs with hcs | hcs | hcs | hcs | hcs | hcs | hcs
     · have t1 : (97 : Int) ≤ (s[k].toNat : Int) := by omega
       have t2 : (s[k].toNat : Int) ≤ 122 := by omega
       have t3 : (48 : Int) ≤ (s[k].toNat : Int) := by omega
       have t4 : ¬ (s[k].toNat : Int) ≤ 57 := by omega
       have HL : Hid (letterB s[k].toNat = true) := Lib.hid (by simp [letterB]; omega)
       clear hcs
       go_wp2
       go_roundw
       case rel => exact ⟨k + 1, by go_num, by omega, HGO.out HL.out, HM.out, HBX.out⟩
       case measure => simp [intOf]; omega
     · have t1 : (97 : Int) ≤ (s[k].toNat : Int) := by omega
       have t2 : ¬ (s[k].toNat : Int) ≤ 122 := by omega
       have t3 : (48 : Int) ≤ (s[k].toNat : Int) := by omega
       have t4 : ¬ (s[k].toNat : Int) ≤ 57 := by omega
       have t5 : ((s[k].toNat : Int) != 46) = true := by simp; omega
       have t6 : ((s[k].toNat : Int) != 45) = true := by simp; omega
       have HL : Hid (letterB s[k].toNat = false) := Lib.hid (by simp [letterB]; omega)
       clear hcs
       go_wp2
       go_ret
       exact ⟨ret_bool (HBAD.out HL.out).symm, HM.out⟩
     · have t1 : ¬ (97 : Int) ≤ (s[k].toNat : Int) := by omega
       have t3 : (48 : Int) ≤ (s[k].toNat : Int) := by omega
       have t4 : (s[k].toNat : Int) ≤ 57 := by omega
       have HL : Hid (letterB s[k].toNat = true) := Lib.hid (by simp [letterB]; omega)
       clear hcs
       go_wp2
       go_roundw
       case rel => exact ⟨k + 1, by go_num, by omega, HGO.out HL.out, HM.out, HBX.out⟩
       case measure => simp [intOf]; omega
     · have t1 : ¬ (97 : Int) ≤ (s[k].toNat : Int) := by omega
       have t3 : (48 : Int) ≤ (s[k].toNat : Int) := by omega
       have t4 : ¬ (s[k].toNat : Int) ≤ 57 := by omega
       have t5 : ((s[k].toNat : Int) != 46) = true := by simp; omega
       have t6 : ((s[k].toNat : Int) != 45) = true := by simp; omega
       have HL : Hid (letterB s[k].toNat = false) := Lib.hid (by simp [letterB]; omega)
       clear hcs
       go_wp2
       go_ret
       exact ⟨ret_bool (HBAD.out HL.out).symm, HM.out⟩
     · have t1 : ¬ (97 : Int) ≤ (s[k].toNat : Int) := by omega
       have t3 : ¬ (48 : Int) ≤ (s[k].toNat : Int) := by omega
       have t5 : ((s[k].toNat : Int) != 46) = false := by simp; omega
       have HL : Hid (letterB s[k].toNat = true) := Lib.hid (by simp [letterB]; omega)
       clear hcs
       go_wp2
       go_roundw
       case rel => exact ⟨k + 1, by go_num, by omega, HGO.out HL.out, HM.out, HBX.out⟩
       case measure => simp [intOf]; omega
     · have t1 : ¬ (97 : Int) ≤ (s[k].toNat : Int) := by omega
       have t3 : ¬ (48 : Int) ≤ (s[k].toNat : Int) := by omega
       have t5 : ((s[k].toNat : Int) != 46) = true := by simp; omega
       have t6 : ((s[k].toNat : Int) != 45) = false := by simp; omega
       have HL : Hid (letterB s[k].toNat = true) := Lib.hid (by simp [letterB]; omega)
       clear hcs
       go_wp2
       go_roundw
       case rel => exact ⟨k + 1, by go_num, by omega, HGO.out HL.out, HM.out, HBX.out⟩
       case measure => simp [intOf]; omega
     · have t1 : ¬ (97 : Int) ≤ (s[k].toNat : Int) := by omega
       have t3 : ¬ (48 : Int) ≤ (s[k].toNat : Int) := by omega
       have t5 : ((s[k].toNat : Int) != 46) = true := by simp; omega
       have t6 : ((s[k].toNat : Int) != 45) = true := by simp; omega
       have HL : Hid (letterB s[k].toNat = false) := Lib.hid (by simp [letterB]; omega)
       clear hcs
       go_wp2
       go_ret
       exact ⟨ret_bool (HBAD.out HL.out).symm, HM.out⟩
   · have HF : Hid (textB s = true) := Lib.hid (by
       unfold textB
       have h1 := HA.out
       rw [List.take_of_length_le (by simp; omega)] at h1
       rw [h1]
       simp
       omega)
     go_wp2
     go_ret
     exact ⟨ret_bool HF.out.symm, HM.out⟩
open Go.RowKit
theorem empty_size (s : ByteArray) : s.toList.isEmpty = decide (s.size = 0) := by
 rw [ByteArray.toList_eq]
 obtain ⟨⟨l⟩⟩ := s
 cases l <;> simp [ByteArray.size]
set_option maxRecDepth 100000 in
set_option maxHeartbeats 2000000 in
theorem form_any (v : Val) (hv : v.Fits) (w : World) : Calls Tryz.prog 68 #[v.v] w fun e w' => e = .returned (.bool v.ok) ∧ Mod (fun _ => False) w w' := by
 obtain ⟨k, n, s⟩ := v
 have hk := hv.k
 simp only at hk
 have hk0 : (0 : Int) ≤ (k : Int) := by omega
 have hk1 : (k : Int) < 256 := by omega
 show Calls _ _ #[.agg #[.int .u8 (k : Int), .int .i64 n, .string s]] w _
 by_cases h2 : k = 2
 · subst h2
   by_cases hn : n = 0
   · subst hn
     by_cases h8 : s.size ≤ 8
     · refine (form_text s h8 w).mono ?_
       rintro e w' ⟨rfl, hm⟩
       exact ⟨ret_bool (by simp [Val.ok]), hm⟩
     · have t8 : (8 : Int) < (s.size : Int) := by omega
       have HF : Hid (Val.ok ⟨2, 0, s⟩ = false) := Lib.hid (by simp [Val.ok, textB, h8])
       clear h8 hv
       go_enter Tryz.func68, Tryz.ntmps68
       go_wp2
       go_ret
       exact ⟨ret_bool HF.out.symm, (Mod.refl _ _).alloc _⟩
   · have n2 : (n != 0) = true := by simp [hn]
     have HF : Hid (Val.ok ⟨2, n, s⟩ = false) := Lib.hid (by simp [Val.ok, hn])
     clear hn hv
     go_enter Tryz.func68, Tryz.ntmps68
     go_wp2
     go_ret
     exact ⟨ret_bool HF.out.symm, (Mod.refl _ _).alloc _⟩
 · have k2 : ((k : Int) != 2) = true := by simp; omega
   by_cases h0 : k = 0
   · subst h0
     obtain ⟨eb, heb⟩ : ∃ eb, eb = s.toList.isEmpty := ⟨_, rfl⟩
     by_cases hn : n = 0
     · subst hn
       have HF : Hid (Val.ok ⟨0, 0, s⟩ = eb) := Lib.hid (by simp [Val.ok, heb])
       cases eb
       all_goals
         have es := heb.symm
         clear heb h2 hv
         go_enter Tryz.func68, Tryz.ntmps68
         go_wp2
         go_ret
         exact ⟨ret_bool (by rw [HF.out]), (Mod.refl _ _).alloc _⟩
     · have n1 : (n == 0) = false := by simp [hn]
       have HF : Hid (Val.ok ⟨0, n, s⟩ = false) := Lib.hid (by simp [Val.ok, hn])
       clear heb h2 hv
       go_enter Tryz.func68, Tryz.ntmps68
       go_wp2
       go_ret
       exact ⟨ret_bool HF.out.symm, (Mod.refl _ _).alloc _⟩
   · have k0 : ((k : Int) == 0) = false := by simp; omega
     by_cases h1 : k = 1
     · subst h1
       clear h2 h0 hv
       have HE : Hid (Val.ok ⟨1, n, s⟩ = decide (s.size = 0)) := Lib.hid (by simp [Val.ok, empty_size])
       by_cases hs0 : s.size = 0
       · have HF : Hid (Val.ok ⟨1, n, s⟩ = true) := Lib.hid (by rw [HE.out]; simp [hs0])
         have t0 : ((s.size : Int) == 0) = true := by simp [hs0]
         go_enter Tryz.func68, Tryz.ntmps68
         go_wp2
         go_ret
         exact ⟨ret_bool (by rw [HF.out]), (Mod.refl _ _).alloc _⟩
       · have HF : Hid (Val.ok ⟨1, n, s⟩ = false) := Lib.hid (by rw [HE.out]; simp [hs0])
         have t0 : ((s.size : Int) == 0) = false := by simp [hs0]
         go_enter Tryz.func68, Tryz.ntmps68
         go_wp2
         go_ret
         exact ⟨ret_bool (by rw [HF.out]), (Mod.refl _ _).alloc _⟩
     · have k1 : ((k : Int) == 1) = false := by simp; omega
       have HF : Hid (Val.ok ⟨k, n, s⟩ = false) := Lib.hid (by simp [Val.ok, h0, h1, h2])
       clear hv h0 h1 h2
       go_enter Tryz.func68, Tryz.ntmps68
       go_wp2
       go_ret
       exact ⟨ret_bool HF.out.symm, (Mod.refl _ _).alloc _⟩
end Go.Proofs.YtpigipgoopeeoaaGreatDoor
