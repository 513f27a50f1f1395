import Derived.Test.YtpigipgoopeeoaaGreatDoorMOn39
set_option linter.unusedVariables false
set_option linter.unusedSimpArgs false
namespace Go.Proofs.YtpigipgoopeeoaaGreatDoor
open Go.RowKit Go.Maps
theorem step_append_pat {P : Program} {w : World} {e : TypeId} {v : Value} {n : Nat} {xs : List Value} {ops : Array Oper} {o : Oper} {a : Act} {K : Act → World → Prop} {Q : Exit → Act → World → Prop} {E : Prop} (hgd : o.guard = none) (s x : Operand) (t : TypeId)
   (ho : o.op = .call { callee := .builtin .append, args := #[s, x], argTypes := #[t, t] })
   (i : TypeInfo) (z : Value) (size bytes : Nat) (ht : P.underlying t = some (.slice e)) (hi : P.info? e = some i) (hz : i.zero = some z)
   (hsize : i.size = size) (hby : i.bytes = bytes) (hzs : z.cells.size = size) (hsz : 0 < size)
   (hs : a.eval s = v) (hown : Seg w e size v n xs) (xv : Value) (m : Nat) (news : List Value) (hx : a.eval x = xv) (hsrc : Src w size xv m news)
   (h63 : n + m ≤ maxLen) (hbytes : (n + m) * bytes ≤ 140737488355328)
   (φ : Nat → Value → Prop) (hp : PatB φ w v) (hall : ∀ (j : Nat) (u : Value), (xs ++ news)[j]? = some u → φ j u) (hzero : ∀ (k q j : Nat) (u : Value), (Builtin.zeroCells z.cells k)[j]? = some u → φ (q * size + j) u)
   (h : ∀ v' w', Seg w' e size v' (n + m) (xs ++ news) → PatB φ w' v' → w.grownBy w' v.ownBlock → (v'.ownBlock = v.ownBlock ∨ v'.ownBlock = some w.heap.size) → K (a.put o.dst v') w') :
   if Region.wanted o (yielded ops a.tmps) = true then Oper.wp P o a w K Q else E := by
 have hw : Region.wanted o (yielded ops a.tmps) = true := by simp [Region.wanted, hgd]
 rw [if_pos hw]
 obtain ⟨v', w', hr, h2, h3, h4⟩ := run_append_seg (P := P) t o.type i z size bytes ht hi hz hsize hby hzs hsz hown xv m news hsrc h63 hbytes
 have h5 := run_append_pat (P := P) t o.type i z size bytes ht hi hz hsize hby hzs hsz hown xv m news hsrc h63 hbytes φ hp hall hzero v' w' hr h2
 unfold Oper.wp execOp
 simp only [ho, resolve, invoke, builtin, Sem.run_bind, Sem.run_pure, Result.andThen_ok, List.map_toArray, List.map_cons, List.map_nil, hs, hx, hr]
 exact h v' w' h2 h5 h3 h4
theorem row_else {w : World} {b b' j : Nat} {v : Value} {r : Array Value} {t : TypeId} (hne : b ≠ b') (h : w.heap[b]? = some (.cells r t (0, 0))) : (w.setCell ⟨b', j, none⟩ v).heap[b]? = some (.cells r t (0, 0)) :=
 ((Mod.refl (fun k => k = b') w).setCell (p := ⟨b', j, none⟩) (fun _ => rfl) v).heap h hne
theorem crd_lit {w : World} {b n : Nat} {l : List Cm} {t : TypeId} {r : Array Value} (h : w.heap[b]? = some (.cells r t (0, 0))) (hr : r.toList = l.flatMap Cm.c13) (hn : n = l.length) (h64 : n ≤ 9223372036854775807) (he : ∀ c ∈ l, c.Rd w) : CRd Cm.c13 13 w (.slice (some ⟨b, 0, none⟩) n n) l := by
 subst hn
 refine ⟨⟨?_, ⟨_, _, rfl, Nat.le_refl _, h64, fun hb => by cases hb⟩, fun a k e j u hu => ?_⟩, he⟩
 · clear hr he h64
   induction l with
   | nil => rfl
   | cons c r ih => rw [List.flatMap_cons, List.length_append, ih, List.length_cons, show c.c13.length = 13 from rfl]; omega
 · injection e with e1 e2 e3
   subst e1
   refine ⟨b, 0, rfl, lt_of_block h, ?_⟩
   rw [Nat.zero_add, cell_of_row h, ← hu, ← hr]
   simp
theorem heap_second (W : World) (A B : Obj) : ((W.alloc A).alloc B).heap[W.heap.size + 1]? = some B := em_secondD W A B
theorem fo_one {V W w' : World} {A : Obj} (m : Mod (fun _ => False) V W) (h : Mod (fun _ => False) (W.alloc A) w') : w'.heap[W.heap.size]? = some A ∧ V.heap.size ≤ W.heap.size := ⟨h.heap (heap_alloc_new' _ _) (fun f => f), m.size⟩
theorem fo_first {V W w' : World} {A B : Obj} (m : Mod (fun _ => False) V W) (h : Mod (fun _ => False) ((W.alloc A).alloc B) w') : w'.heap[W.heap.size]? = some A ∧ V.heap.size ≤ W.heap.size := ⟨h.heap (heap_alloc_old (heap_alloc_new' _ _)) (fun f => f), m.size⟩
theorem fo_second {V W w' : World} {A B : Obj} (m : Mod (fun _ => False) V W) (h : Mod (fun _ => False) ((W.alloc B).alloc A) w') : w'.heap[W.heap.size + 1]? = some A ∧ V.heap.size ≤ W.heap.size + 1 := ⟨h.heap (heap_second _ _ _) (fun f => f), Nat.le_succ_of_le m.size⟩
theorem fo_oneD {V W w' : World} {A : Obj} (m : Mod (fun _ => False) V W) (h : Mod (fun _ => False) (W.alloc A).drew w') : w'.heap[W.heap.size]? = some A ∧ V.heap.size ≤ W.heap.size := ⟨h.heap (em_oneD _ _) (fun f => f), m.size⟩
theorem fo_firstD {V W w' : World} {A B : Obj} (m : Mod (fun _ => False) V W) (h : Mod (fun _ => False) ((W.alloc A).alloc B).drew w') : w'.heap[W.heap.size]? = some A ∧ V.heap.size ≤ W.heap.size := ⟨h.heap (em_firstD _ _ _) (fun f => f), m.size⟩
theorem fo_secondD {V W w' : World} {A B : Obj} (m : Mod (fun _ => False) V W) (h : Mod (fun _ => False) ((W.alloc B).alloc A).drew w') : w'.heap[W.heap.size + 1]? = some A ∧ V.heap.size ≤ W.heap.size + 1 := ⟨h.heap (em_secondD _ _ _) (fun f => f), Nat.le_succ_of_le m.size⟩
theorem fo_keep {V W w' : World} {A B : Obj} {b : Nat} (h : W.heap[b]? = some A ∧ V.heap.size ≤ b) (m : Mod (fun _ => False) (W.alloc B) w') : w'.heap[b]? = some A ∧ V.heap.size ≤ b := ⟨m.heap (heap_alloc_old h.1) (fun f => f), h.2⟩
theorem fo_same {V W w' : World} {A : Obj} {b : Nat} (h : W.heap[b]? = some A ∧ V.heap.size ≤ b) (m : Mod (fun _ => False) W w') : w'.heap[b]? = some A ∧ V.heap.size ≤ b := ⟨m.heap h.1 (fun f => f), h.2⟩
theorem fault_end {V w : World} {b : Nat} {t : TypeId} {x y u v : Value} (m : Mod (fun _ => False) V w) (h : w.heap[b]? = some (.cells #[x, y] t (0, 0)) ∧ V.heap.size ≤ b) : Mod (fun _ => False) V ((w.setCell ⟨b, 0, none⟩ u).setCell ⟨b, 1, none⟩ v) ∧ ((w.setCell ⟨b, 0, none⟩ u).setCell ⟨b, 1, none⟩ v).heap[b]? = some (.cells #[u, v] t (0, 0)) := by
 have h2 := h.2
 exact ⟨(m.setCell (p := ⟨b, 0, none⟩) (fun e => by simp only at e; omega) u).setCell (p := ⟨b, 1, none⟩) (fun e => by simp only at e; omega) v, row_setCell (row_setCell h.1 0 u) 1 v⟩
abbrev emptyC : Obj := .cells #[] 42
theorem fresh11 {w : World} {g : Nat} (h : w.heap[g]? = some emptyC) : Seg w 42 11 (.slice (some ⟨g, 0, none⟩) 0 0) 0 [] := ⟨by simp, by simp, .inr ⟨g, 0, 0, #[], rfl, h, Nat.le_refl _, Nat.zero_le _, by simp, by simp⟩⟩
theorem freshP {w : World} {g : Nat} (h : w.heap[g]? = some emptyC) : PatB plainP w (.slice (some ⟨g, 0, none⟩) 0 0) := fun g' off n cap e => by
 injection e with e _ _
 injection e with e
 injection e with e1 e2
 subst e1 e2
 exact ⟨rfl, _, _, h, fun j u hu => by simp at hu⟩
theorem Hw.plain {w wr : World} {gr : Nat} {u u' : Value} {ms rs : List Cm} {L : Gr} (h : Hw w gr u u' ms rs L wr) : ∀ (j : Nat) (u : Value), ([] ++ ms.flatMap Cm.c11)[j]? = some u → plainP j u :=
 plain_at (by rw [List.nil_append]; exact plain_rows (fun c hc => (h.own c hc).sl.c11))
theorem Hw.copied {w w5 w3 : World} {gr g : Nat} {u u' v3 : Value} {ms rs : List Cm} {L : Gr} (h : Hw w gr u u' ms rs L w5) (hE : w5.heap[g]? = some emptyC) (hlo : w.heap.size ≤ g) {n : Nat} (hn : n = ms.length) (hs : Seg w3 42 11 v3 (0 + n) ([] ++ ms.flatMap Cm.c11)) (hp : PatB plainP w3 v3) (hg : w5.grownBy w3 (Value.slice (some ⟨g, 0, none⟩) 0 0).ownBlock) (ho : v3.ownBlock = (Value.slice (some ⟨g, 0, none⟩) 0 0).ownBlock ∨ v3.ownBlock = some w5.heap.size) :
   Hw w gr v3 u' ms rs L w3 ∧ (∀ c : Cm, c.Own w w5 → c.Own w w3) ∧ (∀ b, v3.ownBlock = some b → b = g ∨ b = w5.heap.size) ∧ (∀ b o, w5.heap[b]? = some o → b ≠ g → w3.heap[b]? = some o) := by
 subst hn
 have m : Mod (fun k => (Value.slice (some ⟨g, 0, none⟩) 0 0).ownBlock = some k) w5 w3 := mod_grown hg
 have hel : Else w w5 (fun k => (Value.slice (some ⟨g, 0, none⟩) 0 0).ownBlock = some k) := by
   intro b hb
   simp [Value.ownBlock] at hb
   subst hb
   exact ⟨hlo, fun _ => ⟨_, _, _, hE, by decide, by decide⟩⟩
 have hown : ∀ b, v3.ownBlock = some b → b = g ∨ b = w5.heap.size := fun b hb => by
   rcases ho with e | e
   · rw [e] at hb; simp [Value.ownBlock] at hb; exact .inl hb.symm
   · rw [e] at hb; injection hb with hb; exact .inr hb.symm
 refine ⟨⟨h.mod.grown hg (fun b hb hlt => by simp [Value.ownBlock] at hb; omega), grAt_own h.rf (fresh11 hE) (freshP hE) (by decide) m, h.good, h.lo, by simpa using hs, h.row'.mod m (fun b hb e => ?_), fun d hd => (h.own d hd).mod m hel, fun d hd => (h.own' d hd).mod m hel, fun b hb => ?_, h.oa', hp, h.pat'.mod m (fun b hb e => ?_)⟩, fun c hc => hc.mod m hel, hown, fun b o hb hne => m.heap hb (fun e => by simp [Value.ownBlock] at e; exact hne e.symm)⟩
 · simp [Value.ownBlock] at e
   subst e
   exact seg_ne h.row' hE (by decide) hb
 · rcases hown b hb with e | e
   · omega
   · have := h.mod.size; omega
 · simp [Value.ownBlock] at e
   subst e
   exact seg_ne h.row' hE (by decide) hb
theorem Hw.app1 {w X : World} {gr n : Nat} {u u' : Value} {ms rs : List Cm} {L : Gr} {c : Cm} (h : Hw w gr u u' ms rs L X) (hn : n = ms.length) (hc : c.Own w X) : Seg X 42 11 u n (ms.flatMap Cm.c11) ∧ PatB plainP X u ∧ ∀ (j : Nat) (v : Value), (ms.flatMap Cm.c11 ++ c.c11)[j]? = some v → plainP j v := by
 subst hn
 refine ⟨h.row, h.pat, plain_at (fun v hv => ?_)⟩
 rcases List.mem_append.1 hv with hv | hv
 · exact plain_rows (fun c hc => (h.own c hc).sl.c11) v hv
 · exact hc.sl.c11 v hv
theorem Hw.src1 {w X : World} {gr n : Nat} {u u' : Value} {ms rs : List Cm} {L : Gr} (h : Hw w gr u u' ms rs L X) (hn : n = ms.length) : Src X 11 u n (ms.flatMap Cm.c11) := by
 subst hn
 exact h.row.src
theorem ea_oneD {V gr : Nat} {L : Gr} {r : Rqt} {vv vl : Value} {W w' : World} {E : Obj} (hs : V ≤ W.heap.size) (d : RDq gr L r vv vl (W.alloc E).drew w') (hg : gr < V) : w'.heap[W.heap.size]? = some E ∧ V ≤ W.heap.size := ⟨d.mod.heap (em_oneD _ _) (by omega), hs⟩
theorem srcrow11 {w : World} {b : Nat} {t : TypeId} {A : Array Value} (h : w.heap[b]? = some (.cells A t (0, 0))) (hA : A.size = 11) (h1 : ∀ u ∈ A.toList, u.oneCell' = true) : Src w 11 (.slice (some ⟨b, 0, none⟩) 1 1) 1 A.toList :=
 ⟨by simpa using hA, h1, .inr ⟨_, _, rfl, fun j u hu => by rw [addr_add, cell_of_row h]; simpa using hu⟩⟩
def saidOf (k : Nat) : Option (Nat × Nat) := if k = 0 then none else if k = 4 then some (4, 0) else some (3, 0)
def ruleOf (k : Nat) : Nat := if k = 0 then 0 else if k = 4 then 4 else 3
theorem said_eq (k : Nat) : verdV (saidOf k) = .tuple #[.agg #[.int .i64 (ruleOf k : Nat), .int .i64 0], .bool (decide (k = 0)), .int .i64 0] := by
 unfold saidOf ruleOf
 by_cases h0 : k = 0
 · simp [h0, verdV]
 · by_cases h4 : k = 4
   · simp [h4, verdV]
   · simp [h0, h4, verdV]
structure Ho (w : World) (gr : Nat) (u : Value) (ms : List Cm) (k : Nat) (wr : World) : Prop where
 st : Hw w gr u (.slice none 0 0) ms [] (graphTo (ms.map Cm.x) ms.length) wr
 hist : HistUp (ms.map Cm.x)
 sq : ∀ c ∈ ms, c.x.sq ≤ k ∧ c.x.sq ≤ 30
 le : ms.length ≤ k
 short : ms.length ≤ 30
 sm : ∀ c ∈ ms, c.Small
theorem Ho.keep {w : World} {gr : Nat} {u : Value} {ms : List Cm} {k : Nat} {wr wx : World} (h : Ho w gr u ms k wr) (m : Mod (fun _ => False) wr wx) : Ho w gr u ms k wx := ⟨h.st.keep m, h.hist, h.sq, h.le, h.short, h.sm⟩
theorem Ho.skip {w : World} {gr : Nat} {u : Value} {ms : List Cm} {k : Nat} {wr wx : World} (h : Ho w gr u ms k wr) (m : Mod (fun _ => False) wr wx) : Ho w gr u ms (k + 1) wx := ⟨h.st.keep m, h.hist, fun c hc => ⟨Nat.le_succ_of_le (h.sq c hc).1, (h.sq c hc).2⟩, Nat.le_succ_of_le h.le, h.short, h.sm⟩
theorem Ho.step {w : World} {gr : Nat} {u v3 : Value} {ms : List Cm} {k : Nat} {wr w9 : World} (h : Ho w gr u ms k wr) (hk : k < 30) {r : Rqt} {ag : Gr × Ans} (ha : ag = doG (graphTo (ms.map Cm.x) ms.length) r) {vo vv vl : Value} {cl : Nat} {e p : Int}
   (h9 : Hw w gr v3 (.slice none 0 0) (ms ++ [⟨⟨cl, k + 1, r, e, p, ag.2.vals, ag.2.list, 0, 0⟩, vo, vv, vl⟩]) [] ag.1 w9) (he : e = (ag.2.e : Int)) (hp : p = (ag.2.at_ : Int)) (hsz : r.ops.length * 48 ≤ 140737488355328) :
   Ho w gr v3 (ms ++ [⟨⟨cl, k + 1, r, e, p, ag.2.vals, ag.2.list, 0, 0⟩, vo, vv, vl⟩]) (k + 1) w9 := by
 have hl : (ms.map Cm.x).length = ms.length := List.length_map _
 have hde := doG_e (graphTo (ms.map Cm.x) ms.length) r
 have hds := doG_sizes (graphTo_good' (ms.map Cm.x) ms.length) r
 rw [← ha] at hde hds
 refine ⟨?_, ?_, fun c hc => ?_, ?_, ?_, fun c hc => ?_⟩
 · have e1 := graphTo_snoc (C := ms.map Cm.x) (x := ⟨cl, k + 1, r, e, p, ag.2.vals, ag.2.list, 0, 0⟩)
   rw [hl] at e1
   rw [List.map_append, List.map_cons, List.map_nil, List.length_append, List.length_singleton, e1, ← ha]
   exact h9
 · rw [List.map_append]
   refine h.hist.snoc (x := ⟨cl, k + 1, r, e, p, ag.2.vals, ag.2.list, 0, 0⟩) (fun y hy => ?_) ?_ ?_
   · obtain ⟨c, hc, rfl⟩ := List.mem_map.1 hy
     exact Nat.lt_succ_of_le (h.sq c hc).1
   · rw [hl, ← ha]; unfold Cx.ansIs; simp [he, hp]
   · unfold Cx.given
     simp only [decide_eq_false_iff_not]
     have := hde.1
     omega
 · rcases List.mem_append.1 hc with hc | hc
   · exact ⟨Nat.le_succ_of_le (h.sq c hc).1, (h.sq c hc).2⟩
   · rw [List.mem_singleton] at hc; subst hc
     exact ⟨Nat.le_refl _, hk⟩
 · rw [List.length_append, List.length_singleton]; exact Nat.succ_le_succ h.le
 · rw [List.length_append, List.length_singleton]; have := h.le; omega
 · rcases List.mem_append.1 hc with hc | hc
   · exact h.sm c hc
   · rw [List.mem_singleton] at hc; subst hc
     exact ⟨hsz, by have := hds.1; simp only; omega, by have := hds.2; simp only; omega⟩
theorem Ho.twice {w : World} {gr : Nat} {u : Value} {ms : List Cm} {k : Nat} {wr : World} (h : Ho w gr u ms k wr) {i : Nat} {x : Cx} (hx : (ms.map Cm.x)[i]? = some x) {ag : Gr × Ans} (ha : ag = doG (graphTo (ms.map Cm.x) ms.length) x.r) {e p : Int} (he : e = (ag.2.e : Int)) (hp : p = (ag.2.at_ : Int)) (hsz : x.r.ops.length * 48 ≤ 140737488355328) (vo vv vl : Value) :
   verdict ((ms ++ ([⟨⟨x.cl, x.sq, x.r, e, p, ag.2.vals, ag.2.list, 0, 0⟩, vo, vv, vl⟩] : List Cm)).map Cm.x) [] = some (2, ms.length) ∧ ∀ c ∈ ms ++ ([⟨⟨x.cl, x.sq, x.r, e, p, ag.2.vals, ag.2.list, 0, 0⟩, vo, vv, vl⟩] : List Cm), c.Small := by
 have hl : (ms.map Cm.x).length = ms.length := List.length_map _
 have hds := doG_sizes (graphTo_good' (ms.map Cm.x) ms.length) x.r
 rw [← ha] at hds
 refine ⟨?_, fun c hc => ?_⟩
 · have h1 := twice_com_law h.hist (y := ⟨x.cl, x.sq, x.r, e, p, ag.2.vals, ag.2.list, 0, 0⟩) hx rfl rfl (by rw [hl, ← ha]; unfold Cx.ansIs; simp [he, hp])
   rw [hl] at h1
   rw [List.map_append]
   exact h1
 · rcases List.mem_append.1 hc with hc | hc
   · exact h.sm c hc
   · rw [List.mem_singleton] at hc; subst hc
     exact ⟨hsz, by have := hds.1; simp only; omega, by have := hds.2; simp only; omega⟩
def regOf (n : Nat) : Code → Option Code
 | .region k ops d => if k == n then some (.region k ops d) else none
 | .seq a b => match regOf n a with
   | some c => some c
   | none => regOf n b
 | .block _ c => regOf n c
 | .scope c => regOf n c
 | .loop c => regOf n c
 | .cond _ a b => match regOf n a with
   | some c => some c
   | none => regOf n b
 | _ => none
noncomputable def onceR (n : Nat) : Code := ((Tryz.f6.body.bind (regOf n)).getD .skip)
open Go.RowKit Go.Maps
set_option maxRecDepth 100000 in
set_option maxHeartbeats 16000000 in
theorem once_21 {Q : Exit → Act → World → Prop} (s0 s1 s2 s3 s4 s5 s7 s8 s9 s10 s11 s12 s13 s14 s15 s16 s18 s19 s20 s21 s22 s23 s24 s25 s26 s27 s28 s29 s30 s31 s32 s33 s34 s35 s36 s37 s38 s39 s40 s41 s42 s43 s44 s45 s46 s47 s48 s49 s50 s51 s52 s53 s54 s55 s56 s57 s58 s59 s60 s61 s62 s63 s64 s65 s66 s67 s68 s69 s70 s71 s72 s73 s74 s75 s76 s77 s78 s79 s80 s81 s82 s83 s84 s85 s86 s87 s88 s89 s90 s91 s92 s93 s94 s95 s96 s97 s98 s99 s100 s101 s102 s103 s104 s105 s106 s107 s108 s109 s110 s111 s112 s113 s114 s115 s116 s117 s118 s119 s120 s121 s122 s123 s124 s125 s126 s127 s128 s129 s130 s131 s132 s133 s134 s135 s136 s137 s138 s139 s140 s141 s142 s143 s144 s145 s146 s147 s148 s149 s150 s151 s152 s153 s154 s155 s156 s157 s158 s159 s160 s161 s162 s163 s164 s165 s166 s167 s168 s169 s170 s171 s172 s173 s174 s175 s176 s177 s178 s179 s180 s181 s182 s183 s184 s185 s186 s187 s188 s189 s190 s191 s192 s193 s194 s195 s196 s197 s198 s199 : Value) {W7 : World} {b7 : Nat} {uc : Value} {C R : List Cx} {rl : Nat} {okb : Bool} {yc yq ykind yrv yno yoc ynv yvc ynl ylc : Nat} {yo yv yl : Option Addr} {yrk yrd ye yp yfr yto : Int}
   (HC7 : Hid (∀ w', Mod (fun _ => False) W7 w' → Calls Tryz.prog 11 #[uc] w' fun e w'' => ∃ a n c ms', e = .returned (.slice a n c) ∧ Mod (fun _ => False) w' w'' ∧ CRd Cm.c14 14 w'' (.slice a n c) ms' ∧ ms'.map Cm.x = C))
   (HR7 : Hid (∀ b w', w'.heap[b]? = some (.cells #[.int .u8 (yc : Int), .int .u32 (yq : Int), .int .u8 (ykind : Int), .slice yo yno yoc, .int .u32 (yrv : Int), .int .i64 yrk, .int .i64 yrd, .int .i64 ye, .int .i64 yp, .slice yv ynv yvc, .slice yl ynl ylc, .int .i64 yfr, .int .i64 yto] 44 (0, 0)) → Mod (fun _ => False) W7 w' → Calls Tryz.prog 12 #[.slice (some ⟨b, 0, none⟩) 1 1] w' fun e w'' => ∃ a n c ms', e = .returned (.slice a n c) ∧ Mod (fun _ => False) w' w'' ∧ CRd Cm.c13 13 w'' (.slice a n c) ms' ∧ ms'.map Cm.x = R))
   (HVE : Hid (∀ v u ms1 rs1 w', Mod (fun _ => False) W7 w' → CRd Cm.c14 14 w' v ms1 → CRd Cm.c13 13 w' u rs1 → ms1.map Cm.x = C → rs1.map Cm.x = R → Calls Tryz.prog 10 #[v, u] w' fun e w'' => e = .returned (.tuple #[.agg #[.int .i64 (rl : Int), .int .i64 0], .bool okb, .int .i64 0]) ∧ Mod (fun _ => False) w' w''))
   (HKEEP : Hid (∀ w', Mod (fun _ => False) W7 w' → (fun w' : World => w'.cell? ⟨b7, 0, none⟩ = some (.int .u8 (yc : Int)) ∧ w'.cell? ⟨b7, 1, none⟩ = some (.int .u32 (yq : Int)) ∧ w'.cell? ⟨b7, 2, none⟩ = some (.int .u8 (ykind : Int)) ∧ w'.cell? ⟨b7, 3, none⟩ = some (.slice yo yno yoc) ∧ w'.cell? ⟨b7, 4, none⟩ = some (.int .u32 (yrv : Int)) ∧ w'.cell? ⟨b7, 5, none⟩ = some (.int .i64 yrk) ∧ w'.cell? ⟨b7, 6, none⟩ = some (.int .i64 yrd) ∧ w'.cell? ⟨b7, 7, none⟩ = some (.int .i64 ye) ∧ w'.cell? ⟨b7, 8, none⟩ = some (.int .i64 yp) ∧ w'.cell? ⟨b7, 9, none⟩ = some (.slice yv ynv yvc) ∧ w'.cell? ⟨b7, 10, none⟩ = some (.slice yl ynl ylc) ∧ w'.cell? ⟨b7, 11, none⟩ = some (.int .i64 yfr) ∧ w'.cell? ⟨b7, 12, none⟩ = some (.int .i64 yto)) w'))
   (H : ∀ (z115 z116 z117 z118 z119 z120 z121 z122 z123 z124 : Value) (b : Nat) wx, Mod (fun _ => False) W7 wx → wx.heap[b]? = some (.cells #[.int .i64 (rl : Int), .int .i64 0] 46 (0, 0)) → Q .normal ⟨#[s0, s1, s2, s3, s4, s5, uc, s7, s8, s9, s10, s11, s12, s13, s14, s15, s16, (.pointer (some ⟨b7, 0, none⟩)), .pointer (some ⟨b, 0, none⟩), .bool okb, .int .i64 0, s21, s22, s23, s24, s25, s26, s27, s28, s29, s30, s31, s32, s33, s34, s35, s36, s37, s38, s39, s40, s41, s42, s43, s44, s45, s46, s47, s48, s49, s50, s51, s52, s53, s54, s55, s56, s57, s58, s59, s60, s61, s62, s63, s64, s65, s66, s67, s68, s69, s70, s71, s72, s73, s74, s75, s76, s77, s78, s79, s80, s81, s82, s83, s84, s85, s86, s87, s88, s89, s90, s91, s92, s93, s94, s95, s96, s97, s98, s99, s100, s101, s102, s103, s104, s105, s106, s107, s108, s109, s110, s111, s112, s113, s114, z115, z116, z117, z118, z119, z120, z121, z122, z123, z124, s125, s126, s127, s128, s129, s130, s131, s132, s133, s134, s135, s136, s137, s138, s139, s140, s141, s142, s143, s144, s145, s146, s147, s148, s149, s150, s151, s152, s153, s154, s155, s156, s157, s158, s159, s160, s161, s162, s163, s164, s165, s166, s167, s168, s169, s170, s171, s172, s173, s174, s175, s176, s177, s178, s179, s180, s181, s182, s183, s184, s185, s186, s187, s188, s189, s190, s191, s192, s193, s194, s195, s196, s197, s198, s199], []⟩ wx) :
   Code.wp Tryz.prog (onceR 21) Q ⟨#[s0, s1, s2, s3, s4, s5, uc, s7, s8, s9, s10, s11, s12, s13, s14, s15, s16, (.pointer (some ⟨b7, 0, none⟩)), s18, s19, s20, s21, s22, s23, s24, s25, s26, s27, s28, s29, s30, s31, s32, s33, s34, s35, s36, s37, s38, s39, s40, s41, s42, s43, s44, s45, s46, s47, s48, s49, s50, s51, s52, s53, s54, s55, s56, s57, s58, s59, s60, s61, s62, s63, s64, s65, s66, s67, s68, s69, s70, s71, s72, s73, s74, s75, s76, s77, s78, s79, s80, s81, s82, s83, s84, s85, s86, s87, s88, s89, s90, s91, s92, s93, s94, s95, s96, s97, s98, s99, s100, s101, s102, s103, s104, s105, s106, s107, s108, s109, s110, s111, s112, s113, s114, s115, s116, s117, s118, s119, s120, s121, s122, s123, s124, s125, s126, s127, s128, s129, s130, s131, s132, s133, s134, s135, s136, s137, s138, s139, s140, s141, s142, s143, s144, s145, s146, s147, s148, s149, s150, s151, s152, s153, s154, s155, s156, s157, s158, s159, s160, s161, s162, s163, s164, s165, s166, s167, s168, s169, s170, s171, s172, s173, s174, s175, s176, s177, s178, s179, s180, s181, s182, s183, s184, s185, s186, s187, s188, s189, s190, s191, s192, s193, s194, s195, s196, s197, s198, s199], []⟩ W7 := by
 conv => arg 2; whnf
 have HMC : Hid (Mod (fun _ => False) W7 W7.drew) := Lib.hid (Mod.refl _ _).drew
 obtain ⟨k0, k1, k2, k3, k4, k5, k6, k7, k8, k9, k10, k11, k12⟩ := HKEEP.out W7.drew (Mod.refl _ _).drew
 go_region_held3 (fun w' => w'.cell? ⟨b7, 0, none⟩ = some (.int .u8 (yc : Int)) ∧ w'.cell? ⟨b7, 1, none⟩ = some (.int .u32 (yq : Int)) ∧ w'.cell? ⟨b7, 2, none⟩ = some (.int .u8 (ykind : Int)) ∧ w'.cell? ⟨b7, 3, none⟩ = some (.slice yo yno yoc) ∧ w'.cell? ⟨b7, 4, none⟩ = some (.int .u32 (yrv : Int)) ∧ w'.cell? ⟨b7, 5, none⟩ = some (.int .i64 yrk) ∧ w'.cell? ⟨b7, 6, none⟩ = some (.int .i64 yrd) ∧ w'.cell? ⟨b7, 7, none⟩ = some (.int .i64 ye) ∧ w'.cell? ⟨b7, 8, none⟩ = some (.int .i64 yp) ∧ w'.cell? ⟨b7, 9, none⟩ = some (.slice yv ynv yvc) ∧ w'.cell? ⟨b7, 10, none⟩ = some (.slice yl ynl ylc) ∧ w'.cell? ⟨b7, 11, none⟩ = some (.int .i64 yfr) ∧ w'.cell? ⟨b7, 12, none⟩ = some (.int .i64 yto))
   (first
     | (with_reducible exact HKEEP.out _ (fault_end HMC.out HFO.out).1)
     | (with_reducible exact HKEEP.out _ (by (repeat (with_reducible (first | exact HMC.out | exact Mod.refl _ _ | refine Mod.drew ?_ | refine Mod.alloc ?_ _))); done))
     | go_keep)
   ((first
     | (have hq := HCO.out; have hq2 := HRE.out; go_at_call 10; go_loud (refine (HVE.out _ _ _ _ _ (by (repeat (with_reducible (first | exact HMC.out | exact Mod.refl _ _ | refine Mod.drew ?_ | refine Mod.alloc ?_ _))); done) (HCO.out.1.keep (by (repeat (with_reducible (first | exact Mod.refl _ _ | refine Mod.drew ?_ | refine Mod.alloc ?_ _))); done)) (HRE.out.1.keep (by (repeat (with_reducible (first | exact Mod.refl _ _ | refine Mod.drew ?_ | refine Mod.alloc ?_ _))); done)) HCO.out.2 HRE.out.2).mono ?_; (rintro e w13 ⟨rfl, hm13⟩); (first | (with_reducible (replace HFO := Lib.hid (fo_same HFO.out hm13))) | (with_reducible (replace HFO := Lib.hid (fo_keep HFO.out hm13))) | (with_reducible (have HFO := Lib.hid (fo_oneD (A := (.cells #[.int .i64 0, .int .i64 0] 46)) (Mod.refl _ W7) hm13))) | (with_reducible (have HFO := Lib.hid (fo_firstD (A := (.cells #[.int .i64 0, .int .i64 0] 46)) (Mod.refl _ W7) hm13))) | (with_reducible (have HFO := Lib.hid (fo_secondD (A := (.cells #[.int .i64 0, .int .i64 0] 46)) (Mod.refl _ W7) hm13))) | (with_reducible (have HFO := Lib.hid (fo_one (A := (.cells #[.int .i64 0, .int .i64 0] 46)) HMC.out hm13))) | (with_reducible (have HFO := Lib.hid (fo_first (A := (.cells #[.int .i64 0, .int .i64 0] 46)) HMC.out hm13))) | (with_reducible (have HFO := Lib.hid (fo_second (A := (.cells #[.int .i64 0, .int .i64 0] 46)) HMC.out hm13))) | skip); (try (have y0 := cell_of_row HFO.out.1 0; have y1 := cell_of_row HFO.out.1 1; have yf0 := free_of_row HFO.out.1 0; have yf1 := free_of_row HFO.out.1 1; have yz := lt_of_block HFO.out.1; simp at y0 y1)); (replace HMC : Hid (Mod (fun _ => False) W7 w13) := Lib.hid (Mod.trans (by (repeat (with_reducible (first | exact HMC.out | exact Mod.refl _ _ | refine Mod.drew ?_ | refine Mod.alloc ?_ _))); done) hm13)); clear hm13 hq hq2))
     | (go_at_call 12; (with_reducible refine (HR7.out _ _ (by first | exact HEO.out | exact heap_alloc_old HEO.out | exact heap_alloc_new' _ _ | exact heap_alloc_old (heap_alloc_new' _ _) | exact em_oneD _ _ | exact em_firstD _ _ _ | exact em_secondD _ _ _ | exact heap_second _ _ _) (by (repeat (with_reducible (first | exact HMC.out | exact Mod.refl _ _ | refine Mod.drew ?_ | refine Mod.alloc ?_ _))); done)).mono ?_); (rintro e w12 ⟨a12, n12', c12, ms12, rfl, hm12, hc12, hx12⟩); have HRE := Lib.hid (And.intro hc12 hx12); (try replace HCO := Lib.hid (And.intro (HCO.out.1.keep (Mod.trans (by (repeat (with_reducible (first | exact Mod.refl _ _ | refine Mod.drew ?_ | refine Mod.alloc ?_ _))); done) hm12)) HCO.out.2)); (first | (with_reducible (replace HFO := Lib.hid (fo_same HFO.out hm12))) | (with_reducible (replace HFO := Lib.hid (fo_keep HFO.out hm12))) | (with_reducible (have HFO := Lib.hid (fo_oneD (A := (.cells #[.int .i64 0, .int .i64 0] 46)) (Mod.refl _ W7) hm12))) | (with_reducible (have HFO := Lib.hid (fo_firstD (A := (.cells #[.int .i64 0, .int .i64 0] 46)) (Mod.refl _ W7) hm12))) | (with_reducible (have HFO := Lib.hid (fo_secondD (A := (.cells #[.int .i64 0, .int .i64 0] 46)) (Mod.refl _ W7) hm12))) | (with_reducible (have HFO := Lib.hid (fo_one (A := (.cells #[.int .i64 0, .int .i64 0] 46)) HMC.out hm12))) | (with_reducible (have HFO := Lib.hid (fo_first (A := (.cells #[.int .i64 0, .int .i64 0] 46)) HMC.out hm12))) | (with_reducible (have HFO := Lib.hid (fo_second (A := (.cells #[.int .i64 0, .int .i64 0] 46)) HMC.out hm12))) | skip); (replace HMC : Hid (Mod (fun _ => False) W7 w12) := Lib.hid (Mod.trans (by (repeat (with_reducible (first | exact HMC.out | exact Mod.refl _ _ | refine Mod.drew ?_ | refine Mod.alloc ?_ _))); done) hm12)); clear hm12 hc12 hx12)
     | (go_at_call 11; (with_reducible refine (HC7.out _ (by (repeat (with_reducible (first | exact HMC.out | exact Mod.refl _ _ | refine Mod.drew ?_ | refine Mod.alloc ?_ _))); done)).mono ?_); (rintro e w11 ⟨a11, n11, c11, ms11, rfl, hm11, hc11, hx11⟩); have HCO := Lib.hid (And.intro hc11 hx11); (first | have HEO := Lib.hid (hm11.heap (em_oneD W7 (.cells #[.int .u8 (yc : Int), .int .u32 (yq : Int), .int .u8 (ykind : Int), .slice yo yno yoc, .int .u32 (yrv : Int), .int .i64 yrk, .int .i64 yrd, .int .i64 ye, .int .i64 yp, .slice yv ynv yvc, .slice yl ynl ylc, .int .i64 yfr, .int .i64 yto] 44)) (fun f => f)) | have HEO := Lib.hid (hm11.heap (em_firstD W7 (.cells #[.int .u8 (yc : Int), .int .u32 (yq : Int), .int .u8 (ykind : Int), .slice yo yno yoc, .int .u32 (yrv : Int), .int .i64 yrk, .int .i64 yrd, .int .i64 ye, .int .i64 yp, .slice yv ynv yvc, .slice yl ynl ylc, .int .i64 yfr, .int .i64 yto] 44) _) (fun f => f)) | have HEO := Lib.hid (hm11.heap (em_secondD W7 _ (.cells #[.int .u8 (yc : Int), .int .u32 (yq : Int), .int .u8 (ykind : Int), .slice yo yno yoc, .int .u32 (yrv : Int), .int .i64 yrk, .int .i64 yrd, .int .i64 ye, .int .i64 yp, .slice yv ynv yvc, .slice yl ynl ylc, .int .i64 yfr, .int .i64 yto] 44)) (fun f => f)) | skip); (try replace HRE := Lib.hid (And.intro (HRE.out.1.keep (Mod.trans (by (repeat (with_reducible (first | exact Mod.refl _ _ | refine Mod.drew ?_ | refine Mod.alloc ?_ _))); done) hm11)) HRE.out.2)); (first | (with_reducible (replace HFO := Lib.hid (fo_same HFO.out hm11))) | (with_reducible (replace HFO := Lib.hid (fo_keep HFO.out hm11))) | (with_reducible (have HFO := Lib.hid (fo_oneD (A := (.cells #[.int .i64 0, .int .i64 0] 46)) (Mod.refl _ W7) hm11))) | (with_reducible (have HFO := Lib.hid (fo_firstD (A := (.cells #[.int .i64 0, .int .i64 0] 46)) (Mod.refl _ W7) hm11))) | (with_reducible (have HFO := Lib.hid (fo_secondD (A := (.cells #[.int .i64 0, .int .i64 0] 46)) (Mod.refl _ W7) hm11))) | (with_reducible (have HFO := Lib.hid (fo_one (A := (.cells #[.int .i64 0, .int .i64 0] 46)) HMC.out hm11))) | (with_reducible (have HFO := Lib.hid (fo_first (A := (.cells #[.int .i64 0, .int .i64 0] 46)) HMC.out hm11))) | (with_reducible (have HFO := Lib.hid (fo_second (A := (.cells #[.int .i64 0, .int .i64 0] 46)) HMC.out hm11))) | skip); (replace HMC : Hid (Mod (fun _ => False) W7 w11) := Lib.hid (Mod.trans (by (repeat (with_reducible (first | exact HMC.out | exact Mod.refl _ _ | refine Mod.drew ?_ | refine Mod.alloc ?_ _))); done) hm11)); clear hm11 hc11 hx11)))
 all_goals
   first
     | exact H _ _ _ _ _ _ _ _ _ _ _ _ (HMC.out.alloc _) (heap_alloc_new' _ _)
     | exact H _ _ _ _ _ _ _ _ _ _ _ _ (fault_end HMC.out HFO.out).1 (fault_end HMC.out HFO.out).2
end Go.Proofs.YtpigipgoopeeoaaGreatDoor
