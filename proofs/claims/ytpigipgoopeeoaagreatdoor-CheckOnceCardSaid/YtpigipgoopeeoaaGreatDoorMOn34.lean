import Derived.Test.YtpigipgoopeeoaaGreatDoorMOn33
set_option linter.unusedVariables false
set_option linter.unusedSimpArgs false
namespace Go.Proofs.YtpigipgoopeeoaaGreatDoor
open Go.RowKit Go.Maps
section
variable {P : Program} {w : World} {e : TypeId}
theorem run_append_fresh (t ty : TypeId) (i : TypeInfo) (z : Value) (size bytes : Nat) (ht : P.underlying t = some (.slice e)) (hi : P.info? e = some i) (hz : i.zero = some z)
   (hsize : i.size = size) (hby : i.bytes = bytes) (hzs : z.cells.size = size) (hsz : 0 < size)
   {g : Nat} (hg : w.heap[g]? = some (.cells #[] e (0, 0))) (x : Value) (m : Nat) (news : List Value) (hx : Src w size x m news)
   (h63 : m ≤ maxLen) (hbytes : m * bytes ≤ 140737488355328) :
   ∃ v' w', (Builtin.append_ #[t, t] ty #[.slice (some ⟨g, 0, none⟩) 0 0, x]).run P w = .ok v' w' ∧ Seg w' e size v' m news ∧ Mod (fun _ => False) w w' ∧ (v'.ownBlock = some g ∨ v'.ownBlock = some w.heap.size) := by
 have hown : Seg w e size (.slice (some ⟨g, 0, none⟩) 0 0) 0 [] := ⟨by simp, by simp, .inr ⟨g, 0, 0, #[], rfl, hg, Nat.le_refl _, Nat.zero_le _, by simp, by simp⟩⟩
 obtain ⟨v', w', hr, hs, hgr, ho⟩ := run_append_seg (P := P) t ty i z size bytes ht hi hz hsize hby hzs hsz hown x m news hx (by omega) (by rw [Nat.zero_add]; exact hbytes)
 refine ⟨v', w', hr, by simpa using hs, ⟨hgr.os, hgr.tape, hgr.output, hgr.size, fun k hk _ => ?_⟩, ho⟩
 by_cases hkg : k = g
 · subst hkg
   by_cases hm : m = 0
   · subst hm
     subst hsize
     have hn : news = [] := List.eq_nil_of_length_eq_zero (by simpa using hx.1)
     subst hn
     have hr2 : (Builtin.append_ #[t, t] ty #[.slice (some ⟨k, 0, none⟩) 0 0, x]).run P w = .ok (.slice (some ⟨k, 0, none⟩) 0 0) w := by
       rcases hx.2.2 with ⟨rfl, _⟩ | ⟨a, c, rfl, hnews⟩
       · simp [Builtin.append_, run_underlying ht, sizeOf, typeInfo, hi, Builtin.lenOf, Builtin.firstCells, storeCells]
       · have hf := run_firstCells_some (P := P) w i.size 0 a 0 c [] hx.1 hnews
         simp [Builtin.append_, run_underlying ht, sizeOf, typeInfo, hi, Builtin.lenOf, storeCells, hf]
     rw [hr2] at hr
     injection hr with _ h2
     rw [← h2]
   · rcases hx.2.2 with ⟨_, h0⟩ | ⟨a, c, rfl, hnews⟩
     · exact absurd h0 hm
     · subst hsize hby
       have hr2 := run_append_grow (P := P) w t ty e i z ht hi hz ⟨k, 0, none⟩ 0 0 [] (by simp) (fun j u hu => by simp at hu) a m c news hx.1 hnews (by omega) (by simp only [maxLen] at h63; omega) (growslice_fits (by omega) (by rw [Nat.zero_add]; exact hbytes))
       rw [hr2] at hr
       injection hr with _ h2
       rw [← h2]
       exact heap_alloc_old' w.drew _ k hk
 · exact hgr.block k hk (fun e => hkg (by injection e))
theorem step_append_fresh {ops : Array Oper} {o : Oper} {a : Act} {K : Act → World → Prop} {Q : Exit → Act → World → Prop} {E : Prop} (hgd : o.guard = none) (s x : Operand) (t : TypeId)
   (ho : o.op = .call { callee := .builtin .append, args := #[s, x], argTypes := #[t, t] })
   (i : TypeInfo) (z : Value) (size bytes : Nat) (ht : P.underlying t = some (.slice e)) (hi : P.info? e = some i) (hz : i.zero = some z)
   (hsize : i.size = size) (hby : i.bytes = bytes) (hzs : z.cells.size = size) (hsz : 0 < size)
   (g : Nat) (hs : a.eval s = .slice (some ⟨g, 0, none⟩) 0 0) (hg : w.heap[g]? = some (.cells #[] e (0, 0))) (xv : Value) (m : Nat) (news : List Value) (hx : a.eval x = xv) (hsrc : Src w size xv m news)
   (h63 : m ≤ maxLen) (hbytes : m * bytes ≤ 140737488355328)
   (h : ∀ v' w', Seg w' e size v' m news → Mod (fun _ => False) w w' → (v'.ownBlock = some g ∨ v'.ownBlock = some w.heap.size) → K (a.put o.dst v') w') :
   if Region.wanted o (yielded ops a.tmps) = true then Oper.wp P o a w K Q else E := by
 have hw : Region.wanted o (yielded ops a.tmps) = true := by simp [Region.wanted, hgd]
 rw [if_pos hw]
 obtain ⟨v', w', hr, h2, h3, h4⟩ := run_append_fresh (P := P) t o.type i z size bytes ht hi hz hsize hby hzs hsz hg xv m news hsrc h63 hbytes
 unfold Oper.wp execOp
 simp only [ho, resolve, invoke, builtin, Sem.run_bind, Sem.run_pure, Result.andThen_ok, List.map_toArray, List.map_cons, List.map_nil, hs, hx, hr]
 exact h v' w' h2 h3 h4
end
structure Cm.Small (c : Cm) : Prop where
 ops : c.x.r.ops.length * 48 ≤ 140737488355328
 vals : c.x.vals.length * 32 ≤ 140737488355328
 list : c.x.list.length * 4 ≤ 140737488355328
def Cm.St (S : Nat → Prop) (w : World) (c : Cm) : Prop := ∀ w', Mod S w w' → c.Rd w'
theorem Cm.St.rd {S : Nat → Prop} {w : World} {c : Cm} (h : c.St S w) : c.Rd w := h w (Mod.refl _ _)
structure CBf (cells : Cm → List Value) (size : Nat) (t : TypeId) (w0 : World) (v : Value) (l : List Cm) (wr : World) : Prop where
 mod : Mod (fun _ => False) w0 wr
 row : Seg wr t size v l.length (l.flatMap cells)
 st : ∀ c ∈ l, c.St (fun k => v.ownBlock = some k) wr
 oa : ∀ b, v.ownBlock = some b → w0.heap.size ≤ b
section
variable {cells : Cm → List Value} {size : Nat} {t : TypeId} {w0 wr wx w3 w5 : World} {v v3 : Value} {l : List Cm}
theorem CBf.start (w0 : World) : CBf cells size t w0 (.slice none 0 0) [] w0 := ⟨Mod.refl _ _, Seg.nil _ _ _, fun c hc => by simp at hc, fun b hb => by simp [Value.ownBlock] at hb⟩
theorem CBf.crd (h : CBf cells size t w0 v l wr) : CRd cells size wr v l := ⟨h.row.rdS, fun c hc => (h.st c hc).rd⟩
theorem CBf.keep (h : CBf cells size t w0 v l wr) (m : Mod (fun _ => False) wr wx) : CBf cells size t w0 v l wx :=
 ⟨h.mod.trans m, h.row.mod m (fun _ _ f => f), fun c hc w' m' => h.st c hc w' ((m.mono (fun _ _ f => f.elim)).trans m'), h.oa⟩
theorem CBf.from (h : CBf cells size t w0 v l wr) {wa : World} (m : Mod (fun _ => False) wa w0) : CBf cells size t wa v l wr := ⟨m.trans h.mod, h.row, h.st, fun b hb => Nat.le_trans m.size (h.oa b hb)⟩
theorem CBf.next (h : CBf cells size t w0 v l w5) {c : Cm} (hc : c.St (fun k => v.ownBlock = some k) w5) (hs : Seg w3 t size v3 (l.length + 1) (l.flatMap cells ++ cells c)) (hg : w5.grownBy w3 v.ownBlock) (ho : v3.ownBlock = v.ownBlock ∨ v3.ownBlock = some w5.heap.size) : CBf cells size t w0 v3 (l ++ [c]) w3 := by
 have m53 : Mod (fun k => v.ownBlock = some k) w5 w3 := (Mod.refl _ w5).grown hg (fun b hb _ => hb)
 refine ⟨h.mod.grown hg (fun b hb hlt => by have := h.oa b hb; omega), by rw [List.length_append, List.flatMap_append]; simpa using hs, fun d hd w' m' => ?_, fun b hb => ?_⟩
 · have hd' : d.St (fun k => v.ownBlock = some k) w5 := by
     rcases List.mem_append.1 hd with hd | hd
     · exact h.st d hd
     · rw [List.mem_singleton] at hd; rw [hd]; exact hc
   refine hd' w' (m53.trans' m' (fun i hi e => ?_))
   rcases ho with e' | e'
   · exact e'.symm.trans e
   · rw [e'] at e; injection e with e; omega
 · rcases ho with e | e
   · exact h.oa b (e ▸ hb)
   · rw [e] at hb; injection hb with hb
     have := h.mod.size; omega
end
theorem Cm.st_new {S : Nat → Prop} {w : World} {c : Cm} (nm : c.x.nm.ok) (hv : c.x.r.v < 4294967296) (hf : ∀ o ∈ c.x.r.ops, o.Fits) (ho : Seg w 79 7 c.vo c.x.r.ops.length (ocells c.x.r.ops)) (hvv : Seg w 77 3 c.vv c.x.vals.length (vvcells c.x.vals)) (hvl : Seg w 32 1 c.vl c.x.list.length (c.x.list.map (keyV .u32)))
   (no : ∀ b, c.vo.ownBlock = some b → ¬ S b) (nv : ∀ b, c.vv.ownBlock = some b → ¬ S b) (nl : ∀ b, c.vl.ownBlock = some b → ¬ S b) : c.St S w := fun w' m =>
 ⟨nm, hv, ⟨(ho.mod m no).rdS, hf⟩, (hvv.mod m nv).rdS, (hvl.mod m nl).rdS⟩
theorem infoDec : (Tryz.prog.info? 67).map (fun i => (i.zero, i.size, i.bytes)) = some (some (.agg #[.int .u8 0, .int .u32 0, .int .u32 0, .int .u8 0, .int .u32 0, .int .u8 0, .slice none 0 0, .int .u32 0, .int .i64 0, .int .i64 0, .int .i64 0, .int .i64 0, .slice none 0 0, .slice none 0 0]), 14, 144) := by kernel_rfl
theorem infoRpl : (Tryz.prog.info? 74).map (fun i => (i.zero, i.size, i.bytes)) = some (some (.agg #[.int .u8 0, .int .u32 0, .int .u8 0, .slice none 0 0, .int .u32 0, .int .i64 0, .int .i64 0, .int .i64 0, .int .i64 0, .slice none 0 0, .slice none 0 0, .int .i64 0, .int .i64 0]), 13, 144) := by kernel_rfl
theorem infoRC : (Tryz.prog.info? 42).map (fun i => (i.zero, i.size, i.bytes)) = some (some (.agg #[.int .u8 0, .int .u32 0, .int .u8 0, .slice none 0 0, .int .u32 0, .int .i64 0, .int .i64 0, .int .i64 0, .int .i64 0, .slice none 0 0, .slice none 0 0]), 11, 128) := by kernel_rfl
open Go.RowKit Go.Maps
structure Four (W2 : World) (r : Array Value) (b1 b2 b3 b4 : Nat) (wx : World) : Prop where
 mod : Mod (fun _ => False) W2 wx
 h1 : wx.heap[b1]? = some (.cells r 44 (0, 0))
 h2 : wx.heap[b2]? = some (.cells r 44 (0, 0))
 h3 : wx.heap[b3]? = some (.cells r 44 (0, 0))
 h4 : wx.heap[b4]? = some (.cells r 44 (0, 0))
 lo : W2.heap.size ≤ b1 ∧ W2.heap.size ≤ b2 ∧ W2.heap.size ≤ b3 ∧ W2.heap.size ≤ b4
 ne : b1 ≠ b2 ∧ b1 ≠ b3 ∧ b1 ≠ b4 ∧ b2 ≠ b3 ∧ b2 ≠ b4 ∧ b3 ≠ b4
abbrev fourOps : Array Oper := #[{ dst := some 91, op := Op.load 44 (Operand.tmp 11), type := 44, pos := "law.go:175", after := #[], guard := none },
 { dst := some 92, op := Op.load 44 (Operand.tmp 11), type := 44, pos := "law.go:175", after := #[{ on := 8, ground := Ground.gcOnly Departure.lateStores }], guard := none },
 { dst := some 93, op := Op.load 44 (Operand.tmp 11), type := 44, pos := "law.go:175", after := #[{ on := 9, ground := Ground.gcOnly Departure.lateStores }], guard := none },
 { dst := some 94, op := Op.load 44 (Operand.tmp 11), type := 44, pos := "law.go:175", after := #[{ on := 10, ground := Ground.gcOnly Departure.lateStores }], guard := none },
 { dst := some 12, op := Op.alloc 44, type := 0, pos := "law.go:175", after := #[], guard := none },
 { dst := some 13, op := Op.alloc 44, type := 0, pos := "law.go:175", after := #[], guard := none },
 { dst := some 14, op := Op.alloc 44, type := 0, pos := "law.go:175", after := #[], guard := none },
 { dst := some 15, op := Op.alloc 44, type := 0, pos := "law.go:175", after := #[], guard := none },
 { dst := none, op := Op.store 44 (Operand.tmp 12) (Operand.tmp 91), type := 0, pos := "law.go:175", after := #[{ on := 4, ground := Ground.data }, { on := 0, ground := Ground.data }, { on := 0, ground := Ground.phase }, { on := 1, ground := Ground.textOnly Departure.lateStores }, { on := 2, ground := Ground.textOnly Departure.lateStores }, { on := 3, ground := Ground.textOnly Departure.lateStores }, { on := 4, ground := Ground.phase }, { on := 5, ground := Ground.phase }, { on := 6, ground := Ground.phase }, { on := 7, ground := Ground.phase }], guard := none },
 { dst := none, op := Op.store 44 (Operand.tmp 13) (Operand.tmp 92), type := 0, pos := "law.go:175", after := #[{ on := 5, ground := Ground.data }, { on := 1, ground := Ground.data }, { on := 8, ground := Ground.chain }, { on := 0, ground := Ground.phase }, { on := 1, ground := Ground.phase }, { on := 2, ground := Ground.textOnly Departure.lateStores }, { on := 3, ground := Ground.textOnly Departure.lateStores }, { on := 4, ground := Ground.phase }, { on := 5, ground := Ground.phase }, { on := 6, ground := Ground.phase }, { on := 7, ground := Ground.phase }, { on := 8, ground := Ground.phase }], guard := none },
 { dst := none, op := Op.store 44 (Operand.tmp 14) (Operand.tmp 93), type := 0, pos := "law.go:175", after := #[{ on := 6, ground := Ground.data }, { on := 2, ground := Ground.data }, { on := 9, ground := Ground.chain }, { on := 0, ground := Ground.phase }, { on := 1, ground := Ground.phase }, { on := 2, ground := Ground.phase }, { on := 3, ground := Ground.textOnly Departure.lateStores }, { on := 4, ground := Ground.phase }, { on := 5, ground := Ground.phase }, { on := 6, ground := Ground.phase }, { on := 7, ground := Ground.phase }, { on := 8, ground := Ground.phase }, { on := 9, ground := Ground.phase }], guard := none },
 { dst := none, op := Op.store 44 (Operand.tmp 15) (Operand.tmp 94), type := 0, pos := "law.go:175", after := #[{ on := 7, ground := Ground.data }, { on := 3, ground := Ground.data }, { on := 10, ground := Ground.chain }, { on := 0, ground := Ground.phase }, { on := 1, ground := Ground.phase }, { on := 2, ground := Ground.phase }, { on := 3, ground := Ground.phase }, { on := 4, ground := Ground.phase }, { on := 5, ground := Ground.phase }, { on := 6, ground := Ground.phase }, { on := 7, ground := Ground.phase }, { on := 8, ground := Ground.phase }, { on := 9, ground := Ground.phase }, { on := 10, ground := Ground.phase }], guard := none }]
abbrev zrep : Array Value := #[.int .u8 0, .int .u32 0, .int .u8 0, .slice none 0 0, .int .u32 0, .int .i64 0, .int .i64 0, .int .i64 0, .int .i64 0, .slice none 0 0, .slice none 0 0, .int .i64 0, .int .i64 0]
theorem put_get (a : Act) (d j : Nat) (v : Value) (h : d < a.tmps.size) : (a.put (some d) v).tmps[j]? = if d = j then some v else a.tmps[j]? := by
 simp only [Act.put, Array.getElem?_setIfInBounds]
 split
 · simp [h]
 · rfl
theorem getD_set (ls : Array Bool) (k j : Nat) (h : k < ls.size) : (ls.setIfInBounds k true).getD j false = if k = j then true else ls.getD j false := by
 simp only [Array.getD_eq_getD_getElem?, Array.getElem?_setIfInBounds]
 split
 · simp [h]
 · rfl
theorem put_dfs (a : Act) (d : Option Tmp) (v : Value) : (a.put d v).defers = a.defers := by cases d <;> rfl
theorem act_ext {a b : Act} (h1 : a.tmps = b.tmps) (h2 : a.defers = b.defers) : a = b := by
 cases a
 cases b
 simp only at h1 h2
 rw [h1, h2]
def isPtr (b : Nat) : Value := .pointer (some ⟨b, 0, none⟩)
structure FInv (a0 : Act) (W : World) (r : Array Value) (ls : Array Bool) (a : Act) (w : World) : Prop where
 size : ls.size = 12
 mod : Mod (fun _ => False) W w
 tsz : a.tmps.size = a0.tmps.size
 dfs : a.defers = a0.defers
 same : ∀ j, j ≠ 12 → j ≠ 13 → j ≠ 14 → j ≠ 15 → j ≠ 91 → j ≠ 92 → j ≠ 93 → j ≠ 94 → a.tmps[j]? = a0.tmps[j]?
 ld : ∀ i, i < 4 → ls.getD i false = true → a.tmps[91 + i]? = some (.agg r)
 st : ∀ i, i < 4 → ls.getD (8 + i) false = true → ls.getD (4 + i) false = true
 al : ∃ B : Nat → Nat, (∀ i, i < 4 → ls.getD (4 + i) false = true → a.tmps[12 + i]? = some (isPtr (B i)) ∧ W.heap.size ≤ B i ∧ w.heap[B i]? = some (.cells (if ls.getD (8 + i) false = true then r else zrep) 44 (0, 0))) ∧ ∀ i j, i < 4 → j < 4 → i ≠ j → ls.getD (4 + i) false = true → ls.getD (4 + j) false = true → B i ≠ B j
section
variable {a0 a : Act} {W w : World} {r : Array Value} {ls : Array Bool}
theorem FInv.load (h : FInv a0 W r ls a w) (hs : a0.tmps.size = 200) {i : Nat} (hi : i < 4) : FInv a0 W r (ls.setIfInBounds i true) (a.put (some (91 + i)) (.agg r)) w := by
 have hz := h.size
 have hd : 91 + i < a.tmps.size := by rw [h.tsz, hs]; omega
 obtain ⟨B, h1, h2⟩ := h.al
 refine ⟨by rw [Array.size_setIfInBounds]; exact hz, h.mod, by simp only [Act.put, Array.size_setIfInBounds]; exact h.tsz, h.dfs, fun j => ?_, fun j hj hl => ?_, fun j hj hl => ?_, B, fun j hj hl => ?_, fun j k hj hk hne hl hl' => ?_⟩
 · intros
   rw [put_get _ _ _ _ hd, if_neg (by omega)]
   exact h.same j ‹_› ‹_› ‹_› ‹_› ‹_› ‹_› ‹_› ‹_›
 · rw [put_get _ _ _ _ hd]
   by_cases e : i = j
   · rw [if_pos (by omega)]
   · rw [if_neg (by omega)]
     rw [getD_set _ _ _ (by omega), if_neg e] at hl
     exact h.ld j hj hl
 · rw [getD_set _ _ _ (by omega), if_neg (by omega)] at hl ⊢
   exact h.st j hj hl
 · rw [getD_set _ _ _ (by omega), if_neg (by omega)] at hl
   rw [put_get _ _ _ _ hd, if_neg (by omega), getD_set _ _ _ (by omega), if_neg (show ¬ i = 8 + j by omega)]
   exact h1 j hj hl
 · rw [getD_set _ _ _ (by omega), if_neg (by omega)] at hl hl'
   exact h2 j k hj hk hne hl hl'
theorem FInv.alloc (h : FInv a0 W r ls a w) (hs : a0.tmps.size = 200) {i : Nat} (hi : i < 4) (hun : ls.getD (8 + i) false = false) : FInv a0 W r (ls.setIfInBounds (4 + i) true) (a.put (some (12 + i)) (isPtr w.heap.size)) (w.alloc (.cells zrep 44)) := by
 have hz := h.size
 have hd : 12 + i < a.tmps.size := by rw [h.tsz, hs]; omega
 obtain ⟨B, h1, h2⟩ := h.al
 have hlt : ∀ j, j < 4 → ls.getD (4 + j) false = true → B j < w.heap.size := fun j hj hl => lt_of_block (h1 j hj hl).2.2
 refine ⟨by rw [Array.size_setIfInBounds]; exact hz, h.mod.alloc _, by simp only [Act.put, Array.size_setIfInBounds]; exact h.tsz, h.dfs, fun j => ?_, fun j hj hl => ?_, fun j hj hl => ?_, fun j => if j = i then w.heap.size else B j, fun j hj hl => ?_, fun j k hj hk hne hl hl' => ?_⟩
 · intros
   rw [put_get _ _ _ _ hd, if_neg (by omega)]
   exact h.same j ‹_› ‹_› ‹_› ‹_› ‹_› ‹_› ‹_› ‹_›
 · rw [getD_set _ _ _ (by omega), if_neg (by omega)] at hl
   rw [put_get _ _ _ _ hd, if_neg (by omega)]
   exact h.ld j hj hl
 · rw [getD_set _ _ _ (by omega), if_neg (by omega)] at hl
   rw [getD_set _ _ _ (by omega)]
   split
   · rfl
   · exact h.st j hj hl
 · dsimp only
   rw [put_get _ _ _ _ hd, getD_set _ _ _ (by omega), if_neg (show ¬ 4 + i = 8 + j by omega)]
   by_cases e : j = i
   · subst e
     simp only [if_true, hun, Bool.false_eq_true, if_false]
     exact ⟨trivial, h.mod.size, heap_alloc_new' _ _⟩
   · rw [if_neg (by omega), if_neg e]
     rw [getD_set _ _ _ (by omega), if_neg (by omega)] at hl
     obtain ⟨g1, g2, g3⟩ := h1 j hj hl
     exact ⟨g1, g2, heap_alloc_old g3⟩
 · rw [getD_set _ _ _ (by omega)] at hl hl'
   simp only
   by_cases ej : j = i
   · have ek : k ≠ i := by omega
     rw [if_pos ej, if_neg ek]
     rw [if_neg (by omega)] at hl'
     have := hlt k hk hl'
     omega
   · rw [if_neg ej]
     rw [if_neg (by omega)] at hl
     by_cases ek : k = i
     · rw [if_pos ek]
       have := hlt j hj hl
       omega
     · rw [if_neg ek]
       rw [if_neg (by omega)] at hl'
       exact h2 j k hj hk hne hl hl'
theorem mod_setRow {w : World} {g : Nat} {S : Nat → Prop} (h : S g) (c : Array Value) : Mod S w (w.setRow g c) :=
 ⟨rfl, rfl, rfl, by simp [World.setRow], fun k hk hn => setRow_other w g k c (fun e => hn (e ▸ h))⟩
theorem FInv.store (h : FInv a0 W r ls a w) {i : Nat} (hi : i < 4) (hal : ls.getD (4 + i) false = true) : ∃ b, a.tmps[12 + i]? = some (isPtr b) ∧ (∃ old, w.heap[b]? = some (.cells old 44 (0, 0)) ∧ (old = r ∨ old = zrep)) ∧ FInv a0 W r (ls.setIfInBounds (8 + i) true) a (w.setRow b r) := by
 have hz := h.size
 obtain ⟨B, h1, h2⟩ := h.al
 obtain ⟨g1, g2, g3⟩ := h1 i hi hal
 refine ⟨B i, g1, ⟨_, g3, by split <;> simp⟩, by rw [Array.size_setIfInBounds]; exact hz, h.mod.trans' (mod_setRow (S := fun k => k = B i) rfl r) (fun k hk e => by omega), h.tsz, h.dfs, h.same, fun j hj hl => ?_, fun j hj hl => ?_, B, fun j hj hl => ?_, fun j k hj hk hne hl hl' => ?_⟩
 · rw [getD_set _ _ _ (by omega), if_neg (by omega)] at hl
   exact h.ld j hj hl
 · rw [getD_set _ _ _ (by omega), if_neg (show ¬ 8 + i = 4 + j by omega)]
   by_cases e : i = j
   · rw [← e]; exact hal
   · rw [getD_set _ _ _ (by omega), if_neg (by omega)] at hl
     exact h.st j hj hl
 · rw [getD_set _ _ _ (by omega), if_neg (by omega)] at hl
   obtain ⟨f1, f2, f3⟩ := h1 j hj hl
   refine ⟨f1, f2, ?_⟩
   rw [getD_set _ _ _ (by omega)]
   by_cases e : i = j
   · subst e
     rw [if_pos (by rw [if_pos rfl])]
     exact setRow_heap w _ _ r _ _ g3
   · rw [if_neg (show ¬ 8 + i = 8 + j by omega), setRow_other w _ _ r (h2 j i hj hi (fun e' => e e'.symm) hl hal)]
     exact f3
 · rw [getD_set _ _ _ (by omega), if_neg (by omega)] at hl hl'
   exact h2 j k hj hk hne hl hl'
end
def fourEnd (a0 : Act) (r : Array Value) (b1 b2 b3 b4 : Nat) : Act := (((((((a0.put (some 91) (.agg r)).put (some 92) (.agg r)).put (some 93) (.agg r)).put (some 94) (.agg r)).put (some 12) (isPtr b1)).put (some 13) (isPtr b2)).put (some 14) (isPtr b3)).put (some 15) (isPtr b4)
set_option maxRecDepth 100000 in
set_option maxHeartbeats 400000 in
theorem FInv.done {a0 a : Act} {W w : World} {r : Array Value} {ls : Array Bool} (h : FInv a0 W r ls a w) (hs : a0.tmps.size = 200) (hall : ∀ i, i < 12 → ls.getD i false = true) : ∃ b1 b2 b3 b4, Four W r b1 b2 b3 b4 w ∧ a = fourEnd a0 r b1 b2 b3 b4 := by
 obtain ⟨B, h1, h2⟩ := h.al
 have g : ∀ i, i < 4 → a.tmps[12 + i]? = some (isPtr (B i)) ∧ W.heap.size ≤ B i ∧ w.heap[B i]? = some (.cells (if ls.getD (8 + i) false = true then r else zrep) 44 (0, 0)) := fun i (hi : i < 4) => h1 i hi (hall (4 + i) (by omega))
 have gc : ∀ i, i < 4 → w.heap[B i]? = some (.cells r 44 (0, 0)) := fun i hi => by
   have := (g i hi).2.2
   rwa [if_pos (hall (8 + i) (by omega))] at this
 have gn : ∀ i j, i < 4 → j < 4 → i ≠ j → B i ≠ B j := fun i j (hi : i < 4) (hj : j < 4) (hne : i ≠ j) => h2 i j hi hj hne (hall (4 + i) (by omega)) (hall (4 + j) (by omega))
 have hf : Four W r (B 0) (B 1) (B 2) (B 3) w := {
   mod := h.mod
   h1 := gc 0 (by omega)
   h2 := gc 1 (by omega)
   h3 := gc 2 (by omega)
   h4 := gc 3 (by omega)
   lo := ⟨(g 0 (by omega)).2.1, (g 1 (by omega)).2.1, (g 2 (by omega)).2.1, (g 3 (by omega)).2.1⟩
   ne := ⟨gn 0 1 (by omega) (by omega) (by omega), gn 0 2 (by omega) (by omega) (by omega), gn 0 3 (by omega) (by omega) (by omega), gn 1 2 (by omega) (by omega) (by omega), gn 1 3 (by omega) (by omega) (by omega), gn 2 3 (by omega) (by omega) (by omega)⟩ }
 refine ⟨B 0, B 1, B 2, B 3, hf, ?_⟩
 have hd : a.defers = (fourEnd a0 r (B 0) (B 1) (B 2) (B 3)).defers := by
   unfold fourEnd
   simp only [put_dfs]
   exact h.dfs
 have ht : a.tmps = (fourEnd a0 r (B 0) (B 1) (B 2) (B 3)).tmps := by
   apply Array.ext_getElem?
   intro j
   have sz : ∀ (a : Act) d v, (a.put (some d) v).tmps.size = a.tmps.size := fun a d v => by simp [Act.put]
   unfold fourEnd
   rw [put_get _ 15 j _ (by simp only [sz, hs]; omega), put_get _ 14 j _ (by simp only [sz, hs]; omega), put_get _ 13 j _ (by simp only [sz, hs]; omega), put_get _ 12 j _ (by simp only [sz, hs]; omega), put_get _ 94 j _ (by simp only [sz, hs]; omega), put_get _ 93 j _ (by simp only [sz, hs]; omega), put_get _ 92 j _ (by simp only [sz, hs]; omega), put_get _ 91 j _ (by simp only [sz, hs]; omega)]
   by_cases e15 : 15 = j
   · rw [if_pos e15]; subst e15; exact (g 3 (by omega)).1
   by_cases e14 : 14 = j
   · rw [if_neg e15, if_pos e14]; subst e14; exact (g 2 (by omega)).1
   by_cases e13 : 13 = j
   · rw [if_neg e15, if_neg e14, if_pos e13]; subst e13; exact (g 1 (by omega)).1
   by_cases e12 : 12 = j
   · rw [if_neg e15, if_neg e14, if_neg e13, if_pos e12]; subst e12; exact (g 0 (by omega)).1
   rw [if_neg e15, if_neg e14, if_neg e13, if_neg e12]
   by_cases e94 : 94 = j
   · rw [if_pos e94]; subst e94; exact h.ld 3 (by omega) (hall 3 (by omega))
   by_cases e93 : 93 = j
   · rw [if_neg e94, if_pos e93]; subst e93; exact h.ld 2 (by omega) (hall 2 (by omega))
   by_cases e92 : 92 = j
   · rw [if_neg e94, if_neg e93, if_pos e92]; subst e92; exact h.ld 1 (by omega) (hall 1 (by omega))
   by_cases e91 : 91 = j
   · rw [if_neg e94, if_neg e93, if_neg e92, if_pos e91]; subst e91; exact h.ld 0 (by omega) (hall 0 (by omega))
   rw [if_neg e94, if_neg e93, if_neg e92, if_neg e91]
   exact h.same j (by omega) (by omega) (by omega) (by omega) (by omega) (by omega) (by omega) (by omega)
 exact act_ext ht hd
theorem after_lt : ∀ i, i < 12 → ∀ o, fourOps[i]? = some o → ∀ e ∈ o.after, Region.binds .any e = true → e.on < i := by
 intro i hi o ho e he hb
 have key : ∀ i, i < 12 → ((fourOps[i]?).map fun o => o.after.toList.all fun e => !Region.binds .any e || decide (e.on < i)) = some true := by decide
 have := key i hi
 rw [ho] at this
 simp only [Option.map_some, Option.some.injEq, List.all_eq_true] at this
 have := this e (by simpa using he)
 simp [hb] at this
 exact this
theorem zrep_info : (Tryz.prog.info? 44).map (fun i => (i.zero, i.size, i.bytes)) = some (some (.agg zrep), 13, 144) := by kernel_rfl
theorem wanted_plain {o : Oper} (h : o.guard = none) (y : Nat → Option Bool) : Region.wanted o y = true := by simp [Region.wanted, h]
theorem wpOp_value {P : Program} {ops : Array Oper} {Q : Exit → Act → World → Prop} {K : Act → World → Prop} {a : Act} {w w' : World} {i : Nat} {o : Oper} {v : Value} (ho : ops[i]? = some o) (hg : o.guard = none) (hr : (execOp a.eval o).run P w = .ok (.value v) w') (hK : K (a.put o.dst v) w') : wpOp P ops Q i K a w := by
 unfold wpOp
 rw [ho]
 simp only [wanted_plain hg, if_true]
 refine .inl ?_
 unfold Oper.wp
 rw [hr]
 exact hK
theorem wpOp_skip {P : Program} {ops : Array Oper} {Q : Exit → Act → World → Prop} {K : Act → World → Prop} {a : Act} {w w' : World} {i : Nat} {o : Oper} (ho : ops[i]? = some o) (hg : o.guard = none) (hr : (execOp a.eval o).run P w = .ok .skip w') (hK : K (a.put o.dst undef) w') : wpOp P ops Q i K a w := by
 unfold wpOp
 rw [ho]
 simp only [wanted_plain hg, if_true]
 refine .inl ?_
 unfold Oper.wp
 rw [hr]
 exact hK
section
variable {Q : Exit → Act → World → Prop} {a0 : Act} {W : World} {b5 : Nat} {r : Array Value}
set_option maxRecDepth 100000 in
set_option maxHeartbeats 400000 in
theorem four_any (hs : a0.tmps.size = 200) (h11 : a0.tmps[11]? = some (isPtr b5)) (hb : W.heap[b5]? = some (.cells r 44 (0, 0))) (hr : r.size = 13) (h1 : r.all (·.oneCell') = true)
   (H : ∀ b1 b2 b3 b4 wx, Four W r b1 b2 b3 b4 wx → Q .normal (fourEnd a0 r b1 b2 b3 b4) wx) :
   ∀ (fuel : Nat) (ls : Array Bool) (a : Act) (w : World), FInv a0 W r ls a w → ls.toList.countP (fun b => !b) = fuel → wpAny Tryz.prog .any fourOps Q fuel ls a w := by
 obtain ⟨i1, hi1, hz0, hz2, -⟩ := info_parts zrep_info
 have hsz : (Tryz.prog.info? 44).map (·.size) = some r.size := by rw [hr, hi1, ← hz2]; rfl
 have hz1 : ∀ w, (zeroValue 44).run Tryz.prog w = .ok (.agg zrep) w := fun w => by simp [zeroValue, typeInfo, hi1, hz0]
 have getE : ∀ (a : Act) t v, a.tmps[t]? = some v → a.eval (.tmp t) = v := fun a t v h => by
   show a.tmps.getD t undef = v
   rw [Array.getD_eq_getD_getElem?, h]; rfl
 have fin : ∀ ls a w, FInv a0 W r ls a w → (∀ i, i < 12 → ls.getD i false = true) → Q .normal a w := fun ls a w h hall => by
   obtain ⟨b1, b2, b3, b4, hf, rfl⟩ := h.done hs hall
   exact H b1 b2 b3 b4 w hf
 have allOf : ∀ ls a w, FInv a0 W r ls a w → Region.ready .any fourOps ls = [] → ∀ i, i < 12 → ls.getD i false = true := fun ls a w h hrd i => by
   induction i using Nat.strongRecOn with
   | _ i ih =>
     intro hi
     by_cases hl : ls.getD i false = true
     · exact hl
     · have hlt : i < fourOps.size := hi
       have hm : i ∈ Region.ready .any fourOps ls := by
         rw [mem_ready]
         refine ⟨?_, _, Array.getElem?_eq_getElem hlt, fun e he hbd => ?_⟩
         · have h12 := h.size
           rw [Array.getD_eq_getD_getElem?, Array.getElem?_eq_getElem (by omega)] at hl ⊢
           simpa using hl
         · have := after_lt i hi _ (Array.getElem?_eq_getElem hlt) e he hbd
           exact ih e.on this (by omega)
       rw [hrd] at hm
       cases hm
 intro fuel
 induction fuel with
 | zero =>
   intro ls a w h hc
   have hall : ∀ i, i < 12 → ls.getD i false = true := fun i hi => by
     rw [List.countP_eq_zero] at hc
     have h12 := h.size
     have hlt : i < ls.size := by omega
     have := hc ls[i] (by simp)
     rw [Array.getD_eq_getD_getElem?, Array.getElem?_eq_getElem hlt]
     simpa using this
   refine ⟨?_, fin ls a w h hall⟩
   rw [List.eq_nil_iff_forall_not_mem]
   intro i hi
   rw [mem_ready] at hi
   obtain ⟨h2, o, ho, -⟩ := hi
   have hlt : i < 12 := (Array.getElem?_eq_some_iff.1 ho).1
   have h12 := h.size
   have := hall i hlt
   rw [Array.getD_eq_getD_getElem?, Array.getElem?_eq_getElem (by omega)] at this h2
   simp at this h2
   rw [this] at h2
   cases h2
 | succ fuel ih =>
   intro ls a w h hc
   refine ⟨fun hrd => fin ls a w h (allOf ls a w h hrd), fun i hi => ?_⟩
   rw [mem_ready] at hi
   obtain ⟨hun, o, ho, hafter⟩ := hi
   have hlt : i < 12 := (Array.getElem?_eq_some_iff.1 ho).1
   have h12 := h.size
   have hcnt : (ls.setIfInBounds i true).toList.countP (fun b => !b) = fuel := by
     have hil : i < ls.toList.length := by simpa [h12] using hlt
     have hv : ls.toList[i] = false := by
       rw [Array.getD_eq_getD_getElem?, Array.getElem?_eq_getElem (by omega)] at hun
       simpa using hun
     rw [Array.toList_setIfInBounds, List.countP_set hil, hc, hv]
     simp
   have h11a : a.eval (.tmp 11) = isPtr b5 := getE a 11 _ ((h.same 11 (by omega) (by omega) (by omega) (by omega) (by omega) (by omega) (by omega) (by omega)).trans h11)
   have hbw : w.heap[b5]? = some (.cells r 44 (0, 0)) := h.mod.heap hb (fun f => f)
   have hunf : ls.getD i false = false := by
     rw [Array.getD_eq_getD_getElem?, Array.getElem?_eq_getElem (by omega)] at hun ⊢
     exact hun
   have hload : ∀ o : Oper, o.op = .load 44 (.tmp 11) → (execOp a.eval o).run Tryz.prog w = .ok (.value (.agg r)) w := fun o ho => by
     have := run_loadVar_row (P := Tryz.prog) w b5 44 44 r (0, 0) _ hbw Tryz.underlying44 rfl hsz
     simp only [execOp, ho, h11a, isPtr, Instr.loadAt, Instr.sureAddr, Sem.run_bind, Sem.run_pure, Result.andThen_ok, this]
   have halloc : ∀ o : Oper, o.op = .alloc 44 → (execOp a.eval o).run Tryz.prog w = .ok (.value (isPtr w.heap.size)) (w.alloc (.cells zrep 44)) := fun o ho => by
     simp [execOp, ho, Instr.alloc, hz1 w, newVar, newRow, newObj, Value.cells, isPtr]
     rfl
   have hstore : ∀ (o : Oper) k, k < 4 → ls.getD (4 + k) false = true → ls.getD k false = true → o.op = .store 44 (.tmp (12 + k)) (.tmp (91 + k)) → ∃ w', (execOp a.eval o).run Tryz.prog w = .ok .skip w' ∧ FInv a0 W r (ls.setIfInBounds (8 + k) true) a w' := fun o k hk hl4 hl0 ho => by
     obtain ⟨b, e1, ⟨old, hold, hor⟩, hinv⟩ := h.store hk hl4
     have e2 := getE a _ _ e1
     have e3 := getE a _ _ (h.ld k hk hl0)
     have hos : old.size = r.size := by rcases hor with rfl | rfl; rfl; rw [hr]; rfl
     have := run_storeVar_row (P := Tryz.prog) w b 44 44 old r hold hsz hos h1
     refine ⟨_, ?_, hinv⟩
     simp only [execOp, ho, e2, e3, isPtr, Instr.storeAt, Instr.sureAddr, Sem.run_bind, Sem.run_pure, Result.andThen_ok, this]
   have unst : ∀ k, k < 4 → i = 4 + k → ls.getD (8 + k) false = false := fun k hk e => by
     cases hst : ls.getD (8 + k) false with
     | false => rfl
     | true =>
       have := h.st k hk hst
       rw [← e, hunf] at this
       cases this
   have bnd : ∀ (j : Nat) (o' : Oper) (e : Edge), fourOps[i]? = some o' → e ∈ o'.after → e.ground = .data → ls.getD e.on false = true := fun j o' e ho' he hg => by
     have e1 : o = o' := Option.some.inj (ho.symm.trans ho')
     exact hafter e (e1 ▸ he) (by simp [Region.binds, hg])
   have hcases : i = 0 ∨ i = 1 ∨ i = 2 ∨ i = 3 ∨ i = 4 ∨ i = 5 ∨ i = 6 ∨ i = 7 ∨ i = 8 ∨ i = 9 ∨ i = 10 ∨ i = 11 := by omega
   rcases hcases with rfl | rfl | rfl | rfl | rfl | rfl | rfl | rfl | rfl | rfl | rfl | rfl
   · exact wpOp_value rfl rfl (hload _ rfl) (ih _ _ _ (h.load hs (i := 0) (by omega)) hcnt)
   · exact wpOp_value rfl rfl (hload _ rfl) (ih _ _ _ (h.load hs (i := 1) (by omega)) hcnt)
   · exact wpOp_value rfl rfl (hload _ rfl) (ih _ _ _ (h.load hs (i := 2) (by omega)) hcnt)
   · exact wpOp_value rfl rfl (hload _ rfl) (ih _ _ _ (h.load hs (i := 3) (by omega)) hcnt)
   · exact wpOp_value rfl rfl (halloc _ rfl) (ih _ _ _ (h.alloc hs (i := 0) (by omega) (unst 0 (by omega) rfl)) hcnt)
   · exact wpOp_value rfl rfl (halloc _ rfl) (ih _ _ _ (h.alloc hs (i := 1) (by omega) (unst 1 (by omega) rfl)) hcnt)
   · exact wpOp_value rfl rfl (halloc _ rfl) (ih _ _ _ (h.alloc hs (i := 2) (by omega) (unst 2 (by omega) rfl)) hcnt)
   · exact wpOp_value rfl rfl (halloc _ rfl) (ih _ _ _ (h.alloc hs (i := 3) (by omega) (unst 3 (by omega) rfl)) hcnt)
   · obtain ⟨w', hr', hv'⟩ := hstore fourOps[8] 0 (by omega) (bnd 0 _ { on := 4, ground := .data } rfl (by simp) rfl) (bnd 0 _ { on := 0, ground := .data } rfl (by simp) rfl) rfl
     exact wpOp_skip rfl rfl hr' (ih _ _ _ hv' hcnt)
   · obtain ⟨w', hr', hv'⟩ := hstore fourOps[9] 1 (by omega) (bnd 0 _ { on := 5, ground := .data } rfl (by simp) rfl) (bnd 0 _ { on := 1, ground := .data } rfl (by simp) rfl) rfl
     exact wpOp_skip rfl rfl hr' (ih _ _ _ hv' hcnt)
   · obtain ⟨w', hr', hv'⟩ := hstore fourOps[10] 2 (by omega) (bnd 0 _ { on := 6, ground := .data } rfl (by simp) rfl) (bnd 0 _ { on := 2, ground := .data } rfl (by simp) rfl) rfl
     exact wpOp_skip rfl rfl hr' (ih _ _ _ hv' hcnt)
   · obtain ⟨w', hr', hv'⟩ := hstore fourOps[11] 3 (by omega) (bnd 0 _ { on := 7, ground := .data } rfl (by simp) rfl) (bnd 0 _ { on := 3, ground := .data } rfl (by simp) rfl) rfl
     exact wpOp_skip rfl rfl hr' (ih _ _ _ hv' hcnt)
theorem four_region {k : Nat} (hs : a0.tmps.size = 200) (h11 : a0.tmps[11]? = some (isPtr b5)) (hb : W.heap[b5]? = some (.cells r 44 (0, 0))) (hr : r.size = 13) (h1 : r.all (·.oneCell') = true)
   (H : ∀ b1 b2 b3 b4 wx, Four W r b1 b2 b3 b4 wx → Q .normal (fourEnd a0 r b1 b2 b3 b4) wx) : (Code.region k fourOps true).wp Tryz.prog Q a0 W := by
 refine wp_region_any (by kernel_rfl) (four_any hs h11 hb hr h1 H _ _ a0 W.drew ⟨rfl, (Mod.refl _ _).drew, rfl, rfl, fun j => ?_, fun i hi hl => ?_, fun i hi hl => ?_, fun _ => 0, fun i hi hl => ?_, fun i j hi hj _ hl => ?_⟩ rfl)
 · intros; rfl
 all_goals (exfalso; revert hl; simp [Array.getD_eq_getD_getElem?, Array.getElem?_replicate]; try (split <;> rfl))
end
open Go.RowKit Go.Maps
structure BfAt (w2 : World) (v : Value) (bl : List Vs) (wr : World) : Prop where
 mod : Mod (fun _ => False) w2 wr
 la : LOwn wr v bl
 oa : ∀ b, v.ownBlock = some b → w2.heap.size ≤ b
theorem BfAt.start (w2 : World) : BfAt w2 (.slice none 0 0) [] w2 := ⟨Mod.refl _ _, LOwn.nil _, fun b hb => by simp [Value.ownBlock] at hb⟩
theorem BfAt.keep {w2 wr wx : World} {v : Value} {bl : List Vs} (h : BfAt w2 v bl wr) (m : Mod (fun _ => False) wr wx) : BfAt w2 v bl wx := ⟨h.mod.trans m, h.la.mod m ⟨fun _ _ f => f, fun _ _ => ⟨fun _ _ f => f, fun _ _ f => f⟩⟩, h.oa⟩
theorem bf_snoc {w wy : World} {v v' : Value} {l : List Vs} {s : Vs} (h : LOwn w v l) (hv : VOwn w s) (hs : Seg wy 104 4 v' (l.length + 1) (vcells l ++ s.cells)) (hg : w.grownBy wy v.ownBlock) : LOwn wy v' (l ++ [s]) := own_snoc h hv hs hg
theorem BfAt.next {w2 w5 w3 : World} {v v3 : Value} {bl : List Vs} {s : Vs} (h : BfAt w2 v bl w5) (hv : VOwn w5 s) (hs : Seg w3 104 4 v3 (bl.length + 1) (vcells bl ++ s.cells)) (hg : w5.grownBy w3 v.ownBlock) (ho : v3.ownBlock = v.ownBlock ∨ v3.ownBlock = some w5.heap.size) : BfAt w2 v3 (bl ++ [s]) w3 := by
 refine ⟨h.mod.grown hg (fun b hb hlt => by have := h.oa b hb; omega), bf_snoc h.la hv hs hg, fun b hb => ?_⟩
 rcases ho with e | e
 · exact h.oa b (e ▸ hb)
 · rw [e] at hb; injection hb with hb
   have := h.mod.size; omega
theorem Kept.lrd {w w' : World} (h : Kept w w') {v : Value} {l : List Vs} (hr : LRd w v l) : LRd w' v l := ⟨h.rds hr.row, fun s hs => h.vrd (hr.each s hs)⟩
section
open Go.ChangeShapes Go.WideShapes Go.ChangeAt
variable {H : Type} {enc : TypeId × Value → H} {W : World} {base : Nat} {v : Value} {d : DataW H} {p : List MemPlace}
end
theorem ocells_take (l : List Opr) (k : Nat) : (ocells l).take (k * 7) = ocells (l.take k) := by
 induction l generalizing k with
 | nil => simp [ocells]
 | cons s r ih =>
   cases k with
   | zero => simp [ocells]
   | succ k =>
     have : ocells (s :: r) = s.cells ++ ocells r := by simp [ocells]
     have h2 : ocells (s :: r.take k) = s.cells ++ ocells (r.take k) := by simp [ocells]
     rw [this, show (k + 1) * 7 = s.cells.length + k * 7 by rw [opr_cells s]; omega, List.take_length_add_append, List.take_succ_cons, h2, ih]
theorem ORd.to {w : World} {v : Value} {l : List Opr} (h : ORd w v l) {k : Nat} (hk : k ≤ l.length) (kk : IntKind) :
   ∃ a c, (∀ wx, (Instr.slice 31 v none (some (.int kk k)) none).run Tryz.prog wx = .ok (.slice a k c) wx) ∧ ORd w (.slice a k c) (l.take k) := by
 obtain ⟨v', h1, h2, _⟩ := h.row.cut (by omega) (lo := 0) (hi := k) (Nat.zero_le _) hk Tryz.underlying31 (e := 79) (by kernel_rfl) kk kk none (some (.int kk k)) (.inr ⟨rfl, rfl⟩) (.inl rfl)
 obtain ⟨a, c, rfl, -⟩ := h2.shape
 refine ⟨a, c, by simpa using h1, ?_, fun o ho => h.fits o (List.mem_of_mem_take ho)⟩
 rw [ocells_take] at h2
 simpa [List.length_take, Nat.min_eq_left hk] using h2
open Go.RowKit Go.Maps
theorem rf_kept {wr wx : World} {gr : Nat} {L : Gr} (h : ∃ gv l, GrAt wr gr gv l ∧ l.map Vs.x = L) (k : Kept wr wx) : ∃ gv l, GrAt wx gr gv l ∧ l.map Vs.x = L := by
 obtain ⟨gv, l, h1, h2⟩ := h
 exact ⟨gv, l, ⟨k.box h1.box, k.lrd h1.lst⟩, h2⟩
end Go.Proofs.YtpigipgoopeeoaaGreatDoor
