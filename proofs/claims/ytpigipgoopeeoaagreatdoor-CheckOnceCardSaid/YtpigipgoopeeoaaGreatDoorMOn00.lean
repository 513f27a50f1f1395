import Derived.Below
import Derived.OneCell
import Derived.Maps.OwnSet
import Derived.Lib.Hide
import Derived.WalkKit
import Derived.Deep.RegionLaw
import Derived.Deep.QuietTactic
import Derived.BigQuiet
import Derived.Maps.OwnOps
import Derived.Maps.Ext
set_option linter.unusedVariables false
set_option linter.unusedSimpArgs false
namespace Go.Proofs.YtpigipgoopeeoaaGreatDoor
open Go.RowKit
structure Mod (S : Nat → Prop) (w w' : World) : Prop where
 os : w'.os = w.os
 tape : w'.tape = w.tape
 output : w'.output = w.output
 size : w.heap.size ≤ w'.heap.size
 block : ∀ k, k < w.heap.size → ¬ S k → w'.heap[k]? = w.heap[k]?
theorem Mod.refl (S : Nat → Prop) (w : World) : Mod S w w := ⟨rfl, rfl, rfl, Nat.le_refl _, fun _ _ _ => rfl⟩
theorem Mod.trans {S : Nat → Prop} {a b c : World} (h : Mod S a b) (k : Mod S b c) : Mod S a c :=
 ⟨k.os.trans h.os, k.tape.trans h.tape, k.output.trans h.output, Nat.le_trans h.size k.size, fun i hi hs => (k.block i (Nat.lt_of_lt_of_le hi h.size) hs).trans (h.block i hi hs)⟩
theorem Mod.mono {S T : Nat → Prop} {a b : World} (h : Mod S a b) (hs : ∀ k, k < a.heap.size → S k → T k) : Mod T a b :=
 ⟨h.os, h.tape, h.output, h.size, fun i hi ht => h.block i hi (fun s => ht (hs i hi s))⟩
theorem Mod.trans' {S T : Nat → Prop} {a b c : World} (h : Mod S a b) (k : Mod T b c) (hs : ∀ i, i < a.heap.size → T i → S i) : Mod S a c :=
 ⟨k.os.trans h.os, k.tape.trans h.tape, k.output.trans h.output, Nat.le_trans h.size k.size, fun i hi s => (k.block i (Nat.lt_of_lt_of_le hi h.size) (fun t => s (hs i hi t))).trans (h.block i hi s)⟩
theorem Mod.alloc {S : Nat → Prop} {a w : World} (h : Mod S a w) (o : Obj) : Mod S a (w.alloc o) :=
 h.trans' (T := fun _ => False) ⟨rfl, rfl, rfl, by simp, fun k hk _ => Below.heap_alloc _ _ _ hk⟩ (fun _ _ f => f.elim)
theorem Mod.drew {S : Nat → Prop} {a w : World} (h : Mod S a w) : Mod S a w.drew := ⟨h.os, h.tape, h.output, h.size, h.block⟩
theorem Mod.setCell {S : Nat → Prop} {a w : World} (h : Mod S a w) {p : Addr} (hp : p.block < a.heap.size → S p.block) (u : Value) : Mod S a (w.setCell p u) :=
 h.trans' (T := fun k => k = p.block) ⟨rfl, rfl, rfl, by simp [World.setCell], fun k _ hk => Below.heap_setCell _ _ _ _ hk⟩ (fun i hi e => e ▸ hp (e ▸ hi))
theorem Mod.turned {S : Nat → Prop} {a w w' : World} {b : Nat} (h : Mod S a w) (ht : w.mapTurned w' b) (hb : b < a.heap.size → S b) : Mod S a w' := by
 have g := ht.grown
 exact h.trans' (T := fun k => k = b) ⟨g.os, g.tape, g.output, g.size, fun k hk hne => g.block k hk (fun e => hne (by injection e))⟩ (fun i hi e => e ▸ hb (e ▸ hi))
theorem Mod.grown {S : Nat → Prop} {a w w' : World} {r : Option Nat} (h : Mod S a w) (g : w.grownBy w' r) (hb : ∀ b, r = some b → b < a.heap.size → S b) : Mod S a w' :=
 h.trans' (T := fun k => some k = r) ⟨g.os, g.tape, g.output, g.size, fun k hk hne => g.block k hk hne⟩ (fun i hi e => hb i e.symm hi)
theorem Mod.below {S : Nat → Prop} {a w w' : World} (h : Mod S a w) (g : Below w.heap.size w w') : Mod S a w' :=
 h.trans' (T := fun _ => False) ⟨g.os, g.tape, g.output, g.size, fun k hk _ => g.block k hk⟩ (fun _ _ f => f.elim)
theorem Mod.toBelow {S : Nat → Prop} {w w' : World} (h : Mod S w w') {B : Nat} (hB : B ≤ w.heap.size) (hs : ∀ k, k < B → ¬ S k) : Below B w w' :=
 ⟨h.os, h.tape, h.output, h.size, fun k hk => h.block k (by omega) (hs k hk)⟩
theorem Mod.heap {S : Nat → Prop} {w w' : World} (h : Mod S w w') {b : Nat} {o : Obj} (hb : w.heap[b]? = some o) (hs : ¬ S b) : w'.heap[b]? = some o :=
 (h.block b (lt_of_block hb) hs).trans hb
theorem Mod.ownsMap {H : Type} {S : Nat → Prop} {w w' : World} (h : Mod S w w') {P : Program} {k : TypeId} {R : Value → Option (DataW H × List MemPlace)} {b n : Nat} {D : DataW H} (ho : w.ownsMap P k R b n D) (hs : ¬ S b) : w'.ownsMap P k R b n D := by
 have hlt := ho.lt
 obtain ⟨es, clock, hb, F, hn, hD⟩ := ho
 exact ⟨es, clock, (h.block b hlt hs).trans hb, F, hn, hD⟩
theorem cell_of_row {w : World} {b : Nat} {c : Array Value} {t : TypeId} (h : w.heap[b]? = some (.cells c t (0, 0))) (j : Nat) : w.cell? ⟨b, j, none⟩ = c[j]? := by simp [World.cell?, h]
theorem free_of_row {w : World} {b : Nat} {c : Array Value} {t : TypeId} (h : w.heap[b]? = some (.cells c t (0, 0))) (j : Nat) : w.frozen? ⟨b, j, none⟩ = false := by simp [World.frozen?, h]
theorem row_setCell {w : World} {b : Nat} {c : Array Value} {t : TypeId} {f : Nat × Nat} (h : w.heap[b]? = some (.cells c t f)) (j : Nat) (u : Value) : (w.setCell ⟨b, j, none⟩ u).heap[b]? = some (.cells (c.setIfInBounds j u) t f) := by
 have hlt := lt_of_block h
 have h' : w.heap[b] = .cells c t f := by simpa [Array.getElem?_eq_getElem hlt] using h
 show (w.heap.modify b _)[b]? = _
 rw [Array.getElem?_eq_getElem (by simpa using hlt), Array.getElem_modify_self, h']
 rfl
theorem heap_setCell_other (w : World) (a : Addr) (u : Value) (k : Nat) (h : k ≠ a.block) : (w.setCell a u).heap[k]? = w.heap[k]? := Below.heap_setCell _ _ _ _ h
theorem heap_alloc_old {w : World} {b : Nat} {o o' : Obj} (h : w.heap[b]? = some o) : (w.alloc o').heap[b]? = some o := (Below.heap_alloc _ _ _ (lt_of_block h)).trans h
theorem heap_alloc_old' (w : World) (o : Obj) (k : Nat) (h : k < w.heap.size) : (w.alloc o).heap[k]? = w.heap[k]? := Below.heap_alloc _ _ _ h
theorem heap_alloc_new' (w : World) (o : Obj) : (w.alloc o).heap[w.heap.size]? = some o := by
 show (w.heap.push o)[w.heap.size]? = _
 simp
open Go.RowKit
def Seg (w : World) (e : TypeId) (size : Nat) (v : Value) (n : Nat) (xs : List Value) : Prop :=
 xs.length = n * size ∧ (∀ u ∈ xs, u.oneCell' = true) ∧
 ((v = .slice none 0 0 ∧ n = 0) ∨
  ∃ g off cap cur, v = .slice (some ⟨g, off, none⟩) n cap ∧ w.heap[g]? = some (.cells cur e (0, 0)) ∧ n ≤ cap ∧ cap ≤ maxLen ∧ off + cap * size ≤ cur.size ∧ (cur.toList.drop off).take (n * size) = xs)
def Src (w : World) (size : Nat) (x : Value) (m : Nat) (news : List Value) : Prop :=
 news.length = m * size ∧ (∀ u ∈ news, u.oneCell' = true) ∧
 ((x = .slice none 0 0 ∧ m = 0) ∨ ∃ ad c, x = .slice (some ad) m c ∧ ∀ j u, news[j]? = some u → w.cell? (ad.add j) = some u)
variable {w : World} {e : TypeId} {size : Nat} {v : Value} {n : Nat} {xs : List Value}
theorem Seg.nil (w : World) (e : TypeId) (size : Nat) : Seg w e size (.slice none 0 0) 0 [] := ⟨by simp, by simp, .inl ⟨rfl, rfl⟩⟩
theorem addr_add (g off j : Nat) : (⟨g, off, none⟩ : Addr).add j = ⟨g, off + j, none⟩ := by unfold Addr.add; split <;> simp_all
theorem Seg.lit (w : World) (cs : Array Value) (n : Nat) (hs : cs.size = n * size) (hm : n ≤ maxLen) (h1 : ∀ u ∈ cs.toList, u.oneCell' = true) : Seg (w.alloc (.cells cs e)) e size (.slice (some ⟨w.heap.size, 0, none⟩) n n) n cs.toList :=
 ⟨by simpa using hs, h1, .inr ⟨_, 0, n, cs, rfl, heap_alloc_new' w _, Nat.le_refl _, hm, by omega, by simp only [List.drop_zero]; exact List.take_of_length_le (by simp [hs])⟩⟩
theorem Seg.lt (h : Seg w e size v n xs) : ∀ k, v.ownBlock = some k → k < w.heap.size := by
 intro k hk
 rcases h.2.2 with ⟨rfl, _⟩ | ⟨g, off, cap, cur, rfl, hg, _⟩
 · simp [Value.ownBlock] at hk
 · simp [Value.ownBlock] at hk; subst hk; exact lt_of_block hg
theorem Seg.mod {S : Nat → Prop} {w' : World} (h : Seg w e size v n xs) (m : Mod S w w') (hs : ∀ k, v.ownBlock = some k → ¬ S k) : Seg w' e size v n xs := by
 refine ⟨h.1, h.2.1, ?_⟩
 rcases h.2.2 with hn | ⟨g, off, cap, cur, rfl, hg, r⟩
 · exact .inl hn
 · exact .inr ⟨g, off, cap, cur, rfl, m.heap hg (hs g rfl), r⟩
theorem Seg.alloc (h : Seg w e size v n xs) (o : Obj) : Seg (w.alloc o) e size v n xs := h.mod (S := fun _ => False) ((Mod.refl _ _).alloc o) (fun _ _ f => f)
theorem Seg.drew (h : Seg w e size v n xs) : Seg w.drew e size v n xs := h
theorem Seg.open (h : Seg w e size v n xs) (hn : 0 < n) : ∃ g off cap, v = .slice (some ⟨g, off, none⟩) n cap ∧ n ≤ cap ∧ cap ≤ maxLen ∧ g < w.heap.size ∧ ∀ j, j < n * size → w.cell? ⟨g, off + j, none⟩ = xs[j]? ∧ w.frozen? ⟨g, off + j, none⟩ = false := by
 rcases h.2.2 with ⟨_, rfl⟩ | ⟨g, off, cap, cur, rfl, hg, h1, h2, h3, h4⟩
 · omega
 · refine ⟨g, off, cap, rfl, h1, h2, lt_of_block hg, fun j hj => ⟨?_, by simp [World.frozen?, hg]⟩⟩
   rw [cell_of_row hg, ← h4, List.getElem?_take, if_pos hj, List.getElem?_drop]
   simp
theorem Seg.shape (h : Seg w e size v n xs) : ∃ a cap, v = .slice a n cap ∧ n ≤ cap ∧ cap ≤ maxLen := by
 rcases h.2.2 with ⟨rfl, rfl⟩ | ⟨g, off, cap, cur, rfl, hg, h1, h2, _⟩
 · exact ⟨_, _, rfl, Nat.le_refl _, Nat.zero_le _⟩
 · exact ⟨_, _, rfl, h1, h2⟩
theorem Seg.src (h : Seg w e size v n xs) : Src w size v n xs := by
 refine ⟨h.1, h.2.1, ?_⟩
 rcases Nat.eq_zero_or_pos n with rfl | hn
 · rcases h.2.2 with ⟨rfl, _⟩ | ⟨g, off, cap, cur, rfl, _⟩
   · exact .inl ⟨rfl, rfl⟩
   · have := h.1
     simp at this
     exact .inr ⟨_, _, rfl, fun j u hu => by simp [this] at hu⟩
 · obtain ⟨g, off, cap, rfl, _, _, _, hc⟩ := h.open hn
   refine .inr ⟨_, _, rfl, fun j u hu => ?_⟩
   have hj : j < n * size := by rw [← h.1]; exact (List.getElem?_eq_some_iff.1 hu).1
   rw [addr_add, (hc j hj).1, hu]
theorem Src.one (w : World) (cs : Array Value) (t : TypeId) (m : Nat) (c : Nat) (hs : cs.size = m * size) (h1 : ∀ u ∈ cs.toList, u.oneCell' = true) : Src (w.alloc (.cells cs t)) size (.slice (some ⟨w.heap.size, 0, none⟩) m c) m cs.toList :=
 ⟨by simpa using hs, h1, .inr ⟨_, _, rfl, fun j u hu => by rw [addr_add, cell_of_row (heap_alloc_new' w _)]; simpa using hu⟩⟩
theorem take_drop_mid (l news : List Value) (off k : Nat) (h : off + k + news.length ≤ l.length) : ((l.take (off + k) ++ news ++ l.drop (off + k + news.length)).drop off).take (k + news.length) = (l.drop off).take k ++ news := by
 have h1 : (l.take (off + k)).length = off + k := by simp; omega
 rw [List.append_assoc, List.drop_append_of_le_length (by omega), List.drop_take]
 have h2 : ((l.drop off).take k).length = k := by simp; omega
 have e : off + k - off = k := by omega
 rw [e, List.take_append, h2]
 have e2 : k + news.length - k = news.length := by omega
 rw [e2, List.take_append_of_le_length (Nat.le_refl _), List.take_length, List.take_of_length_le (by omega)]
variable {P : Program}
theorem run_append_seg (t ty : TypeId) (i : TypeInfo) (z : Value) (size bytes : Nat) (ht : P.underlying t = some (.slice e)) (hi : P.info? e = some i) (hz : i.zero = some z)
   (hsize : i.size = size) (hby : i.bytes = bytes) (hzs : z.cells.size = size) (hsz : 0 < size)
   (hown : Seg w e size v n xs) (x : Value) (m : Nat) (news : List Value) (hx : Src w size x m news)
   (h63 : n + m ≤ maxLen) (hbytes : (n + m) * bytes ≤ 140737488355328) :
   ∃ v' w', (Builtin.append_ #[t, t] ty #[v, x]).run P w = .ok v' w' ∧ Seg w' e size v' (n + m) (xs ++ news) ∧ w.grownBy w' v.ownBlock ∧ (v'.ownBlock = v.ownBlock ∨ v'.ownBlock = some w.heap.size) := by
 subst hsize
 subst hby
 have hsmall : n + m ≤ 9223372036854775807 := by simp only [maxLen] at h63; omega
 have hlen : (xs ++ news).length = (n + m) * i.size := by rw [List.length_append, hown.1, hx.1, Nat.add_mul]
 have hones : ∀ u ∈ xs ++ news, u.oneCell' = true := fun u hu => by
   rcases List.mem_append.1 hu with h | h
   · exact hown.2.1 u h
   · exact hx.2.1 u h
 have grown : ∀ (old : Nat), old < n + m → ∀ (row : Option Nat),
     Seg (w.drew.alloc (.cells (xs.toArray ++ news.toArray ++ Builtin.zeroCells z.cells (grownCap w (n + m) old e - (n + m))) e)) e i.size
       (.slice (some ⟨w.heap.size, 0, none⟩) (n + m) (grownCap w (n + m) old e)) (n + m) (xs ++ news) ∧
     w.grownBy (w.drew.alloc (.cells (xs.toArray ++ news.toArray ++ Builtin.zeroCells z.cells (grownCap w (n + m) old e - (n + m))) e)) row := by
   intro old ho row
   have hge := grownCap_ge w (n + m) old e
   have hcm : grownCap w (n + m) old e ≤ maxLen := grownCap_le_maxLen w (n + m) old e h63
   refine ⟨⟨hlen, hones, .inr ⟨w.heap.size, 0, _, _, rfl, heap_alloc_new' w.drew _, hge, hcm, ?_, ?_⟩⟩, ⟨rfl, rfl, rfl, by simp, fun k hk _ => heap_alloc_old' w.drew _ k hk⟩⟩
   · simp only [Array.size_append, List.size_toArray, size_zeroCells, hzs, hown.1, hx.1, ← Nat.add_mul, Nat.zero_add]
     exact Nat.mul_le_mul_right _ (by omega)
   · simp only [Array.toList_append, List.append_assoc, List.drop_zero]
     rw [← List.append_assoc, ← hlen]
     exact List.take_left
 rcases hx.2.2 with ⟨rfl, rfl⟩ | ⟨a, c, rfl, hnews⟩
 · have hn : news = [] := List.eq_nil_of_length_eq_zero (by simpa using hx.1)
   subst hn
   obtain ⟨a0, cap, rfl, hnc, hcm⟩ := hown.shape
   refine ⟨.slice a0 n cap, w, ?_, by simpa using hown, ⟨rfl, rfl, rfl, Nat.le_refl _, fun _ _ _ => rfl⟩, .inl rfl⟩
   cases a0 <;> simp [Builtin.append_, run_underlying ht, sizeOf, typeInfo, hi, Builtin.lenOf, Builtin.firstCells, storeCells, hnc]
 rcases hown.2.2 with ⟨rfl, rfl⟩ | ⟨g, off, cap, cur, rfl, hg, hnc, hcm, hcs, htake⟩
 · have hxs : xs = [] := List.eq_nil_of_length_eq_zero (by simpa using hown.1)
   subst hxs
   by_cases hm : m = 0
   · subst hm
     have hn : news = [] := List.eq_nil_of_length_eq_zero (by simpa using hx.1)
     subst hn
     refine ⟨.slice none 0 0, w, ?_, Seg.nil w e i.size, ⟨rfl, rfl, rfl, Nat.le_refl _, fun _ _ _ => rfl⟩, .inl rfl⟩
     simp [Builtin.append_, run_underlying ht, sizeOf, typeInfo, hi, Builtin.lenOf, Builtin.firstCells, loadCells, loadCellsFrom]
   · have hr := run_append_nil (P := P) w t ty e i z ht hi hz a m c news hx.1 hnews (by omega) (by omega) (by have hb := hbytes; simp only [Nat.zero_add] at hb; omega)
     have hgr := grown 0 (by omega) (Value.ownBlock (.slice none 0 0))
     simp only [Nat.zero_add, List.nil_append, Array.empty_append] at hgr ⊢
     exact ⟨_, _, hr, hgr.1, hgr.2, .inr rfl⟩
 · by_cases hroom : n + m ≤ cap
   · have hfit : off + n * i.size + news.length ≤ cur.size := by
       have := Nat.mul_le_mul_right i.size hroom
       rw [hx.1]; rw [Nat.add_mul] at this; omega
     have hf := run_firstCells_some (P := P) w i.size m a m c news hx.1 hnews
     have hst := run_storeCells_at P g (off + n * i.size) e news 0 cur w hg (by simpa using hfit) hx.2.1
     simp only [Nat.add_zero] at hst
     have hr : (Builtin.append_ #[t, t] ty #[.slice (some ⟨g, off, none⟩) n cap, .slice (some a) m c]).run P w = .ok (.slice (some ⟨g, off, none⟩) (n + m) cap) (w.setRow g (cur.toList.take (off + n * i.size) ++ news ++ cur.toList.drop (off + n * i.size + news.length)).toArray) := by
       simp [Builtin.append_, run_underlying ht, sizeOf, typeInfo, hi, Builtin.lenOf, hroom, hf, addr_add, hst]
     refine ⟨_, _, hr, ⟨hlen, hones, .inr ⟨g, off, cap, _, rfl, setRow_heap w g cur _ e _ hg, hroom, hcm, ?_, ?_⟩⟩, ⟨rfl, rfl, rfl, by simp, fun k _ hk => setRow_other w g k _ (fun e => hk (by simp [Value.ownBlock, e]))⟩, .inl rfl⟩
     · simp only [List.size_toArray, List.length_append, List.length_take, List.length_drop, Array.length_toList]
       omega
     · have hxl := hx.1
       rw [Nat.add_mul, ← hxl]
       rw [take_drop_mid _ _ _ _ (by simpa using hfit), htake]
   · have holds : ∀ j u, xs[j]? = some u → w.cell? ((⟨g, off, none⟩ : Addr).add j) = some u := fun j u hu => by
       rw [addr_add, cell_of_row hg]
       rw [← htake, List.getElem?_take] at hu
       split at hu
       · simpa using hu
       · cases hu
     have hr := run_append_grow (P := P) w t ty e i z ht hi hz ⟨g, off, none⟩ n cap xs hown.1 holds a m c news hx.1 hnews (by omega) (by omega) (growslice_fits (by omega) hbytes)
     have hgr := grown cap (by omega) (Value.ownBlock (.slice (some ⟨g, off, none⟩) n cap))
     exact ⟨_, _, hr, hgr.1, hgr.2, .inr rfl⟩
theorem wpList_append_seg {ops : Array Oper} {rest : List Oper} {o : Oper} {a : Act} {Q : Exit → Act → World → Prop} (hgd : o.guard = none) (s x : Operand) (t : TypeId)
   (ho : o.op = .call { callee := .builtin .append, args := #[s, x], argTypes := #[t, t] })
   (i : TypeInfo) (z : Value) (size bytes : Nat) (ht : P.underlying t = some (.slice e)) (hi : P.info? e = some i) (hz : i.zero = some z)
   (hsize : i.size = size) (hby : i.bytes = bytes) (hzs : z.cells.size = size) (hsz : 0 < size)
   (hs : a.eval s = v) (hown : Seg w e size v n xs) (xv : Value) (m : Nat) (news : List Value) (hx : a.eval x = xv) (hsrc : Src w size xv m news)
   (h63 : n + m ≤ maxLen) (hbytes : (n + m) * bytes ≤ 140737488355328)
   (h : ∀ v' w', Seg w' e size v' (n + m) (xs ++ news) → w.grownBy w' v.ownBlock → (v'.ownBlock = v.ownBlock ∨ v'.ownBlock = some w.heap.size) → wpList P ops Q rest (a.put o.dst v') w') : wpList P ops Q (o :: rest) a w :=
 wpList_plain hgd fun _ hK => by
   obtain ⟨v', w', hr, h2, h3, h4⟩ := run_append_seg (P := P) t o.type i z size bytes ht hi hz hsize hby hzs hsz hown xv m news hsrc h63 hbytes
   unfold Oper.wp execOp
   simp only [ho, resolve, invoke, builtin, Sem.run_bind, Sem.run_pure, Result.andThen_ok, List.map_toArray, List.map_cons, List.map_nil, hs, hx, hr]
   exact hK _ _ (h v' w' h2 h3 h4)
theorem Seg.from (h : Seg w e size v n xs) {k : Nat} (hk : k ≤ n) {t : TypeId} (ht : P.underlying t = some (.slice e)) (hsz : (P.info? e).map (·.size) = some size) (kk : IntKind) :
   ∃ v', (Instr.slice t v (some (.int kk k)) none none).run P w = .ok v' w ∧ Seg w e size v' (n - k) (xs.drop (k * size)) ∧ (v'.ownBlock = v.ownBlock) := by
 obtain ⟨i, hi, hsi⟩ : ∃ i, P.info? e = some i ∧ i.size = size := by
   cases hp : P.info? e with
   | none => simp [hp] at hsz
   | some i => exact ⟨i, rfl, by simpa [hp] using hsz⟩
 rcases h.2.2 with ⟨rfl, rfl⟩ | ⟨g, off, cap, cur, rfl, hg, h1, h2, h3, h4⟩
 · obtain rfl : k = 0 := by omega
   refine ⟨.slice none 0 0, ?_, by simpa using h, rfl⟩
   simp [Instr.slice, run_underlying ht, Instr.sliceBounds, Instr.sliceBound, asIntOf, sizeOf, typeInfo, hi]
 · refine ⟨.slice (some (if cap = k then ⟨g, off, none⟩ else ⟨g, off + k * size, none⟩)) (n - k) (cap - k), ?_, ⟨?_, fun u hu => h.2.1 u (List.mem_of_mem_drop hu), .inr ?_⟩, by split <;> rfl⟩
   · by_cases hc : cap = k <;> simp [Instr.slice, run_underlying ht, Instr.sliceBounds, Instr.sliceBound, asIntOf, sizeOf, typeInfo, hi, hsi, addr_add, hc] <;> (intro; omega)
   · rw [List.length_drop, h.1, Nat.sub_mul]
   · by_cases hc : cap = k
     · rw [if_pos hc]
       have : n - k = 0 := by omega
       refine ⟨g, off, cap - k, cur, rfl, hg, by omega, by omega, by rw [Nat.sub_mul]; omega, ?_⟩
       have e0 : (xs.drop (k * size)).length = 0 := by rw [List.length_drop, h.1, ← Nat.sub_mul, this]; simp
       rw [this, List.eq_nil_of_length_eq_zero e0]; simp
     · rw [if_neg hc]
       refine ⟨g, off + k * size, cap - k, cur, rfl, hg, by omega, by omega, ?_, ?_⟩
       · have := Nat.mul_le_mul_right size (by omega : k ≤ cap)
         rw [Nat.sub_mul]; omega
       · rw [← h4, Nat.sub_mul, List.drop_take, List.drop_drop]
theorem Seg.to (h : Seg w e size v n xs) {k : Nat} (hk : k ≤ n) {t : TypeId} (ht : P.underlying t = some (.slice e)) (hsz : (P.info? e).map (·.size) = some size) (kk : IntKind) :
   ∃ v', (Instr.slice t v none (some (.int kk k)) none).run P w = .ok v' w ∧ Seg w e size v' k (xs.take (k * size)) ∧ (v'.ownBlock = v.ownBlock) := by
 obtain ⟨i, hi, hsi⟩ : ∃ i, P.info? e = some i ∧ i.size = size := by
   cases hp : P.info? e with
   | none => simp [hp] at hsz
   | some i => exact ⟨i, rfl, by simpa [hp] using hsz⟩
 rcases h.2.2 with ⟨rfl, rfl⟩ | ⟨g, off, cap, cur, rfl, hg, h1, h2, h3, h4⟩
 · obtain rfl : k = 0 := by omega
   refine ⟨.slice none 0 0, ?_, by simpa using Seg.nil w e size, rfl⟩
   simp [Instr.slice, run_underlying ht, Instr.sliceBounds, Instr.sliceBound, asIntOf, sizeOf, typeInfo, hi]
 · refine ⟨.slice (some ⟨g, off, none⟩) k cap, ?_, ⟨?_, fun u hu => h.2.1 u (List.mem_of_mem_take hu), .inr ⟨g, off, cap, cur, rfl, hg, by omega, h2, h3, ?_⟩⟩, rfl⟩
   · by_cases hc : cap = 0 <;> simp [Instr.slice, run_underlying ht, Instr.sliceBounds, Instr.sliceBound, asIntOf, sizeOf, typeInfo, hi, addr_add, hc] <;> (intro; omega)
   · rw [List.length_take, h.1]
     exact Nat.min_eq_left (Nat.mul_le_mul_right _ hk)
   · rw [← h4, List.take_take, Nat.min_eq_left (Nat.mul_le_mul_right _ hk)]
theorem set_take_drop (l : List Value) (off k j : Nat) (u : Value) (hj : j < k) : ((l.set (off + j) u).drop off).take k = ((l.drop off).take k).set j u := by
 rw [List.drop_set, if_neg (by omega), show off + j - off = j by omega, List.take_set]
theorem Seg.set {g off cap : Nat} (h : Seg w e size (.slice (some ⟨g, off, none⟩) n cap) n xs) {j : Nat} (hj : j < n * size) (u : Value) (hu : u.oneCell' = true) : Seg (w.setCell ⟨g, off + j, none⟩ u) e size (.slice (some ⟨g, off, none⟩) n cap) n (xs.set j u) := by
 rcases h.2.2 with ⟨e, _⟩ | ⟨g', off', cap', cur, e, hg, h1, h2, h3, h4⟩
 · cases e
 · simp only [Value.slice.injEq, Option.some.injEq, Addr.mk.injEq, and_true, true_and] at e
   obtain ⟨⟨rfl, rfl⟩, rfl⟩ := e
   refine ⟨by simpa using h.1, fun u' hu' => ?_, .inr ⟨g, off, cap, _, rfl, row_setCell hg (off + j) u, h1, h2, by simpa using h3, ?_⟩⟩
   · rcases List.mem_or_eq_of_mem_set hu' with h' | h'
     · exact h.2.1 u' h'
     · rw [h']; exact hu
   · rw [Array.toList_setIfInBounds, set_take_drop _ _ _ _ _ hj, h4]
theorem step_append_seg {ops : Array Oper} {o : Oper} {a : Act} {K : Act → World → Prop} {Q : Exit → Act → World → Prop} {E : Prop} (hgd : o.guard = none) (s x : Operand) (t : TypeId)
   (ho : o.op = .call { callee := .builtin .append, args := #[s, x], argTypes := #[t, t] })
   (i : TypeInfo) (z : Value) (size bytes : Nat) (ht : P.underlying t = some (.slice e)) (hi : P.info? e = some i) (hz : i.zero = some z)
   (hsize : i.size = size) (hby : i.bytes = bytes) (hzs : z.cells.size = size) (hsz : 0 < size)
   (hs : a.eval s = v) (hown : Seg w e size v n xs) (xv : Value) (m : Nat) (news : List Value) (hx : a.eval x = xv) (hsrc : Src w size xv m news)
   (h63 : n + m ≤ maxLen) (hbytes : (n + m) * bytes ≤ 140737488355328)
   (h : ∀ v' w', Seg w' e size v' (n + m) (xs ++ news) → w.grownBy w' v.ownBlock → (v'.ownBlock = v.ownBlock ∨ v'.ownBlock = some w.heap.size) → K (a.put o.dst v') w') :
   if Region.wanted o (yielded ops a.tmps) = true then Oper.wp P o a w K Q else E := by
 have hw : Region.wanted o (yielded ops a.tmps) = true := by simp [Region.wanted, hgd]
 rw [if_pos hw]
 obtain ⟨v', w', hr, h2, h3, h4⟩ := run_append_seg (P := P) t o.type i z size bytes ht hi hz hsize hby hzs hsz hown xv m news hsrc h63 hbytes
 unfold Oper.wp execOp
 simp only [ho, resolve, invoke, builtin, Sem.run_bind, Sem.run_pure, Result.andThen_ok, List.map_toArray, List.map_cons, List.map_nil, hs, hx, hr]
 exact h v' w' h2 h3 h4
open Go.RowKit
structure MW (W : World) where
 w : World
 mod : Mod (fun _ => False) W w
instance (W : World) : Nonempty (MW W) := ⟨⟨W, Mod.refl _ W⟩⟩
theorem MW.start (W : World) : ∃ x : MW W, ({ W with drawn := W.drawn + 1 } : World) = x.w := ⟨⟨_, (Mod.refl _ W).drew⟩, rfl⟩
section
variable {P : Program} {W : World}
theorem wp_region_quietM {id : Nat} {Q : Exit → Act → World → Prop} {a : Act} {l : List Oper} (hm : P.follows .mixedOrders = true) (hB : Region.lexB .any l.toArray = true)
   (h : wpQuiet P l.toArray (fun w' => ∃ x : MW W, w' = x.w) (fun a' => ∀ w', (∃ x : MW W, w' = x.w) → Q .normal a' w') l a) : (Code.region id l.toArray true).wp P Q a W :=
 wp_region_quiet (C := fun w' => ∃ x : MW W, w' = x.w) hm hB (MW.start W) (by simpa using h)
theorem MW.mod_of {w' : World} (h : ∃ x : MW W, w' = x.w) : Mod (fun _ => False) W w' := by
 obtain ⟨x, rfl⟩ := h
 exact x.mod
theorem Calls.quietM {f : FuncId} {args : Array Value} {v : Value} {x : MW W} (h : Calls P f args x.w fun e w' => e = .returned v ∧ Mod (fun _ => False) x.w w') : Calls P f args x.w fun e w'' => e = .returned v ∧ ∃ x' : MW W, w'' = x'.w :=
 h.mono fun _ w' ⟨he, hm⟩ => ⟨he, ⟨w', x.mod.trans hm⟩, rfl⟩
theorem MW.cell (x : MW W) {a : Addr} {v : Value} (h : W.cell? a = some v) : x.w.cell? a = some v :=
 (World.cell?_of_block (w := W) (x.mod.block a.block (World.block_lt_of_cell? _ _ h) (fun f => f))).trans h
end
open Go.RowKit Go.Maps
def rawE (v : Value) : Option (DataW Value × List MemPlace) := some (.held v, [])
abbrev Ents := List (Nat × Value)
def entsD (q : IntKind) (es : Ents) : DataW Value := .map (es.map fun p => (.int q (p.1 : Int), .held p.2))
def getL (k : Nat) (es : Ents) : Option Value := (es.find? fun p => p.1 == k).map (·.2)
def delL (k : Nat) (es : Ents) : Ents := es.filter fun p => !(p.1 == k)
def insL (x : Nat × Value) : Ents → Ents
 | [] => [x]
 | y :: r => if x.1 < y.1 then x :: y :: r else y :: insL x r
def putL (k : Nat) (v : Value) (es : Ents) : Ents := insL (k, v) (delL k es)
theorem same_int (q : IntKind) (a b : Nat) : (Lit.int q (a : Int)).sameKey (.int q (b : Int)) = (a == b) := by
 simp [Lit.sameKey, Int.ofNat_inj]
 rfl
theorem entsD_del (q : IntKind) (k : Nat) (es : Ents) : (entsD q es).del (.int q (k : Int)) = entsD q (delL k es) := by
 simp only [entsD, DataW.del, delL, List.filter_map]
 congr 2
 apply List.filter_congr
 intro p _
 simp only [Function.comp]
 rw [same_int]
theorem insert_map (q : IntKind) (x : Nat × Value) : ∀ es : Ents, DataW.insert ((.int q (x.1 : Int) : Lit), (.held x.2 : DataW Value)) (es.map fun p => ((.int q (p.1 : Int) : Lit), (.held p.2 : DataW Value))) = (insL x es).map fun p => ((.int q (p.1 : Int) : Lit), (.held p.2 : DataW Value))
 | [] => rfl
 | y :: r => by
   have hb : (Lit.int q (x.1 : Int)).before (.int q (y.1 : Int)) = decide (x.1 < y.1) := by simp [Lit.before]
   by_cases h : x.1 < y.1
   · simp [DataW.insert, insL, hb, h]
   · simp [DataW.insert, insL, hb, h, insert_map q x r]
theorem entsD_put (q : IntKind) (k : Nat) (v : Value) (es : Ents) : (entsD q es).put (.int q (k : Int)) (.held v) = entsD q (putL k v es) := by
 have h := entsD_del q k es
 simp only [entsD, DataW.del] at h
 injection h with h
 simp only [entsD, DataW.put, putL]
 rw [h, insert_map q (k, v)]
theorem entsD_at (q : IntKind) (k : Nat) (es : Ents) (z : Value) : (entsD q es).atKey (.int q (k : Int)) (.held z) = .held ((getL k es).getD z) := by
 simp only [entsD, DataW.atKey, getL, List.find?_map]
 have e : ((fun p : Lit × DataW Value => p.1.sameKey (.int q (k : Int))) ∘ fun p : Nat × Value => ((.int q (p.1 : Int) : Lit), (.held p.2 : DataW Value))) = fun p => p.1 == k := by
   funext p; simp only [Function.comp]; rw [same_int]
 rw [e]
 cases es.find? (fun p => p.1 == k) <;> rfl
theorem entsD_has (q : IntKind) (k : Nat) (es : Ents) : Maps.has (entsD q es) (.int q (k : Int)) = (getL k es).isSome := by
 rw [entsD, Maps.has_eq, getL, List.any_map]
 have e : ((fun p : Lit × DataW Value => p.1.sameKey (.int q (k : Int))) ∘ fun p : Nat × Value => ((.int q (p.1 : Int) : Lit), (.held p.2 : DataW Value))) = fun p => p.1 == k := by
   funext p; simp only [Function.comp]; rw [same_int]
 rw [e, Option.isSome_map]
 induction es with
 | nil => rfl
 | cons x r ih =>
   rw [List.any_cons, List.find?_cons]
   cases hx : (x.1 == k) with
   | true => rfl
   | false => simpa using ih
theorem entsD_size (q : IntKind) (es : Ents) : Maps.size (entsD q es) = es.length := by rw [entsD, Maps.size_eq, List.length_map]
structure UMap (P : Program) (kt : TypeId) (q : IntKind) (w : World) (b : Nat) (es : Ents) : Prop where
 own : w.ownsMap P kt rawE b es.length (entsD q es)
theorem tight {P : Program} {kt : TypeId} {q : IntKind} {w : World} {b n : Nat} {es : Ents} (h : w.ownsMap P kt rawE b n (entsD q es)) : UMap P kt q w b es := by
 obtain ⟨xs, clock, hb, F, hn, hD⟩ := h
 refine ⟨xs, clock, hb, F, ?_, hD⟩
 have := congrArg Maps.size hD
 rw [entsD_size, Maps.size_eq, length_sorted] at this
 simp at this
 omega
section
variable {P : Program} {kt : TypeId} {q : IntKind} {w : World} {b : Nat} {es : Ents}
theorem UMap.made (P : Program) (kt : TypeId) (q : IntKind) (w : World) : UMap P kt q (w.alloc (.map #[] 0)) w.heap.size [] := ⟨World.ownsMap_made w P kt rawE⟩
theorem UMap.lt (h : UMap P kt q w b es) : b < w.heap.size := h.own.lt
theorem UMap.mod {S : Nat → Prop} {w' : World} (h : UMap P kt q w b es) (m : Mod S w w') (hs : ¬ S b) : UMap P kt q w' b es := ⟨m.ownsMap h.own hs⟩
theorem UMap.keep {w' : World} (h : UMap P kt q w b es) (m : Mod (fun _ => False) w w') : UMap P kt q w' b es := h.mod m (fun f => f)
theorem UMap.drew (h : UMap P kt q w b es) : UMap P kt q w.drew b es := ⟨h.own⟩
theorem UMap.rising (h : UMap P kt q w b es) (K : Keyed P kt) : es.Pairwise fun x y => x.1 < y.1 := by
 obtain ⟨l, hl, hs, _⟩ := h.own.canon K
 rw [entsD] at hl
 injection hl with hl
 subst hl
 rw [List.pairwise_map] at hs
 refine hs.imp ?_
 intro x y hxy
 simpa [Lit.before] using hxy
theorem key_of {P : Program} {kt : TypeId} {q : IntKind} (hk : P.underlying kt = some (.int q)) {k : Nat} (hw : (Lit.int q (k : Int)).wf = true) : keyOf P kt (.int q (k : Int)) = some (.int q (k : Int)) := keyOf_int_mk hk hw
theorem UMap.get (h : UMap P kt q w b es) (hk : P.underlying kt = some (.int q)) {t e : TypeId} (ht : P.underlying t = some (.map kt e)) {z : Value} (hz : (zeroValue e).run P w = .ok z w) {k : Nat} (hw : (Lit.int q (k : Int)).wf = true) :
   (Instr.lookup t (.map (some b)) (.int q (k : Int)) false).run P w = .ok ((getL k es).getD z) w := by
 obtain ⟨v, ps, hr, hv⟩ := h.own.lookup (int_keyed hk) ht hz (show rawE z = some (.held z, []) from rfl) (key_of hk hw)
 rw [entsD_at] at hv
 simp only [rawE, Option.some.injEq, Prod.mk.injEq] at hv
 have : v = (getL k es).getD z := by have := hv.1; injection this
 rw [hr, this]
theorem UMap.getOk (h : UMap P kt q w b es) (hk : P.underlying kt = some (.int q)) {t e : TypeId} (ht : P.underlying t = some (.map kt e)) {z : Value} (hz : (zeroValue e).run P w = .ok z w) {k : Nat} (hw : (Lit.int q (k : Int)).wf = true) :
   (Instr.lookup t (.map (some b)) (.int q (k : Int)) true).run P w = .ok (.tuple #[(getL k es).getD z, .bool (getL k es).isSome]) w := by
 obtain ⟨v, ps, hr, hv⟩ := h.own.look_ok (int_keyed hk) ht hz (show rawE z = some (.held z, []) from rfl) (key_of hk hw)
 rw [entsD_at] at hv
 rw [entsD_has] at hr
 simp only [rawE, Option.some.injEq, Prod.mk.injEq] at hv
 have : v = (getL k es).getD z := by have := hv.1; injection this
 rw [hr, this]
theorem UMap.store (h : UMap P kt q w b es) (hk : P.underlying kt = some (.int q)) {t e : TypeId} (ht : P.underlying t = some (.map kt e)) (hn : es.length < maxLen) {k : Nat} (hw : (Lit.int q (k : Int)).wf = true) (v : Value) :
   ∃ w', (Instr.mapUpdate t (.map (some b)) (.int q (k : Int)) v).run P w = .ok () w' ∧ UMap P kt q w' b (putL k v es) ∧ Mod (fun i => i = b) w w' := by
 obtain ⟨w', hr, h1, h2⟩ := h.own.store (int_keyed hk) ht hn (key_of hk hw) (show rawE v = some (.held v, []) from rfl)
 rw [entsD_put] at h1
 exact ⟨w', hr, tight h1, (Mod.refl _ w).turned h2 (fun _ => rfl)⟩
theorem UMap.drop (h : UMap P kt q w b es) (hk : P.underlying kt = some (.int q)) {t e : TypeId} (ht : P.underlying t = some (.map kt e)) {k : Nat} (hw : (Lit.int q (k : Int)).wf = true) (ty : TypeId) :
   ∃ w', (Builtin.delete_ #[t, kt] ty #[.map (some b), .int q (k : Int)]).run P w = .ok (.tuple #[]) w' ∧ UMap P kt q w' b (delL k es) ∧ Mod (fun i => i = b) w w' := by
 obtain ⟨w', hr, h1, h2⟩ := h.own.drop (int_keyed hk) ht (key_of hk hw) ty
 rw [entsD_del] at h1
 exact ⟨w', hr, tight h1, (Mod.refl _ w).turned h2 (fun _ => rfl)⟩
theorem UMap.len (h : UMap P kt q w b es) {t e : TypeId} (ht : P.underlying t = some (.map kt e)) (ty : TypeId) : (Builtin.len_ #[t] ty #[.map (some b)]).run P w = .ok (.int .i64 (es.length : Int)) w := by
 rw [h.own.len ht ty, entsD_size]
end
section
variable {P : Program} {kt : TypeId} {q : IntKind} {w : World} {b : Nat} {es : Ents}
end
theorem delL_length (k : Nat) (es : Ents) : (delL k es).length ≤ es.length := List.length_filter_le _ _
theorem insL_length (x : Nat × Value) : ∀ es : Ents, (insL x es).length = es.length + 1
 | [] => rfl
 | y :: r => by simp only [insL]; split <;> simp [insL_length x r]
theorem putL_length (k : Nat) (v : Value) (es : Ents) : (putL k v es).length ≤ es.length + 1 := by
 unfold putL; rw [insL_length]; have := delL_length k es; omega
theorem getL_insL (k : Nat) (x : Nat × Value) : ∀ es : Ents, (∀ p ∈ es, p.1 ≠ x.1) → getL k (insL x es) = if x.1 = k then some x.2 else getL k es
 | [], _ => by
   simp only [insL, getL, List.find?_cons, List.find?_nil]
   by_cases h : x.1 = k
   · simp [h]
   · have h2 : (x.1 == k) = false := by simpa using h
     simp [h2, h]
 | y :: r, h => by
   have hy := h y (by simp)
   have ih := getL_insL k x r (fun p hp => h p (by simp [hp]))
   simp only [insL]
   split
   · simp only [getL, List.find?_cons]
     by_cases hk : x.1 = k
     · simp [hk]
     · have : (x.1 == k) = false := by simpa using hk
       rw [this, if_neg hk]
   · simp only [getL, List.find?_cons] at ih ⊢
     by_cases hk : y.1 = k
     · have hne : ¬ x.1 = k := fun e => hy (hk.trans e.symm)
       simp [hk, hne]
     · have : (y.1 == k) = false := by simpa using hk
       rw [this]
       exact ih
theorem getL_delL (k j : Nat) : ∀ es : Ents, getL k (delL j es) = if j = k then none else getL k es
 | [] => by simp [getL, delL]
 | y :: r => by
   have ih := getL_delL k j r
   simp only [delL] at ih ⊢
   rw [List.filter_cons]
   by_cases hy : y.1 = j
   · have h1 : (y.1 == j) = true := by simpa using hy
     rw [h1]
     simp only [Bool.not_true, Bool.false_eq_true, if_false]
     rw [ih]
     by_cases h : j = k
     · simp [h]
     · have h2 : (y.1 == k) = false := by rw [hy]; simpa using h
       rw [if_neg h, if_neg h]
       simp only [getL, List.find?_cons, h2]
   · have h1 : (y.1 == j) = false := by simpa using hy
     rw [h1]
     simp only [Bool.not_false, if_true]
     simp only [getL, List.find?_cons] at ih ⊢
     by_cases hk : y.1 = k
     · have h2 : (y.1 == k) = true := by simpa using hk
       have h3 : ¬ j = k := fun e => hy (hk.trans e.symm)
       rw [h2, if_neg h3]
     · have h2 : (y.1 == k) = false := by simpa using hk
       rw [h2]
       exact ih
theorem getL_putL (k j : Nat) (v : Value) (es : Ents) : getL k (putL j v es) = if j = k then some v else getL k es := by
 unfold putL
 rw [getL_insL k (j, v) _ (fun p hp => by simp [delL] at hp; exact hp.2), getL_delL]
 by_cases h : j = k <;> simp [h]
end Go.Proofs.YtpigipgoopeeoaaGreatDoor
