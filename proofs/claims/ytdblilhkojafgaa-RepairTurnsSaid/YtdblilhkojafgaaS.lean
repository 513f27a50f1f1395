/- Slices that may begin anywhere in a block: what they hold, and what append and reslicing make of them. -/
import Derived.Test.YtdblilhkojafgaaL
import Derived.WalkKit
import Derived.Deep.RegionLaw
namespace Go.Proofs.Ytdblilhkojafgaa
set_option linter.unusedVariables false
open Go.RowKit

/-- The slice value v has n elements of 'size' cells each, the cells xs; it is nil, or it lies in a block that may be written. -/
def Seg (w : World) (e : TypeId) (size : Nat) (v : Value) (n : Nat) (xs : List Value) : Prop :=
  xs.length = n * size ∧ (∀ u ∈ xs, u.oneCell' = true) ∧
  ((v = .slice none 0 0 ∧ n = 0) ∨
   ∃ g off cap cur, v = .slice (some ⟨g, off, none⟩) n cap ∧ w.heap[g]? = some (.cells cur e (0, 0)) ∧ n ≤ cap ∧ cap ≤ maxLen ∧ off + cap * size ≤ cur.size ∧ (cur.toList.drop off).take (n * size) = xs)

/-- What is read off: nil, or cells that are known. -/
def Src (w : World) (size : Nat) (x : Value) (m : Nat) (news : List Value) : Prop :=
  news.length = m * size ∧ (∀ u ∈ news, u.oneCell' = true) ∧
  ((x = .slice none 0 0 ∧ m = 0) ∨ ∃ ad c, x = .slice (some ad) m c ∧ ∀ j u, news[j]? = some u → w.cell? (ad.add j) = some u)

variable {w : World} {e : TypeId} {size : Nat} {v : Value} {n : Nat} {xs : List Value}

theorem Seg.nil (w : World) (e : TypeId) (size : Nat) : Seg w e size (.slice none 0 0) 0 [] := ⟨by simp, by simp, .inl ⟨rfl, rfl⟩⟩

theorem addr_add (g off j : Nat) : (⟨g, off, none⟩ : Addr).add j = ⟨g, off + j, none⟩ := by unfold Addr.add; split <;> simp_all

theorem Seg.lit (w : World) (cs : Array Value) (n : Nat) (hs : cs.size = n * size) (hm : n ≤ maxLen) (h1 : ∀ u ∈ cs.toList, u.oneCell' = true) : Seg (w.alloc (.cells cs e)) e size (.slice (some ⟨w.heap.size, 0, none⟩) n n) n cs.toList :=
  ⟨by simpa using hs, h1, .inr ⟨_, 0, n, cs, rfl, heap_alloc_new' w _, Nat.le_refl _, hm, by omega, by simp only [List.drop_zero]; exact List.take_of_length_le (by simp [hs])⟩⟩

theorem Seg.lt (h : Seg w e size v n xs) : ∀ k, v.ownBlock = some k → k < w.heap.size := by
  intro k hk
  rcases h.2.2 with ⟨rfl, _⟩ | ⟨g, off, cap, cur, rfl, hg, _⟩
  · simp [Value.ownBlock] at hk
  · simp [Value.ownBlock] at hk; subst hk; exact lt_of_block hg

theorem Seg.mod {S : Nat → Prop} {w' : World} (h : Seg w e size v n xs) (m : Mod S w w') (hs : ∀ k, v.ownBlock = some k → ¬ S k) : Seg w' e size v n xs := by
  refine ⟨h.1, h.2.1, ?_⟩
  rcases h.2.2 with hn | ⟨g, off, cap, cur, rfl, hg, r⟩
  · exact .inl hn
  · exact .inr ⟨g, off, cap, cur, rfl, m.heap hg (hs g rfl), r⟩
theorem Seg.alloc (h : Seg w e size v n xs) (o : Obj) : Seg (w.alloc o) e size v n xs := h.mod (S := fun _ => False) ((Mod.refl _ _).alloc o) (fun _ _ f => f)
theorem Seg.drew (h : Seg w e size v n xs) : Seg w.drew e size v n xs := h

/-- The cells, by their places. -/
theorem Seg.open (h : Seg w e size v n xs) (hn : 0 < n) : ∃ g off cap, v = .slice (some ⟨g, off, none⟩) n cap ∧ n ≤ cap ∧ cap ≤ maxLen ∧ g < w.heap.size ∧ ∀ j, j < n * size → w.cell? ⟨g, off + j, none⟩ = xs[j]? ∧ w.frozen? ⟨g, off + j, none⟩ = false := by
  rcases h.2.2 with ⟨_, rfl⟩ | ⟨g, off, cap, cur, rfl, hg, h1, h2, h3, h4⟩
  · omega
  · refine ⟨g, off, cap, rfl, h1, h2, lt_of_block hg, fun j hj => ⟨?_, by simp [World.frozen?, hg]⟩⟩
    rw [cell_of_row hg, ← h4, List.getElem?_take, if_pos hj, List.getElem?_drop]
    simp
theorem Seg.shape (h : Seg w e size v n xs) : ∃ a cap, v = .slice a n cap ∧ n ≤ cap ∧ cap ≤ maxLen := by
  rcases h.2.2 with ⟨rfl, rfl⟩ | ⟨g, off, cap, cur, rfl, hg, h1, h2, _⟩
  · exact ⟨_, _, rfl, Nat.le_refl _, Nat.zero_le _⟩
  · exact ⟨_, _, rfl, h1, h2⟩
theorem Seg.src (h : Seg w e size v n xs) : Src w size v n xs := by
  refine ⟨h.1, h.2.1, ?_⟩
  rcases Nat.eq_zero_or_pos n with rfl | hn
  · rcases h.2.2 with ⟨rfl, _⟩ | ⟨g, off, cap, cur, rfl, _⟩
    · exact .inl ⟨rfl, rfl⟩
    · have := h.1
      simp at this
      exact .inr ⟨_, _, rfl, fun j u hu => by simp [this] at hu⟩
  · obtain ⟨g, off, cap, rfl, _, _, _, hc⟩ := h.open hn
    refine .inr ⟨_, _, rfl, fun j u hu => ?_⟩
    have hj : j < n * size := by rw [← h.1]; exact (List.getElem?_eq_some_iff.1 hu).1
    rw [addr_add, (hc j hj).1, hu]
/-- One struct (or number) that has just been laid in a block of its own. -/
theorem Src.one (w : World) (cs : Array Value) (t : TypeId) (m : Nat) (c : Nat) (hs : cs.size = m * size) (h1 : ∀ u ∈ cs.toList, u.oneCell' = true) : Src (w.alloc (.cells cs t)) size (.slice (some ⟨w.heap.size, 0, none⟩) m c) m cs.toList :=
  ⟨by simpa using hs, h1, .inr ⟨_, _, rfl, fun j u hu => by rw [addr_add, cell_of_row (heap_alloc_new' w _)]; simpa using hu⟩⟩

theorem take_drop_mid (l news : List Value) (off k : Nat) (h : off + k + news.length ≤ l.length) : ((l.take (off + k) ++ news ++ l.drop (off + k + news.length)).drop off).take (k + news.length) = (l.drop off).take k ++ news := by
  have h1 : (l.take (off + k)).length = off + k := by simp; omega
  rw [List.append_assoc, List.drop_append_of_le_length (by omega), List.drop_take]
  have h2 : ((l.drop off).take k).length = k := by simp; omega
  have e : off + k - off = k := by omega
  rw [e, List.take_append, h2]
  have e2 : k + news.length - k = news.length := by omega
  rw [e2, List.take_append_of_le_length (Nat.le_refl _), List.take_length, List.take_of_length_le (by omega)]

variable {P : Program}

theorem run_append_seg (t ty : TypeId) (i : TypeInfo) (z : Value) (size bytes : Nat) (ht : P.underlying t = some (.slice e)) (hi : P.info? e = some i) (hz : i.zero = some z)
    (hsize : i.size = size) (hby : i.bytes = bytes) (hzs : z.cells.size = size) (hsz : 0 < size)
    (hown : Seg w e size v n xs) (x : Value) (m : Nat) (news : List Value) (hx : Src w size x m news)
    (h63 : n + m ≤ maxLen) (hbytes : (n + m) * bytes ≤ 140737488355328) :
    ∃ v' w', (Builtin.append_ #[t, t] ty #[v, x]).run P w = .ok v' w' ∧ Seg w' e size v' (n + m) (xs ++ news) ∧ w.grownBy w' v.ownBlock ∧ (v'.ownBlock = v.ownBlock ∨ v'.ownBlock = some w.heap.size) := by
  subst hsize
  subst hby
  have hsmall : n + m ≤ 9223372036854775807 := by simp only [maxLen] at h63; omega
  have hlen : (xs ++ news).length = (n + m) * i.size := by rw [List.length_append, hown.1, hx.1, Nat.add_mul]
  have hones : ∀ u ∈ xs ++ news, u.oneCell' = true := fun u hu => by
    rcases List.mem_append.1 hu with h | h
    · exact hown.2.1 u h
    · exact hx.2.1 u h
  have grown : ∀ (old : Nat), old < n + m → ∀ (row : Option Nat),
      Seg (w.drew.alloc (.cells (xs.toArray ++ news.toArray ++ Builtin.zeroCells z.cells (grownCap w (n + m) old e - (n + m))) e)) e i.size
        (.slice (some ⟨w.heap.size, 0, none⟩) (n + m) (grownCap w (n + m) old e)) (n + m) (xs ++ news) ∧
      w.grownBy (w.drew.alloc (.cells (xs.toArray ++ news.toArray ++ Builtin.zeroCells z.cells (grownCap w (n + m) old e - (n + m))) e)) row := by
    intro old ho row
    have hge := grownCap_ge w (n + m) old e
    have hcm : grownCap w (n + m) old e ≤ maxLen := grownCap_le_maxLen w (n + m) old e h63
    refine ⟨⟨hlen, hones, .inr ⟨w.heap.size, 0, _, _, rfl, heap_alloc_new' w.drew _, hge, hcm, ?_, ?_⟩⟩, ⟨rfl, rfl, rfl, by simp, fun k hk _ => heap_alloc_old' w.drew _ k hk⟩⟩
    · simp only [Array.size_append, List.size_toArray, size_zeroCells, hzs, hown.1, hx.1, ← Nat.add_mul, Nat.zero_add]
      exact Nat.mul_le_mul_right _ (by omega)
    · simp only [Array.toList_append, List.append_assoc, List.drop_zero]
      rw [← List.append_assoc, ← hlen]
      exact List.take_left
  rcases hx.2.2 with ⟨rfl, rfl⟩ | ⟨a, c, rfl, hnews⟩
  · have hn : news = [] := List.eq_nil_of_length_eq_zero (by simpa using hx.1)
    subst hn
    obtain ⟨a0, cap, rfl, hnc, hcm⟩ := hown.shape
    refine ⟨.slice a0 n cap, w, ?_, by simpa using hown, ⟨rfl, rfl, rfl, Nat.le_refl _, fun _ _ _ => rfl⟩, .inl rfl⟩
    cases a0 <;> simp [Builtin.append_, run_underlying ht, sizeOf, typeInfo, hi, Builtin.lenOf, Builtin.firstCells, storeCells, hnc]
  rcases hown.2.2 with ⟨rfl, rfl⟩ | ⟨g, off, cap, cur, rfl, hg, hnc, hcm, hcs, htake⟩
  · have hxs : xs = [] := List.eq_nil_of_length_eq_zero (by simpa using hown.1)
    subst hxs
    by_cases hm : m = 0
    · subst hm
      have hn : news = [] := List.eq_nil_of_length_eq_zero (by simpa using hx.1)
      subst hn
      refine ⟨.slice none 0 0, w, ?_, Seg.nil w e i.size, ⟨rfl, rfl, rfl, Nat.le_refl _, fun _ _ _ => rfl⟩, .inl rfl⟩
      simp [Builtin.append_, run_underlying ht, sizeOf, typeInfo, hi, Builtin.lenOf, Builtin.firstCells, loadCells, loadCellsFrom]
    · have hr := run_append_nil (P := P) w t ty e i z ht hi hz a m c news hx.1 hnews (by omega) (by omega) (by have hb := hbytes; simp only [Nat.zero_add] at hb; omega)
      have hgr := grown 0 (by omega) (Value.ownBlock (.slice none 0 0))
      simp only [Nat.zero_add, List.nil_append, Array.empty_append] at hgr ⊢
      exact ⟨_, _, hr, hgr.1, hgr.2, .inr rfl⟩
  · by_cases hroom : n + m ≤ cap
    · have hfit : off + n * i.size + news.length ≤ cur.size := by
        have := Nat.mul_le_mul_right i.size hroom
        rw [hx.1]; rw [Nat.add_mul] at this; omega
      have hf := run_firstCells_some (P := P) w i.size m a m c news hx.1 hnews
      have hst := run_storeCells_at P g (off + n * i.size) e news 0 cur w hg (by simpa using hfit) hx.2.1
      simp only [Nat.add_zero] at hst
      have hr : (Builtin.append_ #[t, t] ty #[.slice (some ⟨g, off, none⟩) n cap, .slice (some a) m c]).run P w = .ok (.slice (some ⟨g, off, none⟩) (n + m) cap) (w.setRow g (cur.toList.take (off + n * i.size) ++ news ++ cur.toList.drop (off + n * i.size + news.length)).toArray) := by
        simp [Builtin.append_, run_underlying ht, sizeOf, typeInfo, hi, Builtin.lenOf, hroom, hf, addr_add, hst]
      refine ⟨_, _, hr, ⟨hlen, hones, .inr ⟨g, off, cap, _, rfl, setRow_heap w g cur _ e _ hg, hroom, hcm, ?_, ?_⟩⟩, ⟨rfl, rfl, rfl, by simp, fun k _ hk => setRow_other w g k _ (fun e => hk (by simp [Value.ownBlock, e]))⟩, .inl rfl⟩
      · simp only [List.size_toArray, List.length_append, List.length_take, List.length_drop, Array.length_toList]
        omega
      · have hxl := hx.1
        rw [Nat.add_mul, ← hxl]
        rw [take_drop_mid _ _ _ _ (by simpa using hfit), htake]
    · have holds : ∀ j u, xs[j]? = some u → w.cell? ((⟨g, off, none⟩ : Addr).add j) = some u := fun j u hu => by
        rw [addr_add, cell_of_row hg]
        rw [← htake, List.getElem?_take] at hu
        split at hu
        · simpa using hu
        · cases hu
      have hr := run_append_grow (P := P) w t ty e i z ht hi hz ⟨g, off, none⟩ n cap xs hown.1 holds a m c news hx.1 hnews (by omega) (by omega) (growslice_fits (by omega) hbytes)
      have hgr := grown cap (by omega) (Value.ownBlock (.slice (some ⟨g, off, none⟩) n cap))
      exact ⟨_, _, hr, hgr.1, hgr.2, .inr rfl⟩

theorem wpList_append_seg {ops : Array Oper} {rest : List Oper} {o : Oper} {a : Act} {Q : Exit → Act → World → Prop} (hgd : o.guard = none) (s x : Operand) (t : TypeId)
    (ho : o.op = .call { callee := .builtin .append, args := #[s, x], argTypes := #[t, t] })
    (i : TypeInfo) (z : Value) (size bytes : Nat) (ht : P.underlying t = some (.slice e)) (hi : P.info? e = some i) (hz : i.zero = some z)
    (hsize : i.size = size) (hby : i.bytes = bytes) (hzs : z.cells.size = size) (hsz : 0 < size)
    (hs : a.eval s = v) (hown : Seg w e size v n xs) (xv : Value) (m : Nat) (news : List Value) (hx : a.eval x = xv) (hsrc : Src w size xv m news)
    (h63 : n + m ≤ maxLen) (hbytes : (n + m) * bytes ≤ 140737488355328)
    (h : ∀ v' w', Seg w' e size v' (n + m) (xs ++ news) → w.grownBy w' v.ownBlock → (v'.ownBlock = v.ownBlock ∨ v'.ownBlock = some w.heap.size) → wpList P ops Q rest (a.put o.dst v') w') : wpList P ops Q (o :: rest) a w :=
  wpList_plain hgd fun _ hK => by
    obtain ⟨v', w', hr, h2, h3, h4⟩ := run_append_seg (P := P) t o.type i z size bytes ht hi hz hsize hby hzs hsz hown xv m news hsrc h63 hbytes
    unfold Oper.wp execOp
    simp only [ho, resolve, invoke, builtin, Sem.run_bind, Sem.run_pure, Result.andThen_ok, List.map_toArray, List.map_cons, List.map_nil, hs, hx, hr]
    exact hK _ _ (h v' w' h2 h3 h4)

/-- 's[k:]'. -/
theorem Seg.from (h : Seg w e size v n xs) {k : Nat} (hk : k ≤ n) {t : TypeId} (ht : P.underlying t = some (.slice e)) (hsz : (P.info? e).map (·.size) = some size) (kk : IntKind) :
    ∃ v', (Instr.slice t v (some (.int kk k)) none none).run P w = .ok v' w ∧ Seg w e size v' (n - k) (xs.drop (k * size)) ∧ (v'.ownBlock = v.ownBlock) := by
  obtain ⟨i, hi, hsi⟩ : ∃ i, P.info? e = some i ∧ i.size = size := by
    cases hp : P.info? e with
    | none => simp [hp] at hsz
    | some i => exact ⟨i, rfl, by simpa [hp] using hsz⟩
  rcases h.2.2 with ⟨rfl, rfl⟩ | ⟨g, off, cap, cur, rfl, hg, h1, h2, h3, h4⟩
  · obtain rfl : k = 0 := by omega
    refine ⟨.slice none 0 0, ?_, by simpa using h, rfl⟩
    simp [Instr.slice, run_underlying ht, Instr.sliceBounds, Instr.sliceBound, asIntOf, sizeOf, typeInfo, hi]
  · refine ⟨.slice (some (if cap = k then ⟨g, off, none⟩ else ⟨g, off + k * size, none⟩)) (n - k) (cap - k), ?_, ⟨?_, fun u hu => h.2.1 u (List.mem_of_mem_drop hu), .inr ?_⟩, by split <;> rfl⟩
    · by_cases hc : cap = k <;> simp [Instr.slice, run_underlying ht, Instr.sliceBounds, Instr.sliceBound, asIntOf, sizeOf, typeInfo, hi, hsi, addr_add, hc] <;> (intro; omega)
    · rw [List.length_drop, h.1, Nat.sub_mul]
    · by_cases hc : cap = k
      · rw [if_pos hc]
        have : n - k = 0 := by omega
        refine ⟨g, off, cap - k, cur, rfl, hg, by omega, by omega, by rw [Nat.sub_mul]; omega, ?_⟩
        have e0 : (xs.drop (k * size)).length = 0 := by rw [List.length_drop, h.1, ← Nat.sub_mul, this]; simp
        rw [this, List.eq_nil_of_length_eq_zero e0]; simp
      · rw [if_neg hc]
        refine ⟨g, off + k * size, cap - k, cur, rfl, hg, by omega, by omega, ?_, ?_⟩
        · have := Nat.mul_le_mul_right size (by omega : k ≤ cap)
          rw [Nat.sub_mul]; omega
        · rw [← h4, Nat.sub_mul, List.drop_take, List.drop_drop]

/-- 's[:k]'. -/
theorem Seg.to (h : Seg w e size v n xs) {k : Nat} (hk : k ≤ n) {t : TypeId} (ht : P.underlying t = some (.slice e)) (hsz : (P.info? e).map (·.size) = some size) (kk : IntKind) :
    ∃ v', (Instr.slice t v none (some (.int kk k)) none).run P w = .ok v' w ∧ Seg w e size v' k (xs.take (k * size)) ∧ (v'.ownBlock = v.ownBlock) := by
  obtain ⟨i, hi, hsi⟩ : ∃ i, P.info? e = some i ∧ i.size = size := by
    cases hp : P.info? e with
    | none => simp [hp] at hsz
    | some i => exact ⟨i, rfl, by simpa [hp] using hsz⟩
  rcases h.2.2 with ⟨rfl, rfl⟩ | ⟨g, off, cap, cur, rfl, hg, h1, h2, h3, h4⟩
  · obtain rfl : k = 0 := by omega
    refine ⟨.slice none 0 0, ?_, by simpa using Seg.nil w e size, rfl⟩
    simp [Instr.slice, run_underlying ht, Instr.sliceBounds, Instr.sliceBound, asIntOf, sizeOf, typeInfo, hi]
  · refine ⟨.slice (some ⟨g, off, none⟩) k cap, ?_, ⟨?_, fun u hu => h.2.1 u (List.mem_of_mem_take hu), .inr ⟨g, off, cap, cur, rfl, hg, by omega, h2, h3, ?_⟩⟩, rfl⟩
    · by_cases hc : cap = 0 <;> simp [Instr.slice, run_underlying ht, Instr.sliceBounds, Instr.sliceBound, asIntOf, sizeOf, typeInfo, hi, addr_add, hc] <;> (intro; omega)
    · rw [List.length_take, h.1]
      exact Nat.min_eq_left (Nat.mul_le_mul_right _ hk)
    · rw [← h4, List.take_take, Nat.min_eq_left (Nat.mul_le_mul_right _ hk)]

theorem set_take_drop (l : List Value) (off k j : Nat) (u : Value) (hj : j < k) : ((l.set (off + j) u).drop off).take k = ((l.drop off).take k).set j u := by
  rw [List.drop_set, if_neg (by omega), show off + j - off = j by omega, List.take_set]

/-- One cell is written. -/
theorem Seg.set {g off cap : Nat} (h : Seg w e size (.slice (some ⟨g, off, none⟩) n cap) n xs) {j : Nat} (hj : j < n * size) (u : Value) (hu : u.oneCell' = true) : Seg (w.setCell ⟨g, off + j, none⟩ u) e size (.slice (some ⟨g, off, none⟩) n cap) n (xs.set j u) := by
  rcases h.2.2 with ⟨e, _⟩ | ⟨g', off', cap', cur, e, hg, h1, h2, h3, h4⟩
  · cases e
  · simp only [Value.slice.injEq, Option.some.injEq, Addr.mk.injEq, and_true, true_and] at e
    obtain ⟨⟨rfl, rfl⟩, rfl⟩ := e
    refine ⟨by simpa using h.1, fun u' hu' => ?_, .inr ⟨g, off, cap, _, rfl, row_setCell hg (off + j) u, h1, h2, by simpa using h3, ?_⟩⟩
    · rcases List.mem_or_eq_of_mem_set hu' with h' | h'
      · exact h.2.1 u' h'
      · rw [h']; exact hu
    · rw [Array.toList_setIfInBounds, set_take_drop _ _ _ _ _ hj, h4]

/-- The values written out. -/
theorem Seg.to_lit {g off cap k : Nat} (h : Seg w e size (.slice (some ⟨g, off, none⟩) n cap) n xs) (hk : k ≤ n) : Seg w e size (.slice (some ⟨g, off, none⟩) k cap) k (xs.take (k * size)) := by
  rcases h.2.2 with ⟨e, _⟩ | ⟨g', off', cap', cur, e, hg, h1, h2, h3, h4⟩
  · cases e
  · simp only [Value.slice.injEq, Option.some.injEq, Addr.mk.injEq, and_true, true_and] at e
    obtain ⟨⟨rfl, rfl⟩, rfl⟩ := e
    refine ⟨?_, fun u hu => h.2.1 u (List.mem_of_mem_take hu), .inr ⟨g, off, cap, cur, rfl, hg, by omega, h2, h3, ?_⟩⟩
    · rw [List.length_take, h.1]; exact Nat.min_eq_left (Nat.mul_le_mul_right _ hk)
    · rw [← h4, List.take_take, Nat.min_eq_left (Nat.mul_le_mul_right _ hk)]
theorem Seg.from_lit {g off cap k : Nat} (h : Seg w e size (.slice (some ⟨g, off, none⟩) n cap) n xs) (hk : k ≤ n) (hc : cap ≠ k) : Seg w e size (.slice (some ⟨g, off + k * size, none⟩) (n - k) (cap - k)) (n - k) (xs.drop (k * size)) := by
  rcases h.2.2 with ⟨e, _⟩ | ⟨g', off', cap', cur, e, hg, h1, h2, h3, h4⟩
  · cases e
  · simp only [Value.slice.injEq, Option.some.injEq, Addr.mk.injEq, and_true, true_and] at e
    obtain ⟨⟨rfl, rfl⟩, rfl⟩ := e
    refine ⟨?_, fun u hu => h.2.1 u (List.mem_of_mem_drop hu), .inr ⟨g, off + k * size, cap - k, cur, rfl, hg, by omega, by omega, ?_, ?_⟩⟩
    · rw [List.length_drop, h.1, Nat.sub_mul]
    · have := Nat.mul_le_mul_right size (by omega : k ≤ cap)
      rw [Nat.sub_mul]; omega
    · rw [← h4, Nat.sub_mul, List.drop_take, List.drop_drop]
theorem Seg.none_lit {g off cap : Nat} (h : Seg w e size (.slice (some ⟨g, off, none⟩) n cap) n xs) (hc : cap = n) : Seg w e size (.slice (some ⟨g, off, none⟩) 0 0) 0 [] := by
  rcases h.2.2 with ⟨e, _⟩ | ⟨g', off', cap', cur, e, hg, h1, h2, h3, h4⟩
  · cases e
  · simp only [Value.slice.injEq, Option.some.injEq, Addr.mk.injEq, and_true, true_and] at e
    obtain ⟨⟨rfl, rfl⟩, rfl⟩ := e
    exact ⟨by simp, by simp, .inr ⟨g, off, 0, cur, rfl, hg, Nat.le_refl _, Nat.zero_le _, by omega, by simp⟩⟩

theorem step_append_seg {ops : Array Oper} {o : Oper} {a : Act} {K : Act → World → Prop} {Q : Exit → Act → World → Prop} {E : Prop} (hgd : o.guard = none) (s x : Operand) (t : TypeId)
    (ho : o.op = .call { callee := .builtin .append, args := #[s, x], argTypes := #[t, t] })
    (i : TypeInfo) (z : Value) (size bytes : Nat) (ht : P.underlying t = some (.slice e)) (hi : P.info? e = some i) (hz : i.zero = some z)
    (hsize : i.size = size) (hby : i.bytes = bytes) (hzs : z.cells.size = size) (hsz : 0 < size)
    (hs : a.eval s = v) (hown : Seg w e size v n xs) (xv : Value) (m : Nat) (news : List Value) (hx : a.eval x = xv) (hsrc : Src w size xv m news)
    (h63 : n + m ≤ maxLen) (hbytes : (n + m) * bytes ≤ 140737488355328)
    (h : ∀ v' w', Seg w' e size v' (n + m) (xs ++ news) → w.grownBy w' v.ownBlock → (v'.ownBlock = v.ownBlock ∨ v'.ownBlock = some w.heap.size) → K (a.put o.dst v') w') :
    if Region.wanted o (yielded ops a.tmps) = true then Oper.wp P o a w K Q else E := by
  have hw : Region.wanted o (yielded ops a.tmps) = true := by simp [Region.wanted, hgd]
  rw [if_pos hw]
  obtain ⟨v', w', hr, h2, h3, h4⟩ := run_append_seg (P := P) t o.type i z size bytes ht hi hz hsize hby hzs hsz hown xv m news hsrc h63 hbytes
  unfold Oper.wp execOp
  simp only [ho, resolve, invoke, builtin, Sem.run_bind, Sem.run_pure, Result.andThen_ok, List.map_toArray, List.map_cons, List.map_nil, hs, hx, hr]
  exact h v' w' h2 h3 h4

theorem wpList_from_seg {ops : Array Oper} {rest : List Oper} {o : Oper} {a : Act} {Q : Exit → Act → World → Prop} (hgd : o.guard = none) (x lo : Operand) (t : TypeId) (ho : o.op = .slice t x (some lo) none none)
    (h : Seg w e size v n xs) (k : Nat) (kk : IntKind) (hx : a.eval x = v) (hlo : a.eval lo = .int kk k) (hk : k ≤ n) (ht : P.underlying t = some (.slice e)) (hsz : (P.info? e).map (·.size) = some size)
    (hK : ∀ v', Seg w e size v' (n - k) (xs.drop (k * size)) → v'.ownBlock = v.ownBlock → wpList P ops Q rest (a.put o.dst v') w) : wpList P ops Q (o :: rest) a w :=
  wpList_plain hgd fun _ hK' => by
    obtain ⟨v', hr, h2, h3⟩ := h.from (P := P) hk ht hsz kk
    unfold Oper.wp execOp
    have ht' : P.underlying t = some (.slice (P.elem t)) := by simp [Program.elem, ht]
    simp only [ho, Option.map_some, Option.map_none, hlo, hx, Sem.run_bind, run_sliceAt_slice _ t _ _ _ _ ht', hr, Result.andThen_ok, Sem.run_pure]
    exact hK' _ _ (hK v' h2 h3)
theorem wpList_to_seg {ops : Array Oper} {rest : List Oper} {o : Oper} {a : Act} {Q : Exit → Act → World → Prop} (hgd : o.guard = none) (x hi : Operand) (t : TypeId) (ho : o.op = .slice t x none (some hi) none)
    (h : Seg w e size v n xs) (k : Nat) (kk : IntKind) (hx : a.eval x = v) (hhi : a.eval hi = .int kk k) (hk : k ≤ n) (ht : P.underlying t = some (.slice e)) (hsz : (P.info? e).map (·.size) = some size)
    (hK : ∀ v', Seg w e size v' k (xs.take (k * size)) → v'.ownBlock = v.ownBlock → wpList P ops Q rest (a.put o.dst v') w) : wpList P ops Q (o :: rest) a w :=
  wpList_plain hgd fun _ hK' => by
    obtain ⟨v', hr, h2, h3⟩ := h.to (P := P) hk ht hsz kk
    unfold Oper.wp execOp
    have ht' : P.underlying t = some (.slice (P.elem t)) := by simp [Program.elem, ht]
    simp only [ho, Option.map_some, Option.map_none, hhi, hx, Sem.run_bind, run_sliceAt_slice _ t _ _ _ _ ht', hr, Result.andThen_ok, Sem.run_pure]
    exact hK' _ _ (hK v' h2 h3)
end Go.Proofs.Ytdblilhkojafgaa
