/- A tally's turn: a vertex is so. -/
import Derived.Test.YtdblilhkojafgaaTA
import Derived.Test.YtdblilhkojafgaaVF
namespace Go.Proofs.Ytdblilhkojafgaa
set_option linter.unusedVariables false
open Go.RowKit Go.Maps

/-- In turn: the vertex is boxed; of what was there the tally's two maps alone have turned. -/
structure TuAt (w : World) (o : Array Value) (g bh bn : Nat) (Z : Zs) (en : Ents) (c : Nat → Nat) (m : Nat) (wx : World) : Prop where
  mod : Mod (fun k => k = bh ∨ k = bn) w wx
  box : wx.heap[w.heap.size]? = some (.cells o 31 (0, 0))
  tal : TAt wx g bh bn Z en c m
section
variable {w wx wy : World} {o : Array Value} {g bh bn : Nat} {Z : Zs} {en en' : Ents} {c c' : Nat → Nat} {m m' : Nat}
theorem TuAt.begin (h : TAt w g bh bn Z en c m) (o : Array Value) : TuAt w o g bh bn Z en c m (w.alloc (.cells o 31)) := ⟨(Mod.refl _ _).alloc _, heap_alloc_new' w _, h.keep ((Mod.refl _ _).alloc _)⟩
theorem TuAt.keep (h : TuAt w o g bh bn Z en c m wx) (mm : Mod (fun _ => False) wx wy) : TuAt w o g bh bn Z en c m wy := ⟨h.mod.trans (mm.mono (fun _ _ f => f.elim)), mm.heap h.box (fun f => f), h.tal.keep mm⟩
theorem TuAt.name (h : TuAt w o g bh bn Z en c m wx) (hU : UMap Try.prog 27 .u32 wy bn en') (mm : Mod (fun i => i = bn) wx wy) (hc : Cnt en' c') (hl : en'.length ≤ m') (hm : m ≤ m') (ht : ∀ k, c' k ≤ m') : TuAt w o g bh bn Z en' c' m' wy :=
  ⟨h.mod.trans (mm.mono (fun k _ e => .inr e)), mm.heap h.box (fun e => by have h1 := map_ne_cells h.tal.named h.box; omega), h.tal.name hU mm hc hl hm ht⟩
theorem TuAt.hold {Z' : Zs} (h : TuAt w o g bh bn Z en c m wx) (hU : UMap Try.prog 27 .u32 wy bh (entsZ Z')) (mm : Mod (fun i => i = bh) wx wy) (hz : ∀ z ∈ Z', SegZ wx bh bn z) (hm : m ≤ m') (hl : Z'.length ≤ m') : TuAt w o g bh bn Z' en c m' wy :=
  ⟨h.mod.trans (mm.mono (fun k _ e => .inl e)), mm.heap h.box (fun e => by have h1 := map_ne_cells h.tal.held h.box; omega), h.tal.hold hU mm hz hm hl⟩
end
/-- What is held under a number: a slice, and its numbers. -/
theorem held_rd {w : World} {g bh bn : Nat} {Z : Zs} {en : Ents} {c : Nat → Nat} {m : Nat} (h : TAt w g bh bn Z en c m) (id : Nat) : ∃ l, (getG id (namesZ Z)).getD [] = l ∧ RdS w 1 ((getL id (entsZ Z)).getD (.slice none 0 0)) l.length (l.map (keyV .u32)) ∧
    (∀ b, ((getL id (entsZ Z)).getD (.slice none 0 0)).ownBlock = some b → b ≠ bh ∧ b ≠ bn) ∧ (∀ f ∈ l, f < 4294967296) ∧ l.length ≤ 999999 * 0 + l.length := by
  rw [getL_entsZ, getG_namesZ]
  cases hg : getG id Z with
  | none => exact ⟨[], rfl, (Seg.nil w 27 1).rdS, fun b hb => by simp [Value.ownBlock] at hb, fun f hf => (by cases hf), by omega⟩
  | some z =>
    have hz := h.seg _ (getG_mem hg)
    exact ⟨z.2, rfl, hz.rd, hz.apart, hz.fit, by omega⟩

theorem TuAt.alike {w wx : World} {o : Array Value} {g bh bn : Nat} {Z : Zs} {en : Ents} {c c' : Nat → Nat} {m : Nat} (h : TuAt w o g bh bn Z en c m wx) (e : ∀ k, c' k = c k) : TuAt w o g bh bn Z en c' m wx := by
  have : c' = c := funext e
  rw [this]; exact h
theorem TAt.up {w : World} {g bh bn : Nat} {Z : Zs} {en : Ents} {c : Nat → Nat} {m m' : Nat} (h : TAt w g bh bn Z en c m) (hm : m ≤ m') : TAt w g bh bn Z en c m' :=
  ⟨h.box, h.held, h.named, h.ne, h.seg, h.cnt, Nat.le_trans h.len hm, Nat.le_trans h.zlen hm, fun k => Nat.le_trans (h.top k) hm⟩
theorem TuAt.dropHeld {w wx wy : World} {o : Array Value} {g bh bn : Nat} {Z : Zs} {en : Ents} {c : Nat → Nat} {m id : Nat} (h : TuAt w o g bh bn Z en c m wx) (hU : UMap Try.prog 27 .u32 wy bh (delL id (entsZ Z))) (mm : Mod (fun i => i = bh) wx.drew wy) : TuAt w o g bh bn (delG id Z) en c m wy := by
  rw [delL_entsZ] at hU
  have mm' : Mod (fun i => i = bh) wx wy := ⟨mm.os, mm.tape, mm.output, mm.size, mm.block⟩
  exact h.hold hU mm' (fun z hz => h.tal.seg z (mem_delG.1 hz).1) (Nat.le_refl _) (Nat.le_trans (delG_length _ _) h.tal.zlen)
theorem cell_ne_map {w : World} {P : Program} {kt : TypeId} {q : IntKind} {b : Nat} {es : Ents} {a : Addr} {v : Value} (hU : UMap P kt q w b es) (hc : w.cell? a = some v) : a.block ≠ b := by
  intro e
  obtain ⟨⟨es', clock, hm, _⟩⟩ := hU
  unfold World.cell? at hc
  rw [e, hm] at hc
  simp at hc
theorem Mod.cellS {S : Nat → Prop} {w w' : World} (m : Mod S w w') {a : Addr} {v : Value} (h : w.cell? a = some v) (hs : ¬ S a.block) : w'.cell? a = some v :=
  (World.cell?_of_block (w := w) (m.block a.block (World.block_lt_of_cell? _ _ h) hs)).trans h
theorem TuAt.fresh {S : Nat → Prop} {w wx wy : World} {o : Array Value} {g bh bn : Nat} {Z : Zs} {en : Ents} {c : Nat → Nat} {m : Nat} (h : TuAt w o g bh bn Z en c m wx) (mm : Mod S wx wy) (hS : ∀ k, S k → w.heap.size < k) (hz : ∀ z ∈ Z, ∀ b, z.2.1.ownBlock = some b → b < w.heap.size) (hg : g < w.heap.size) (h1 : bh < w.heap.size) (h2 : bn < w.heap.size) : TuAt w o g bh bn Z en c m wy :=
  ⟨h.mod.trans' mm (fun i hi hs => absurd (hS i hs) (by omega)), mm.heap h.box (fun hs => absurd (hS _ hs) (by omega)),
   ⟨mm.heap h.tal.box (fun hs => absurd (hS _ hs) (by omega)), h.tal.held.mod mm (fun hs => absurd (hS _ hs) (by omega)), h.tal.named.mod mm (fun hs => absurd (hS _ hs) (by omega)), h.tal.ne,
    fun z hz' => (h.tal.seg z hz').mod mm (fun b hb hs => absurd (hS b hs) (by have := hz z hz' b hb; omega)), h.tal.cnt, h.tal.len, h.tal.zlen, h.tal.top⟩⟩
theorem delG_delG {β : Type} (k : Nat) (l : List (Nat × β)) : delG k (delG k l) = delG k l := by simp [delG, List.filter_filter]
theorem make_u32 (n : Nat) (hn : n < 999999) (w : World) : ∃ w', (Instr.makeSlice 50 (.int .i64 0) (.int .i64 (n : Int))).run Try.prog w = .ok (.slice (some ⟨w.heap.size, 0, none⟩) 0 n) w' ∧ Seg w' 27 1 (.slice (some ⟨w.heap.size, 0, none⟩) 0 n) 0 [] ∧ Mod (fun _ => False) w w' := by
  obtain ⟨i0, hi, hz0, hz1, hz2⟩ := info_parts infoU32
  have hr := run_make (P := Try.prog) w 50 27 i0 _ Try.underlying50 hi hz0 .i64 .i64 0 n (by omega) (by omega) (by rw [hz2]; omega) (by omega)
  simp only [Int.toNat_zero, Int.toNat_natCast] at hr
  refine ⟨_, hr, ⟨by simp, by simp, .inr ⟨w.heap.size, 0, n, _, rfl, heap_alloc_new' w _, Nat.zero_le _, by unfold maxLen; omega, by rw [size_madeCells, hz1]; omega, by simp⟩⟩, (Mod.refl _ w).alloc _⟩
theorem RdS.ent2 {w : World} {kk : IntKind} {v : Value} {n : Nat} {l : List Ent} (h : RdS w 4 v n (cellsOf kk l)) {i : Nat} {x : Ent} (hi : l[i]? = some x) {a : Option Addr} {c : Nat} (e : v = .slice a n c) :
    ∃ b off, a = some ⟨b, off, none⟩ ∧ b < w.heap.size ∧ w.cell? ⟨b, off + i * 4, none⟩ = some (.int kk (x.key : Int)) ∧ w.cell? ⟨b, off + i * 4 + 1, none⟩ = some (.int .u8 (x.val.k : Int)) ∧ w.cell? ⟨b, off + i * 4 + 2, none⟩ = some (.int .i64 x.val.n) ∧ w.cell? ⟨b, off + i * 4 + 3, none⟩ = some (.string x.val.s) := h.ent hi e
/-- The list that is being made in turn. -/
structure FarAt (w : World) (v : Value) (l : List Nat) (wx : World) : Prop where
  seg : Seg wx 27 1 v l.length (l.map (keyV .u32))
  own : ∀ b, v.ownBlock = some b → w.heap.size < b
theorem FarAt.snoc {w wr w3 : World} {v v3 : Value} {l : List Nat} {key : Nat} {o o' : Obj} (h : FarAt w v l wr) (hb : w.heap.size < wr.heap.size) (hs : Seg w3 27 1 v3 (l.length + 1) (l.map (keyV .u32) ++ [.int .u32 (key : Int)])) (ho : v3.ownBlock = v.ownBlock ∨ v3.ownBlock = some ((wr.alloc o).alloc o').heap.size) : FarAt w v3 (l ++ [key]) w3 :=
  ⟨by simpa [keyV] using hs, fun b hb' => by
    rcases ho with e | e
    · exact h.own b (e ▸ hb')
    · rw [e] at hb'; simp at hb'; omega⟩
theorem FarAt.mod {S : Nat → Prop} {w wx wy : World} {v : Value} {l : List Nat} (h : FarAt w v l wx) (mm : Mod S wx wy) (hS : ∀ k, S k → k < w.heap.size) : FarAt w v l wy := ⟨h.seg.mod mm (fun k hk hs => by have := h.own k hk; have := hS k hs; omega), h.own⟩
theorem addC_top {c : Nat → Nat} {m : Nat} (h : ∀ k, c k ≤ m) (l : List Nat) (k : Nat) : addC c l k ≤ m + l.length := by
  unfold addC
  have := h k
  have := List.count_le_length (a := k) (l := l)
  omega
theorem count_le_tot {Z : Zs} (hr : Ris Z) {id : Nat} {l : List Nat} (h : (getG id (namesZ Z)).getD [] = l) (f : Nat) : l.count f ≤ tot (namesZ Z) f := by
  have hr' : Ris (namesZ Z) := by unfold Ris namesZ mapG; rw [List.pairwise_map]; exact hr
  cases hg : getG id (namesZ Z) with
  | none => rw [hg] at h; subst h; simp
  | some l' =>
    rw [hg] at h
    have e : l' = l := h
    subst e
    have := tot_del hr' hg f
    omega
theorem tot_less {Z : Zs} (hr : Ris Z) {id : Nat} {l : List Nat} (h : (getG id (namesZ Z)).getD [] = l) (f : Nat) : subC (tot (namesZ Z)) l f = tot (namesZ (delG id Z)) f := by
  have hr' : Ris (namesZ Z) := by unfold Ris namesZ mapG; rw [List.pairwise_map]; exact hr
  unfold subC
  rw [← delG_namesZ]
  cases hg : getG id (namesZ Z) with
  | none =>
    rw [hg] at h
    have e : l = [] := h.symm
    subst e
    rw [delG_none hg]; simp
  | some l' =>
    rw [hg] at h
    have e : l' = l := h
    subst e
    have := tot_del hr' hg f
    omega
theorem put_same_length {es : Ents} {f : Nat} (h : getL f es ≠ none) (v : Value) : (putL f v es).length ≤ es.length := by
  have h1 := putL_length' f v es
  have h2 : (delL f es).length < es.length := by
    unfold delL
    rw [← List.countP_eq_length_filter]
    rcases Nat.lt_or_ge (es.countP fun p => !(p.1 == f)) es.length with h3 | h3
    · exact h3
    · exfalso
      apply h
      have h4 : es.countP (fun p => !(p.1 == f)) = es.length := Nat.le_antisymm List.countP_le_length h3
      rw [List.countP_eq_length] at h4
      unfold getL
      rw [Option.map_eq_none_iff, List.find?_eq_none]
      intro p hp
      simpa using h4 p hp
  omega
theorem take_count {l : List Nat} {k f : Nat} (h : l[k]? = some f) : l.take (k + 1) = l.take k ++ [f] ∧ (l.take k).count f + 1 ≤ l.count f := by
  obtain ⟨hk, he⟩ := List.getElem?_eq_some_iff.1 h
  have e : l.take (k + 1) = l.take k ++ [f] := by rw [List.take_succ_eq_append_getElem hk, he]
  refine ⟨e, ?_⟩
  have h1 : (l.take (k + 1)).count f ≤ l.count f := (List.take_sublist _ _).count_le _
  rw [e, List.count_append] at h1
  simpa using h1
/-- Who is newly held lies in new memory. -/
def FreshZ (w : World) (Z Z' : Zs) : Prop := ∀ z ∈ Z', z ∈ Z ∨ ∀ b, z.2.1.ownBlock = some b → w.heap.size ≤ b

set_option maxRecDepth 100000 in
set_option maxHeartbeats 4000000 in
theorem turn_fresh (x : Vtx) (vp vh : Value) (g bh bn : Nat) (Z : Zs) (en : Ents) (m : Nat) (w : World) (hx : VRd w vp vh x) (hT : TAt w g bh bn Z en (tot (namesZ Z)) m) (hm : m + x.halves.length + 1 < 999999) :
    Calls Try.prog 55 #[.pointer (some ⟨g, 0, none⟩), vtxV x vp vh] w fun e w' => e = .returned (.tuple #[]) ∧ ∃ Z' en', TAt w' g bh bn Z' en' (tot (namesZ Z')) (m + x.halves.length + 1) ∧ namesZ Z' = turnH x.id x.there (x.halves.map Ent.key) (namesZ Z) ∧ Mod (fun k => k = bh ∨ k = bn) w w' ∧ FreshZ w Z Z' := by
  have HT := Lib.hid hT
  have HX := Lib.hid hx
  have hid := hx.fits.id
  have HID := Lib.hid (u32key hid)
  have b0 := cell_of_row hT.box 0
  have b1 := cell_of_row hT.box 1
  simp at b0 b1
  have zg := lt_of_block hT.box
  obtain ⟨l0, hl0, hr0, ha0, hf0, -⟩ := held_rd hT x.id
  have q1 : ∀ w', Mod (fun _ => False) w w' → (Instr.lookup 108 (.map (some bh)) (.int .u32 (x.id : Int)) false).run Try.prog w' = .ok ((getL x.id (entsZ Z)).getD (.slice none 0 0)) w' := fun w' mm =>
    (hT.held.keep mm).get Try.underlying27 Try.underlying108 (Try.zeroValue50 w') (u32key hid)
  have HL0 := Lib.hid hl0
  have HR0 := Lib.hid hr0
  have HA0 := Lib.hid ha0
  have HF0 := Lib.hid hf0
  obtain ⟨ao, co, hsv, hcs1, hcs2, -⟩ := hr0.shape
  rw [hsv] at HR0 HA0 q1
  have r1 := q1 _ ((Mod.refl _ w).alloc (.cells #[.int .u32 (x.id : Int), .bool x.there, vp, vh] 31))
  have r2 := q1 _ (((Mod.refl _ w).alloc (.cells #[.int .u32 (x.id : Int), .bool x.there, vp, vh] 31)).drew)
  clear hl0 hr0 ha0 hf0 hsv q1
  show Calls _ _ #[.pointer (some ⟨g, 0, none⟩), .agg #[.int .u32 (x.id : Int), .bool x.there, vp, vh]] w _
  have HB := Lib.hid (TuAt.begin hT #[.int .u32 (x.id : Int), .bool x.there, vp, vh])
  obtain ⟨n, hn⟩ : ∃ n, n = l0.length := ⟨_, rfl⟩
  have HN := Lib.hid hn
  rw [← hn] at HR0 HA0 hcs1 r1 r2
  clear hn hT hx
  obtain ⟨id, there, ps, hs⟩ := x
  simp only at r1 r2 HB HID hid hm HL0 HX ⊢
  have HH := Lib.hid HX.out.halves
  obtain ⟨ah, ch, rfl, hch1, hch2, -⟩ := HX.out.halves.shape
  have HFH := Lib.hid HX.out.fits.halves
  simp only at hch1 HH HFH
  obtain ⟨nh, hnh⟩ : ∃ nh, nh = hs.length := ⟨_, rfl⟩
  have HNH := Lib.hid hnh
  rw [← hnh] at HH hch1 hm r1 r2 HB ⊢
  clear hnh HX
  go_enter Try.func55, Try.ntmps55
  go_wp2
  go_region
  all_goals go_wp2
  have HB1 := Lib.hid (HB.out.keep ((Mod.refl (fun _ => False) _).drew))
  have HRI := Lib.hid HT.out.rising
  have HTOP := Lib.hid HT.out.top
  clear r1 r2 b0 b1
  go_loopw [17] (fun i wr => ∃ (k : Nat) (en' : Ents), i = .int .i64 k ∧ k ≤ n ∧ Hid (TuAt w #[.int .u32 (id : Int), .bool there, vp, .slice ah nh ch] g bh bn Z en' (subC (tot (namesZ Z)) (l0.take k)) m wr)) (fun i _ => n - (intOf i).toNat)
  case atStart => exact ⟨0, en, rfl, Nat.zero_le _, HB1.out.alike (fun k => by simp [subC])⟩
  case round =>
    obtain ⟨k, en', rfl, hk, HK⟩ := hrel
    have b0 := cell_of_row HK.out.tal.box 0
    have b1 := cell_of_row HK.out.tal.box 1
    have bx := cell_of_row HK.out.box 0
    have bt := cell_of_row HK.out.box 1
    have bh3 := cell_of_row HK.out.box 3
    simp at b0 b1 bx bt bh3
    by_cases hkn : k < n
    · obtain ⟨f, hf⟩ : ∃ f, l0[k]? = some f := ⟨_, List.getElem?_eq_getElem (by rw [← HN.out]; exact hkn)⟩
      have HTC := Lib.hid (take_count hf)
      have hff := HF0.out f (List.mem_of_getElem? hf)
      obtain ⟨b, off, rfl, hb, p0⟩ := (HR0.out.mod HK.out.mod (fun b hb e => by have := HA0.out b hb; omega)).cell ao co rfl k (.int .u32 (f : Int)) (by rw [List.getElem?_map, hf]; rfl)
      have HCF : Hid (subC (tot (namesZ Z)) (l0.take (k + 1)) = fun j => if j = f then subC (tot (namesZ Z)) (l0.take k) j - 1 else subC (tot (namesZ Z)) (l0.take k) j) := Lib.hid (by rw [HTC.out.1, subC_snoc])
      obtain ⟨cf, hcf⟩ : ∃ cf, cf = subC (tot (namesZ Z)) (l0.take k) f := ⟨_, rfl⟩
      have hcf1 : 1 ≤ cf := by
        have h1 := count_le_tot HRI.out HL0.out f
        have h2 := HTC.out.2
        rw [hcf]; unfold subC; omega
      have hcfm : cf < 999999 := by
        have h1 := HK.out.tal.top f
        rw [← hcf] at h1; omega
      have HC := Lib.hid hcf
      have HWF := Lib.hid (u32key hff)
      have q1 := HK.out.tal.named.get Try.underlying27 Try.underlying109 (Try.zeroValue3 wr) (u32key hff)
      rw [HK.out.tal.cnt.read hff, ← hcf] at q1
      obtain ⟨w2, s2, hU2, hM2⟩ := HK.out.tal.named.store Try.underlying27 Try.underlying109 (Nat.lt_of_le_of_lt HK.out.tal.len (by unfold maxLen; omega)) (u32key hff) (.int .i64 ((cf : Int) - 1))
      have c0 := cell_of_row (hM2.heap HK.out.tal.box HK.out.tal.gn) 0
      have c1 := cell_of_row (hM2.heap HK.out.tal.box HK.out.tal.gn) 1
      simp at c0 c1
      have q2 := hU2.get Try.underlying27 Try.underlying109 (Try.zeroValue3 w2) (u32key hff)
      rw [getL_putL, if_pos rfl] at q2
      simp only [Option.getD_some] at q2
      have HU2 := Lib.hid hU2
      have HM2 := Lib.hid hM2
      have HL2 : Hid ((putL f (.int .i64 ((cf : Int) - 1)) en').length ≤ m) := Lib.hid (Nat.le_trans (put_same_length (by rw [HK.out.tal.cnt f hff, ← hcf, if_neg (by omega)]; simp) _) HK.out.tal.len)
      have HTP : Hid (∀ j, subC (tot (namesZ Z)) (l0.take (k + 1)) j ≤ m) := Lib.hid (fun j => Nat.le_trans (Nat.sub_le _ _) (HTOP.out j))
      clear hf hcf hU2 hM2
      by_cases h1 : cf = 1
      · have e0 : ((cf : Int) - 1 == 0) = true := by simp; omega
        have HFIN : Hid (∀ w3, UMap Try.prog 27 .u32 w3 bn (delL f (putL f (.int .i64 ((cf : Int) - 1)) en')) → Mod (fun i => i = bn) w2 w3 → TuAt w #[.int .u32 (id : Int), .bool there, vp, .slice ah nh ch] g bh bn Z (delL f (putL f (.int .i64 ((cf : Int) - 1)) en')) (subC (tot (namesZ Z)) (l0.take (k + 1))) m w3) := Lib.hid (fun w3 hU3 hM3 =>
          HK.out.name hU3 (HM2.out.trans hM3) (by rw [HCF.out]; exact HK.out.tal.cnt.drop _ (by rw [← HC.out]; exact h1)) (Nat.le_trans (delL_length _ _) HL2.out) (Nat.le_refl _) HTP.out)
        clear h1
        obtain ⟨w3, s3, hU3, hM3⟩ := HU2.out.drop Try.underlying27 Try.underlying109 HWF.out 0
        have HF3 := Lib.hid (HFIN.out w3 hU3 hM3)
        clear hU3 hM3
        go_wp2
        go_roundw
        case rel => exact ⟨k + 1, _, by go_num, by omega, HF3.out⟩
        case measure => simp [intOf]; omega
      · have e0 : ((cf : Int) - 1 == 0) = false := by simp; omega
        have HFIN : Hid (TuAt w #[.int .u32 (id : Int), .bool there, vp, .slice ah nh ch] g bh bn Z (putL f (.int .i64 ((cf : Int) - 1)) en') (subC (tot (namesZ Z)) (l0.take (k + 1))) m w2) := Lib.hid (by
          have e1 : ((cf : Int) - 1) = ((cf - 1 : Nat) : Int) := by omega
          refine HK.out.name HU2.out HM2.out ?_ HL2.out (Nat.le_refl _) HTP.out
          rw [HCF.out, e1, HC.out]
          exact HK.out.tal.cnt.dec hff (by rw [← HC.out]; omega) (by rw [← HC.out]; exact h1))
        clear h1
        go_wp2
        go_roundw
        case rel => exact ⟨k + 1, _, by go_num, by omega, HFIN.out⟩
        case measure => simp [intOf]; omega
    · have HE : Hid (TuAt w #[.int .u32 (id : Int), .bool there, vp, .slice ah nh ch] g bh bn Z en' (tot (namesZ (delG id Z))) m wr) := Lib.hid (HK.out.alike (fun j => by
        rw [← tot_less HRI.out HL0.out, List.take_of_length_le (by have := HN.out; omega)]))
      go_wp2_with fail
      go_region_law (refine step_delete_u rfl (.tmp 44) (.tmp 46) 108 rfl _ Try.underlying108 Try.underlying27 rfl HE.out.tal.held.drew id rfl HID.out ?_; intro w5 hU hM)
      all_goals
        have HE5 := Lib.hid (HE.out.dropHeld hU hM)
        clear hU hM
        have d0 := cell_of_row HE5.out.tal.box 0
        have d1 := cell_of_row HE5.out.tal.box 1
        have dx := cell_of_row HE5.out.box 0
        have dt := cell_of_row HE5.out.box 1
        have d3 := cell_of_row HE5.out.box 3
        simp at d0 d1 dx dt d3
        cases there
        · go_wp2
          refine bodyPost_ret (results_none rfl _ _ _) rfl ?_
          exact ⟨rfl, delG id Z, en', HE5.out.tal.up (by omega), by rw [← delG_namesZ]; rfl, HE5.out.mod, fun z hz => .inl (mem_delG.1 hz).1⟩
        · obtain ⟨w6, s6, hs6, hm6⟩ := make_u32 nh (by omega) w5
          have HE6 := Lib.hid (HE5.out.keep hm6)
          have HS6 := Lib.hid hs6
          have z6 : w.heap.size < w5.heap.size := by have := lt_of_block HE5.out.box; omega
          have d0 := cell_of_row HE6.out.tal.box 0
          have d1 := cell_of_row HE6.out.tal.box 1
          have dx := cell_of_row HE6.out.box 0
          have dt := cell_of_row HE6.out.box 1
          have d3 := cell_of_row HE6.out.box 3
          simp at d0 d1 dx dt d3
          clear hs6 hm6
          go_wp2_with fail
          obtain ⟨i0, hi, hz0, hz1, hz2⟩ := info_parts infoU32
          have HI : Hid (Try.prog.info? 27 = some i0 ∧ i0.zero = some (.int .u32 0) ∧ i0.size = 1 ∧ i0.bytes = 4) := ⟨hi, hz0, hz1, hz2⟩
          have HZ : Hid (∀ z ∈ delG id Z, ∀ b, z.2.1.ownBlock = some b → b < w.heap.size) := Lib.hid (fun z hz => (HT.out.seg z (mem_delG.1 hz).1).lt)
          have HBN : Hid (bh < w.heap.size ∧ bn < w.heap.size) := ⟨HT.out.held.lt, HT.out.named.lt⟩
          have HE5z : Hid ((delG id Z).length ≤ m) := Lib.hid HE5.out.tal.zlen
          have HTP : Hid (∀ j, tot (namesZ (delG id Z)) j ≤ m) := Lib.hid HE5.out.tal.top
          clear hi hz0 hz1 hz2 d0 d1 dx dt d3 s6
          go_loopw [57, 6] (fun i v wr => ∃ (j : Nat) (en2 : Ents), i = .int .i64 j ∧ j ≤ nh ∧ Hid (FarAt w v ((hs.map Ent.key).take j) wr) ∧ Hid (TuAt w #[.int .u32 (id : Int), .bool true, vp, .slice ah nh ch] g bh bn (delG id Z) en2 (addC (tot (namesZ (delG id Z))) ((hs.map Ent.key).take j)) (m + j) wr)) (fun i _ _ => nh - (intOf i).toNat)
          case atStart => exact ⟨0, en', rfl, Nat.zero_le _, ⟨HS6.out, fun b hb => by simp [Value.ownBlock] at hb; omega⟩, HE6.out.alike (fun k => by simp [addC])⟩
          case round =>
            obtain ⟨j, en2, rfl, hj, HF, HJ⟩ := hrel
            clear HE6 HS6 HE5
            have d0 := cell_of_row HJ.out.tal.box 0
            have d1 := cell_of_row HJ.out.tal.box 1
            have dx := cell_of_row HJ.out.box 0
            simp at d0 d1 dx
            obtain ⟨av, nv, cv, hvv⟩ : ∃ a n c, u6 = .slice a n c := by
              obtain ⟨a, c, e, _⟩ := HF.out.seg.shape
              exact ⟨_, _, _, e⟩
            subst hvv
            by_cases hjn : j < nh
            · obtain ⟨e0, he0⟩ : ∃ e0, hs[j]? = some e0 := ⟨_, List.getElem?_eq_getElem (by rw [← HNH.out]; exact hjn)⟩
              have hmap : (hs.map Ent.key)[j]? = some e0.key := by rw [List.getElem?_map, he0]; rfl
              have HTC := Lib.hid (take_count hmap)
              have hff := HFH.out e0 (List.mem_of_getElem? he0)
              obtain ⟨b, off, rfl, hb, p0, p1, p2, p3⟩ := HH.out.ent2 he0 rfl
              have hnb : ¬ (b = bh ∨ b = bn) := by
                have h1 := cell_ne_map HT.out.held p0
                have h2 := cell_ne_map HT.out.named p0
                simp only at h1 h2; omega
              have p0 := HJ.out.mod.cellS p0 hnb
              have p1 := HJ.out.mod.cellS p1 hnb
              have p2 := HJ.out.mod.cellS p2 hnb
              have p3 := HJ.out.mod.cellS p3 hnb
              have zb : b < wr.heap.size := Nat.lt_of_lt_of_le hb HJ.out.mod.size
              have zb2 : b ≠ wr.heap.size := by omega
              have HWF := Lib.hid (u32key hff.1)
              have HLEN : Hid (((hs.map Ent.key).take j).length = j ∧ ((hs.map Ent.key).take (j + 1)).length = j + 1) := Lib.hid ⟨by rw [List.length_take, List.length_map, ← HNH.out]; omega, by rw [List.length_take, List.length_map, ← HNH.out]; omega⟩
              have HKF := Lib.hid hff.1
              clear he0 hmap hff hnb hb
              obtain ⟨key, vk, vn, vs⟩ := e0
              simp only at p0 p1 p2 p3 HTC HWF HKF
              have HA := Lib.hid ((HF.out.seg.alloc (.cells #[.int .u32 (key : Int), .int .u8 (vk : Int), .int .i64 vn, .string vs] 96)).alloc (.cells #[.int .u32 (key : Int)] 27))
              have HSR := Lib.hid (src_cells (w := wr.alloc (.cells #[.int .u32 (key : Int), .int .u8 (vk : Int), .int .i64 vn, .string vs] 96)) (n0 := wr.heap.size + 1) (by simp) (size := 1) 27 #[.int .u32 (key : Int)] rfl (by simp [Value.oneCell']))
              go_wp2_with (at_builtin; refine wpList_append_seg rfl (.tmp 61) (.tmp 64) 50 rfl i0 _ 1 4 Try.underlying50 HI.out.1 HI.out.2.1 HI.out.2.2.1 HI.out.2.2.2 rfl (by decide) rfl HA.out _ 1 _ rfl HSR.out (by have := HLEN.out.1; unfold maxLen; omega) (by have := HLEN.out.1; omega) ?_; (intro v3 w3 hs3 hg3 ho3)
                           have HG3 := Lib.hid (And.intro hs3 (And.intro hg3 ho3))
                           obtain ⟨v4, hv4⟩ : ∃ v4, v4 = v3 := ⟨_, rfl⟩
                           have HV4 := Lib.hid hv4
                           obtain ⟨a3, n3, c3, rfl⟩ : ∃ a n c, v3 = .slice a n c := (by obtain ⟨a, c, e, _⟩ := hs3.shape; exact ⟨_, _, _, e⟩)
                           clear hs3 hg3 ho3 hv4
                           have hM3 : Mod (fun k => w.heap.size < k) wr w3 := (((Mod.refl _ wr).alloc _).alloc _).grown HG3.out.2.1 (fun b hb _ => HF.out.own b hb)
                           have HM3 := Lib.hid hM3
                           have hJ3 := HJ.out.fresh hM3 (fun _ h => h) HZ.out zg HBN.out.1 HBN.out.2
                           have HJ3 := Lib.hid hJ3
                           have f0 := cell_of_row hJ3.tal.box 0
                           have f1 := cell_of_row hJ3.tal.box 1
                           have f2 := cell_of_row hJ3.box 0
                           simp at f0 f1 f2
                           have hh : w3.heap[wr.heap.size]? = some (.cells #[.int .u32 (key : Int), .int .u8 (vk : Int), .int .i64 vn, .string vs] 96 (0, 0)) := (HG3.out.2.1.block wr.heap.size (by simp; omega) (fun e => by have := HF.out.seg.lt _ e.symm; omega)).trans (heap_alloc_old (heap_alloc_new' wr _))
                           have f3 := cell_of_row hh 0
                           simp at f3
                           clear hM3 hJ3 hh)
              have HF3 : Hid (FarAt w (.slice a3 n3 c3) ((hs.map Ent.key).take (j + 1)) w3) := Lib.hid (by
                rw [HTC.out.1]
                exact HF.out.snoc (by have := lt_of_block HJ.out.box; omega) HG3.out.1 HG3.out.2.2)
              have HKC : Hid (addC (tot (namesZ (delG id Z))) ((hs.map Ent.key).take (j + 1)) = fun x => if x = key then addC (tot (namesZ (delG id Z))) ((hs.map Ent.key).take j) x + 1 else addC (tot (namesZ (delG id Z))) ((hs.map Ent.key).take j) x) := Lib.hid (by rw [HTC.out.1, addC_snoc])
              obtain ⟨cf, hcf⟩ : ∃ cf, cf = addC (tot (namesZ (delG id Z))) ((hs.map Ent.key).take j) key := ⟨_, rfl⟩
              have hcfm : cf < 999999 := by
                have h1 := HJ.out.tal.top key
                rw [← hcf] at h1; omega
              have HC := Lib.hid hcf
              have q0 := HJ3.out.tal.named.get Try.underlying27 Try.underlying109 (Try.zeroValue3 w3) HWF.out
              rw [HJ3.out.tal.cnt.read HKF.out, ← hcf] at q0
              have q1 := HJ3.out.tal.named.drew.get Try.underlying27 Try.underlying109 (Try.zeroValue3 w3.drew) HWF.out
              rw [HJ3.out.tal.cnt.read HKF.out, ← hcf] at q1
              obtain ⟨w8, s8, hU8, hM8⟩ := HJ3.out.tal.named.drew.store Try.underlying27 Try.underlying109 (Nat.lt_of_le_of_lt HJ3.out.tal.len (by unfold maxLen; omega)) HWF.out (.int .i64 ((cf : Int) + 1))
              have HJ8 : Hid (TuAt w #[.int .u32 (id : Int), .bool true, vp, .slice (some ⟨b, off, none⟩) nh ch] g bh bn (delG id Z) (putL key (.int .i64 ((cf : Int) + 1)) en2) (addC (tot (namesZ (delG id Z))) ((hs.map Ent.key).take (j + 1))) (m + (j + 1)) w8) := Lib.hid (by
                have mm : Mod (fun i => i = bn) w3 w8 := ⟨hM8.os, hM8.tape, hM8.output, hM8.size, hM8.block⟩
                refine HJ3.out.name hU8 mm ?_ (Nat.le_trans (putL_length _ _ _) (by have := HJ3.out.tal.len; omega)) (by omega) (fun x => Nat.le_trans (addC_top HTP.out _ x) (by rw [HLEN.out.2]; omega))
                have e1 : ((cf : Int) + 1) = ((cf + 1 : Nat) : Int) := by omega
                rw [HKC.out, e1, HC.out]
                exact HJ3.out.tal.cnt.inc)
              have HF8 : Hid (FarAt w (.slice a3 n3 c3) ((hs.map Ent.key).take (j + 1)) w8) := Lib.hid (HF3.out.mod (S := fun i => i = bn) ⟨hM8.os, hM8.tape, hM8.output, hM8.size, hM8.block⟩ (fun k hk => by rw [hk]; exact HBN.out.2))
              clear hcf hU8 hM8
              go_region
              all_goals go_wp2
              go_roundw
              case rel => exact ⟨j + 1, _, by go_num, by omega, HF8.out, HJ8.out⟩
              case measure => simp [intOf]; omega
            · have HKY : Hid ((hs.map Ent.key).take j = hs.map Ent.key) := Lib.hid (List.take_of_length_le (by rw [List.length_map, ← HNH.out]; omega))
              have hjn2 : j = nh := by omega
              obtain ⟨w9, s9, hU9, hM9⟩ := HJ.out.tal.held.drew.store Try.underlying27 Try.underlying108 (by have := HJ.out.tal.zlen; simp only [entsZ, mapG, List.length_map]; unfold maxLen; omega) HID.out (.slice av nv cv)
              have HFIN : Hid (∃ Z' en', TAt w9 g bh bn Z' en' (tot (namesZ Z')) (m + nh + 1) ∧ namesZ Z' = turnH id true (hs.map Ent.key) (namesZ Z) ∧ Mod (fun k => k = bh ∨ k = bn) w w9 ∧ FreshZ w Z Z') := Lib.hid (by
                have mm : Mod (fun i => i = bh) wr w9 := ⟨hM9.os, hM9.tape, hM9.output, hM9.size, hM9.block⟩
                have hf := HF.out
                have hjt := HJ.out
                rw [HKY.out] at hf hjt
                have hput : putL id (.slice av nv cv) (entsZ (delG id Z)) = entsZ (putG id (.slice av nv cv, hs.map Ent.key) (delG id Z)) := putL_entsZ _ _ _ _
                rw [hput] at hU9
                have hnm : namesZ (putG id (.slice av nv cv, hs.map Ent.key) (delG id Z)) = putG id (hs.map Ent.key) (namesZ Z) := by
                  rw [← putG_namesZ, ← delG_namesZ]; unfold putG; rw [delG_delG]
                refine ⟨putG id (.slice av nv cv, hs.map Ent.key) (delG id Z), en2, ?_, hnm, hjt.mod.trans (mm.mono (fun k _ e => .inl e)), fun z hz => ?_⟩
                have h1 := hjt.tal.hold (m' := m + nh + 1) hU9 mm (fun z hz => ?_) (by omega) (Nat.le_trans (putG_length _ _ _) (by have := HE5z.out; omega))
                · refine h1.alike (fun x => ?_)
                  rw [hnm, tot_put, delG_namesZ]
                  rfl
                · rcases mem_putG.1 hz with e | e
                  · rw [e]
                    refine ⟨hf.seg.rdS, fun b hb => ?_, fun f hf' => ?_, hid, fun b hb => hf.seg.lt b hb⟩
                    · have h2 := hf.own b hb
                      have h3 := HBN.out
                      omega
                    · obtain ⟨p, hp, rfl⟩ := List.mem_map.1 hf'
                      exact (HFH.out p hp).1
                  · exact hjt.tal.seg z e.1
                · rcases mem_putG.1 hz with e | e
                  · rw [e]; exact .inr (fun b hb => Nat.le_of_lt (hf.own b hb))
                  · exact .inl (mem_delG.1 e.1).1)
              clear hU9 hM9
              go_wp2_with fail
              go_region
              all_goals go_wp2
              go_end0
              exact ⟨rfl, HFIN.out⟩
theorem turn_any (x : Vtx) (vp vh : Value) (g bh bn : Nat) (Z : Zs) (en : Ents) (m : Nat) (w : World) (hx : VRd w vp vh x) (hT : TAt w g bh bn Z en (tot (namesZ Z)) m) (hm : m + x.halves.length + 1 < 999999) :
    Calls Try.prog 55 #[.pointer (some ⟨g, 0, none⟩), vtxV x vp vh] w fun e w' => e = .returned (.tuple #[]) ∧ ∃ Z' en', TAt w' g bh bn Z' en' (tot (namesZ Z')) (m + x.halves.length + 1) ∧ namesZ Z' = turnH x.id x.there (x.halves.map Ent.key) (namesZ Z) ∧ Mod (fun k => k = bh ∨ k = bn) w w' :=
  (turn_fresh x vp vh g bh bn Z en m w hx hT hm).mono (fun e w' ⟨h, Z', en', h1, h2, h3, _⟩ => ⟨h, Z', en', h1, h2, h3⟩)
end Go.Proofs.Ytdblilhkojafgaa
