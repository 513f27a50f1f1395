/- gussetlaw23.twins: lists of one's own. -/
import Derived.Test.YtdblilhkojafgaaV19
namespace Go.Proofs.Ytdblilhkojafgaa
set_option linter.unusedVariables false
open Go.RowKit

def VOff (S : Nat → Prop) (s : Vs) : Prop := (∀ b, s.vp.ownBlock = some b → ¬ S b) ∧ (∀ b, s.vh.ownBlock = some b → ¬ S b)
def LOff (S : Nat → Prop) (v : Value) (l : List Vs) : Prop := (∀ b, v.ownBlock = some b → ¬ S b) ∧ ∀ s ∈ l, VOff S s
def LLOff (S : Nat → Prop) (v : Value) (ls : List Ls) : Prop := (∀ b, v.ownBlock = some b → ¬ S b) ∧ ∀ s ∈ ls, LOff S s.v s.l
theorem VOff.mono {S T : Nat → Prop} {s : Vs} (h : VOff S s) (i : ∀ k, T k → S k) : VOff T s := ⟨fun b hb t => h.1 b hb (i b t), fun b hb t => h.2 b hb (i b t)⟩
theorem LOff.mono {S T : Nat → Prop} {v : Value} {l : List Vs} (h : LOff S v l) (i : ∀ k, T k → S k) : LOff T v l := ⟨fun b hb t => h.1 b hb (i b t), fun s hs => (h.2 s hs).mono i⟩
theorem LLOff.mono {S T : Nat → Prop} {v : Value} {ls : List Ls} (h : LLOff S v ls) (i : ∀ k, T k → S k) : LLOff T v ls := ⟨fun b hb t => h.1 b hb (i b t), fun s hs => (h.2 s hs).mono i⟩

/-- A vertex whose slices lie in blocks that may be written. -/
structure VOwn (w : World) (s : Vs) : Prop where
  fits : s.x.Fits
  props : Seg w 116 4 s.vp s.x.props.length (cellsOf .u8 s.x.props)
  halves : Seg w 96 4 s.vh s.x.halves.length (cellsOf .u32 s.x.halves)
theorem VOwn.rd {w : World} {s : Vs} (h : VOwn w s) : VRd w s.vp s.vh s.x := ⟨h.fits, h.props.rdS, h.halves.rdS⟩
theorem VOwn.mod {S : Nat → Prop} {w w' : World} {s : Vs} (h : VOwn w s) (m : Mod S w w') (o : VOff S s) : VOwn w' s := ⟨h.fits, h.props.mod m o.1, h.halves.mod m o.2⟩
theorem VOwn.lt {w : World} {s : Vs} (h : VOwn w s) : VOff (fun k => w.heap.size ≤ k) s := ⟨fun b hb t => by have := h.props.lt b hb; omega, fun b hb t => by have := h.halves.lt b hb; omega⟩
theorem VNew.vown {w0 w : World} {vp vh : Value} {x : Vtx} (h : VNew w0 w vp vh x) : VOwn w ⟨x, vp, vh⟩ := ⟨h.fits, h.props, h.halves⟩
structure LOwn (w : World) (v : Value) (l : List Vs) : Prop where
  row : Seg w 31 4 v l.length (vcells l)
  each : ∀ s ∈ l, VOwn w s
  apart : ∀ s ∈ l, VOff (fun k => v.ownBlock = some k) s
theorem LOwn.rd {w : World} {v : Value} {l : List Vs} (h : LOwn w v l) : LRd w v l := ⟨h.row.rdS, fun s hs => (h.each s hs).rd⟩
theorem LOwn.mod {S : Nat → Prop} {w w' : World} {v : Value} {l : List Vs} (h : LOwn w v l) (m : Mod S w w') (o : LOff S v l) : LOwn w' v l := ⟨h.row.mod m o.1, fun s hs => (h.each s hs).mod m (o.2 s hs), h.apart⟩
theorem LOwn.lt {w : World} {v : Value} {l : List Vs} (h : LOwn w v l) : LOff (fun k => w.heap.size ≤ k) v l := ⟨fun b hb t => by have := h.row.lt b hb; omega, fun s hs => (h.each s hs).lt⟩
theorem LOwn.nil (w : World) : LOwn w (.slice none 0 0) [] := ⟨Seg.nil _ _ _, by simp, by simp⟩
structure LLOwn (w : World) (v : Value) (ls : List Ls) : Prop where
  row : Seg w 26 1 v ls.length (ls.map Ls.v)
  each : ∀ s ∈ ls, LOwn w s.v s.l
  apart : ∀ s ∈ ls, LOff (fun k => v.ownBlock = some k) s.v s.l
theorem LLOwn.rd {w : World} {v : Value} {ls : List Ls} (h : LLOwn w v ls) : LLRd w v ls := ⟨h.row.rdS, fun s hs => (h.each s hs).rd⟩
theorem LLOwn.mod {S : Nat → Prop} {w w' : World} {v : Value} {ls : List Ls} (h : LLOwn w v ls) (m : Mod S w w') (o : LLOff S v ls) : LLOwn w' v ls := ⟨h.row.mod m o.1, fun s hs => (h.each s hs).mod m (o.2 s hs), h.apart⟩
theorem LLOwn.lt {w : World} {v : Value} {ls : List Ls} (h : LLOwn w v ls) : LLOff (fun k => w.heap.size ≤ k) v ls := ⟨fun b hb t => by have := h.row.lt b hb; omega, fun s hs => (h.each s hs).lt⟩
theorem LLOwn.nil (w : World) : LLOwn w (.slice none 0 0) [] := ⟨Seg.nil _ _ _, by simp, by simp⟩
theorem off_false_l {v : Value} {l : List Vs} : LOff (fun _ => False) v l := ⟨fun _ _ f => f, fun _ _ => ⟨fun _ _ f => f, fun _ _ f => f⟩⟩
theorem off_false {v : Value} {ls : List Ls} : LLOff (fun _ => False) v ls := ⟨fun _ _ f => f, fun _ _ => off_false_l⟩
theorem vcells_snoc (l : List Vs) (s : Vs) : vcells (l ++ [s]) = vcells l ++ s.cells := by simp [vcells]

/-- Within a list: 'out' holds the lists that are done, 'mine' what is done of this one. -/
structure TwIn (w : World) (vo : Value) (ls : List Ls) (mv : Value) (l : List Vs) (wr : World) : Prop where
  mod : Mod (fun _ => False) w wr
  out : LLOwn wr vo ls
  outo : ∀ b, vo.ownBlock = some b → w.heap.size ≤ b
  mine : LOwn wr mv l
  mineo : ∀ b, mv.ownBlock = some b → w.heap.size ≤ b
  ap1 : LLOff (fun k => mv.ownBlock = some k) vo ls
  ap2 : LOff (fun k => vo.ownBlock = some k) mv l
theorem TwIn.more {w wr wy : World} {vo mv : Value} {ls : List Ls} {l : List Vs} (h : TwIn w vo ls mv l wr) (m : Mod (fun _ => False) wr wy) : TwIn w vo ls mv l wy :=
  ⟨h.mod.trans m, h.out.mod m off_false, h.outo, h.mine.mod m off_false_l, h.mineo, h.ap1, h.ap2⟩
theorem mod_grown {w w' : World} {v : Value} (g : w.grownBy w' v.ownBlock) : Mod (fun k => v.ownBlock = some k) w w' := ⟨g.os, g.tape, g.output, g.size, fun k hk hne => g.block k hk (fun e => hne e.symm)⟩
theorem TwIn.app {w wc wr wy : World} {vo mv v' : Value} {ls : List Ls} {l : List Vs} (s : Vs) (h : TwIn w vo ls mv l wr) (hc : wc.heap.size ≤ wr.heap.size) (hmc : ∀ b, mv.ownBlock = some b → b < wc.heap.size) (hoc : ∀ b, vo.ownBlock = some b → b < wc.heap.size)
    (hv : VOwn wr s) (hp : ∀ b, s.vp.ownBlock = some b → wc.heap.size ≤ b) (hh : ∀ b, s.vh.ownBlock = some b → wc.heap.size ≤ b)
    (hs : Seg wy 31 4 v' (l.length + 1) (vcells l ++ s.cells)) (hg : wr.grownBy wy mv.ownBlock) (ho : v'.ownBlock = mv.ownBlock ∨ v'.ownBlock = some wr.heap.size) : TwIn w vo ls v' (l ++ [s]) wy := by
  have hm := mod_grown hg
  have hso : VOff (fun k => mv.ownBlock = some k) s := ⟨fun b hb e => by have := hp b hb; have := hmc b e; omega, fun b hb e => by have := hh b hb; have := hmc b e; omega⟩
  have hsv : VOff (fun k => vo.ownBlock = some k) s := ⟨fun b hb e => by have := hp b hb; have := hoc b e; omega, fun b hb e => by have := hh b hb; have := hoc b e; omega⟩
  refine ⟨h.mod.grown hg (fun b hb hlt => by have := h.mineo b hb; omega), h.out.mod hm h.ap1, h.outo, ⟨?_, ?_, ?_⟩, fun b hb => ?_, ?_, ?_⟩
  · rw [vcells_snoc, List.length_append]; exact hs
  · intro t ht
    rcases List.mem_append.1 ht with ht | ht
    · exact (h.mine.each t ht).mod hm (h.mine.apart t ht)
    · rw [List.mem_singleton] at ht; subst ht; exact hv.mod hm hso
  · intro t ht
    rcases ho with ho | ho
    · rw [ho]
      rcases List.mem_append.1 ht with ht | ht
      · exact h.mine.apart t ht
      · rw [List.mem_singleton] at ht; subst ht; exact hso
    · rw [ho]
      have : VOff (fun k => wr.heap.size ≤ k) t := by
        rcases List.mem_append.1 ht with ht | ht
        · exact (h.mine.each t ht).lt
        · rw [List.mem_singleton] at ht; subst ht; exact hv.lt
      exact this.mono (fun k e => by injection e with e; omega)
  · rcases ho with ho | ho
    · exact h.mineo b (by rw [← ho]; exact hb)
    · rw [ho] at hb; injection hb with hb; have := h.mod.size; omega
  · rcases ho with ho | ho
    · rw [ho]; exact h.ap1
    · rw [ho]; exact h.out.lt.mono (fun k e => by injection e with e; omega)
  · refine ⟨fun b hb e => ?_, fun t ht => ?_⟩
    · rcases ho with ho | ho
      · exact h.ap2.1 b (by rw [← ho]; exact hb) e
      · rw [ho] at hb; injection hb with hb; have := h.out.row.lt b e; omega
    · rcases List.mem_append.1 ht with ht | ht
      · exact h.ap2.2 t ht
      · rw [List.mem_singleton] at ht; subst ht; exact hsv
/-- Between lists. -/
structure TwOut (w : World) (vo : Value) (ls : List Ls) (wr : World) : Prop where
  mod : Mod (fun _ => False) w wr
  out : LLOwn wr vo ls
  outo : ∀ b, vo.ownBlock = some b → w.heap.size ≤ b
theorem TwOut.start {w wr : World} {vo : Value} {ls : List Ls} (h : TwOut w vo ls wr) : TwIn w vo ls (.slice none 0 0) [] wr :=
  ⟨h.mod, h.out, h.outo, LOwn.nil _, fun b hb => by simp [Value.ownBlock] at hb, by
    have : LLOff (fun _ => False) vo ls := off_false
    exact this.mono (fun k e => by simp [Value.ownBlock] at e), ⟨fun b hb => by simp [Value.ownBlock] at hb, by simp⟩⟩
theorem TwIn.close {w wr wy : World} {vo mv v' : Value} {ls : List Ls} {l : List Vs} (h : TwIn w vo ls mv l wr) (hs : Seg wy 26 1 v' (ls.length + 1) (ls.map Ls.v ++ [mv])) (hg : wr.grownBy wy vo.ownBlock) (ho : v'.ownBlock = vo.ownBlock ∨ v'.ownBlock = some wr.heap.size) : TwOut w v' (ls ++ [⟨mv, l⟩]) wy := by
  have hm := mod_grown hg
  refine ⟨h.mod.grown hg (fun b hb hlt => by have := h.outo b hb; omega), ⟨?_, ?_, ?_⟩, fun b hb => ?_⟩
  · rw [List.map_append, List.length_append]; exact hs
  · intro t ht
    rcases List.mem_append.1 ht with ht | ht
    · exact (h.out.each t ht).mod hm (h.out.apart t ht)
    · rw [List.mem_singleton] at ht; subst ht; exact h.mine.mod hm h.ap2
  · intro t ht
    rcases ho with ho | ho
    · rw [ho]
      rcases List.mem_append.1 ht with ht | ht
      · exact h.out.apart t ht
      · rw [List.mem_singleton] at ht; subst ht; exact h.ap2
    · rw [ho]
      have : LOff (fun k => wr.heap.size ≤ k) t.v t.l := by
        rcases List.mem_append.1 ht with ht | ht
        · exact (h.out.each t ht).lt
        · rw [List.mem_singleton] at ht; subst ht; exact h.mine.lt
      exact this.mono (fun k e => by injection e with e; omega)
  · rcases ho with ho | ho
    · exact h.outo b (by rw [← ho]; exact hb)
    · rw [ho] at hb; injection hb with hb; have := h.mod.size; omega
theorem infoVtx : (Try.prog.info? 31).map (fun i => (i.zero, i.size, i.bytes)) = some (some (.agg #[.int .u32 0, .bool false, .slice none 0 0, .slice none 0 0]), 4, 56) := by kernel_rfl
theorem infoVs : (Try.prog.info? 26).map (fun i => (i.zero, i.size, i.bytes)) = some (some (.slice none 0 0), 1, 24) := by kernel_rfl
/-- What a list of lists tells. -/
def dat (ls : List Ls) : List (List Vtx) := ls.map fun s => s.l.map Vs.x
def Slim (x : Vtx) : Prop := x.props.length * 40 ≤ 140737488355328 ∧ x.halves.length * 40 ≤ 140737488355328
end Go.Proofs.Ytdblilhkojafgaa
