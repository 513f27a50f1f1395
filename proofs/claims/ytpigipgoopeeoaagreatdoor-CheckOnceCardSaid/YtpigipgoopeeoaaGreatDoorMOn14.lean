import Derived.Test.YtpigipgoopeeoaaGreatDoorMOn13
set_option linter.unusedVariables false
set_option linter.unusedSimpArgs false
namespace Go.Proofs.YtpigipgoopeeoaaGreatDoor
open Go.RowKit Go.Maps
theorem delL_map {α : Type} (f : α → Nat × Value) (x : α) (l : List α) : delL (f x).1 (l.map f) = (layG (fun y => (f y).1) x true l).map f := by
 rw [layG_done]
 unfold delL
 rw [List.filter_map]
 congr 1
theorem insL_rising {α : Type} (f : α → Nat × Value) (x : α) : ∀ {l : List α}, Rising (fun y => (f y).1) l → insL (f x) (l.map f) = (l.filter (fun y => !decide ((f x).1 < (f y).1)) ++ x :: l.filter (fun y => decide ((f x).1 < (f y).1))).map f
 | [], _ => rfl
 | y :: r, h => by
   have hr : Rising (fun y => (f y).1) r := (List.pairwise_cons.1 h).2
   have hy := (List.pairwise_cons.1 h).1
   have ih := insL_rising f x hr
   simp only [List.map_cons, insL]
   by_cases hlt : (f x).1 < (f y).1
   · have h1 : (y :: r).filter (fun y => !decide ((f x).1 < (f y).1)) = [] := by
       rw [List.filter_eq_nil_iff]
       intro z hz
       rcases List.mem_cons.1 hz with rfl | hz
       · simp [hlt]
       · have := hy z hz; simp only at this; simp; omega
     have h2 : (y :: r).filter (fun y => decide ((f x).1 < (f y).1)) = y :: r := by
       rw [List.filter_eq_self]
       intro z hz
       rcases List.mem_cons.1 hz with rfl | hz
       · simpa using hlt
       · have := hy z hz; simp only at this; simp; omega
     rw [if_pos hlt, h1, h2]
     rfl
   · rw [if_neg hlt, ih, List.filter_cons, List.filter_cons]
     simp [hlt]
theorem putL_map {α : Type} (f : α → Nat × Value) (x : α) {l : List α} (h : Rising (fun y => (f y).1) l) : putL (f x).1 (f x).2 (l.map f) = (layG (fun y => (f y).1) x false l).map f := by
 unfold putL
 rw [delL_map, layG_done, layG_open _ _ h]
 have hr : Rising (fun y => (f y).1) (l.filter fun y => !decide ((f y).1 = (f x).1)) := List.Pairwise.filter _ h
 have e : ((f x).1, (f x).2) = f x := rfl
 rw [e, insL_rising f x hr, List.filter_filter, List.filter_filter]
 congr 1
 congr 1
 · apply List.filter_congr
   intro y _
   rw [Bool.eq_iff_iff]
   simp
   omega
 · congr 1
   apply List.filter_congr
   intro y _
   rw [Bool.eq_iff_iff]
   simp
   omega
theorem getL_map {α : Type} (f : α → Nat × Value) (k : Nat) (l : List α) : getL k (l.map f) = (l.find? fun y => (f y).1 == k).map fun y => (f y).2 := by
 unfold getL
 rw [List.find?_map, Option.map_map]
 rfl
def entF (e : Ent) : Nat × Value := (e.key, e.val.v)
def pents (l : List Ent) : Ents := l.map entF
theorem pents_length (l : List Ent) : (pents l).length = l.length := List.length_map _
theorem getL_pents (k : Nat) (l : List Ent) : getL k (pents l) = (entX l k).map Val.v := by
 unfold pents entX
 rw [getL_map, Option.map_map]
 rfl
theorem delL_pents (k : Nat) (v : Val) (l : List Ent) : delL k (pents l) = pents (layG Ent.key ⟨k, v⟩ true l) := delL_map entF ⟨k, v⟩ l
theorem putL_pents (k : Nat) (v : Val) {l : List Ent} (h : Rising Ent.key l) : putL k v.v (pents l) = pents (layG Ent.key ⟨k, v⟩ false l) := putL_map entF ⟨k, v⟩ h
theorem layG_layG_done {α : Type} {key : α → Nat} (x y : α) (hk : key x = key y) {l : List α} (h : Rising key l) : layG key y true (layG key x false l) = layG key y true l := by
 rw [layG_done, layG_done, layG_open _ _ h]
 rw [List.filter_append, List.filter_cons, List.filter_filter, List.filter_filter]
 have h2 : (!decide (key x = key y)) = false := by simp [hk]
 rw [h2]
 simp only [Bool.false_eq_true, if_false]
 have gen : ∀ {m : List α}, Rising key m → (m.filter fun a => !decide (key a = key y) && decide (key a < key x)) ++ (m.filter fun a => !decide (key a = key y) && decide (key x < key a)) = m.filter fun a => !decide (key a = key y) := by
   intro m
   induction m with
   | nil => intro _; rfl
   | cons z r ih =>
     intro hm
     obtain ⟨hz, hr⟩ := List.pairwise_cons.1 hm
     rw [List.filter_cons, List.filter_cons, List.filter_cons]
     rcases Nat.lt_trichotomy (key z) (key x) with c | c | c
     · have e1 : (!decide (key z = key y) && decide (key z < key x)) = true := by simp; omega
       have e2 : (!decide (key z = key y) && decide (key x < key z)) = false := by simp; omega
       have e3 : (!decide (key z = key y)) = true := by simp; omega
       rw [e1, e2, e3]
       simp only [if_true, Bool.false_eq_true, if_false, List.cons_append]
       rw [ih hr]
     · have e1 : (!decide (key z = key y) && decide (key z < key x)) = false := by simp; omega
       have e2 : (!decide (key z = key y) && decide (key x < key z)) = false := by simp; omega
       have e3 : (!decide (key z = key y)) = false := by simp; omega
       rw [e1, e2, e3]
       simp only [Bool.false_eq_true, if_false]
       exact ih hr
     · have e1 : (!decide (key z = key y) && decide (key z < key x)) = false := by simp; omega
       have e2 : (!decide (key z = key y) && decide (key x < key z)) = true := by simp; omega
       have e3 : (!decide (key z = key y)) = true := by simp; omega
       rw [e1, e2, e3]
       simp only [if_true, Bool.false_eq_true, if_false]
       have e4 : (r.filter fun a => !decide (key a = key y) && decide (key a < key x)) = [] := by
         rw [List.filter_eq_nil_iff]
         intro a ha
         have := hz a ha
         simp; omega
       have := ih hr
       rw [e4] at this ⊢
       simp only [List.nil_append] at this ⊢
       rw [this]
 exact gen h
structure Node where
 x : Vtx
 p : Nat
 mp : Nat
 me : Nat
def Node.f (n : Node) : Nat × Value := (n.x.id, .pointer (some ⟨n.p, 0, none⟩))
def Node.blocks (n : Node) : List Nat := [n.p, n.mp, n.me]
def keyN (n : Node) : Nat := n.x.id
theorem fits_setP {x : Vtx} (h : x.Fits) {k : Nat} {v : Val} (hk : k < 256) (hv : v.Fits) : (setP x k v).Fits :=
 ⟨h.id, fun p hp => by
   rcases layG_sub hp with rfl | hp
   · exact ⟨hk, hv⟩
   · exact h.props p hp, h.halves⟩
theorem fits_setH {x : Vtx} (h : x.Fits) {f : Nat} {v : Val} {b : Bool} (hf : f < 4294967296) (hv : v.Fits) : (setH x f v b).Fits :=
 ⟨h.id, h.props, fun p hp => by
   rcases layG_sub hp with rfl | hp
   · exact ⟨hf, hv⟩
   · exact h.halves p hp⟩
def findN (ns : List Node) (v : Nat) : Option Node := ns.find? fun n => n.x.id == v
structure NAt (w : World) (n : Node) : Prop where
 box : w.heap[n.p]? = some (.cells #[.map (some n.mp), .map (some n.me)] 143 (0, 0))
 props : UMap Tryz.prog 5 .u8 w n.mp (pents n.x.props)
 edges : UMap Tryz.prog 32 .u32 w n.me (pents n.x.halves)
 fit : n.x.Fits
theorem Node.in_blocks {n : Node} {b : Nat} : b ∈ n.blocks ↔ b = n.p ∨ b = n.mp ∨ b = n.me := by simp [Node.blocks]
theorem NAt.mod {S : Nat → Prop} {w w' : World} {n : Node} (h : NAt w n) (m : Mod S w w') (hs : ∀ b ∈ n.blocks, ¬ S b) : NAt w' n :=
 ⟨m.heap h.box (hs _ (by simp [Node.blocks])), h.props.mod m (hs _ (by simp [Node.blocks])), h.edges.mod m (hs _ (by simp [Node.blocks])), h.fit⟩
theorem NAt.lt {w : World} {n : Node} (h : NAt w n) : ∀ b ∈ n.blocks, b < w.heap.size := by
 intro b hb
 rcases Node.in_blocks.1 hb with rfl | rfl | rfl
 · exact lt_of_block h.box
 · exact h.props.lt
 · exact h.edges.lt
def FootN (bm : Nat) (ns : List Node) (b : Nat) : Prop := b = bm ∨ ∃ n ∈ ns, b ∈ n.blocks
structure NM (w : World) (bm : Nat) (ns : List Node) : Prop where
 map : UMap Tryz.prog 32 .u32 w bm (ns.map Node.f)
 each : ∀ n ∈ ns, NAt w n
 own : ∀ n ∈ ns, n.p ≠ n.mp ∧ n.p ≠ n.me ∧ n.mp ≠ n.me
 sep : ∀ n ∈ ns, ∀ m ∈ ns, ∀ b ∈ n.blocks, b ∈ m.blocks → n = m
 off : ∀ n ∈ ns, bm ∉ n.blocks
theorem NM.mod {S : Nat → Prop} {w w' : World} {bm : Nat} {ns : List Node} (h : NM w bm ns) (m : Mod S w w') (hs : ∀ b, FootN bm ns b → ¬ S b) : NM w' bm ns :=
 ⟨h.map.mod m (hs _ (.inl rfl)), fun n hn => (h.each n hn).mod m (fun b hb => hs b (.inr ⟨n, hn, hb⟩)), h.own, h.sep, h.off⟩
theorem NM.keep {w w' : World} {bm : Nat} {ns : List Node} (h : NM w bm ns) (m : Mod (fun _ => False) w w') : NM w' bm ns := h.mod m (fun _ _ f => f)
theorem NM.lt {w : World} {bm : Nat} {ns : List Node} (h : NM w bm ns) : ∀ b, FootN bm ns b → b < w.heap.size := by
 rintro b (rfl | ⟨n, hn, hb⟩)
 · exact h.map.lt
 · exact (h.each n hn).lt b hb
theorem NM.rising {w : World} {bm : Nat} {ns : List Node} (h : NM w bm ns) : Rising keyN ns := by
 have := h.map.rising (int_keyed Tryz.underlying32)
 rw [List.pairwise_map] at this
 exact this
theorem NM.made (w : World) : NM (w.alloc (.map #[] 0)) w.heap.size [] :=
 ⟨UMap.made _ _ _ _, fun _ h => by simp at h, fun _ h => by simp at h, fun _ h => by simp at h, fun _ h => by simp at h⟩
def Foot (g bm : Nat) (ns : List Node) (b : Nat) : Prop := b = g ∨ FootN bm ns b
structure PG (w : World) (g bm : Nat) (ns : List Node) : Prop where
 cell : w.heap[g]? = some (.cells #[.map (some bm)] 127 (0, 0))
 nm : NM w bm ns
 goff : ¬ FootN bm ns g
theorem PG.mod {S : Nat → Prop} {w w' : World} {g bm : Nat} {ns : List Node} (h : PG w g bm ns) (m : Mod S w w') (hs : ∀ b, Foot g bm ns b → ¬ S b) : PG w' g bm ns :=
 ⟨m.heap h.cell (hs _ (.inl rfl)), h.nm.mod m (fun b hb => hs b (.inr hb)), h.goff⟩
theorem PG.keep {w w' : World} {g bm : Nat} {ns : List Node} (h : PG w g bm ns) (m : Mod (fun _ => False) w w') : PG w' g bm ns := h.mod m (fun _ _ f => f)
theorem PG.lt {w : World} {g bm : Nat} {ns : List Node} (h : PG w g bm ns) : ∀ b, Foot g bm ns b → b < w.heap.size := by
 rintro b (rfl | hb)
 · exact lt_of_block h.cell
 · exact h.nm.lt b hb
theorem PG.ne {w : World} {g bm : Nat} {ns : List Node} (h : PG w g bm ns) : g ≠ bm := fun e => h.goff (.inl e)
theorem rising_map {ns : List Node} (h : Rising keyN ns) : Rising Vtx.id (ns.map Node.x) := by
 unfold Rising at h ⊢
 rw [List.pairwise_map]
 exact h
theorem findN_mem {ns : List Node} {v : Nat} {n : Node} (h : findN ns v = some n) : n ∈ ns ∧ n.x.id = v := by
 unfold findN at h
 exact ⟨List.mem_of_find?_eq_some h, by simpa using List.find?_some h⟩
theorem findN_map (ns : List Node) (v : Nat) : findV (ns.map Node.x) v = (findN ns v).map Node.x := by
 unfold findV findN
 rw [List.find?_map]
 rfl
theorem getL_nodes (ns : List Node) (v : Nat) : getL v (ns.map Node.f) = (findN ns v).map fun n => .pointer (some ⟨n.p, 0, none⟩) := getL_map Node.f v ns
theorem lay_mapN (n : Node) (d : Bool) : ∀ ns : List Node, (layG keyN n d ns).map Node.x = layG Vtx.id n.x d (ns.map Node.x)
 | [] => by cases d <;> rfl
 | y :: r => by
   have i1 := lay_mapN n true r
   have i2 := lay_mapN n false r
   simp only [layG, List.map_cons, keyN] at i1 i2 ⊢
   by_cases h1 : n.x.id < y.x.id <;> by_cases h2 : y.x.id = n.x.id <;> cases d <;> simp [h1, h2, i1, i2]
def replN (n : Node) (ns : List Node) : List Node := ns.map fun m => if m.x.id = n.x.id then n else m
theorem replN_mem {n m : Node} {ns : List Node} (h : m ∈ replN n ns) : m = n ∨ (m ∈ ns ∧ m.x.id ≠ n.x.id) := by
 obtain ⟨o, ho, rfl⟩ := List.mem_map.1 h
 split
 · exact .inl rfl
 · rename_i hne; exact .inr ⟨ho, hne⟩
theorem layG_hit {α : Type} {key : α → Nat} {x : α} : ∀ {l : List α}, Rising key l → (∃ y ∈ l, key y = key x) → layG key x false l = l.map fun y => if key y = key x then x else y
 | [], _, h => by obtain ⟨y, hy, _⟩ := h; cases hy
 | z :: r, hr, h => by
   obtain ⟨hz, hr'⟩ := List.pairwise_cons.1 hr
   rw [layG_open _ _ hr]
   have none_lt : ∀ {m : List α}, (∀ a ∈ m, key x < key a) → m.filter (fun a => decide (key a < key x)) = [] := by
     intro m hm
     rw [List.filter_eq_nil_iff]
     intro a ha
     have := hm a ha
     simp; omega
   have all_gt : ∀ {m : List α}, (∀ a ∈ m, key x < key a) → m.filter (fun a => decide (key x < key a)) = m := by
     intro m hm
     rw [List.filter_eq_self]
     intro a ha
     simpa using hm a ha
   have same : ∀ {m : List α}, (∀ a ∈ m, key a ≠ key x) → (m.map fun y => if key y = key x then x else y) = m := by
     intro m hm
     rw [List.map_congr_left (g := id) (fun a ha => by rw [if_neg (hm a ha)]; rfl)]
     exact List.map_id m
   by_cases e : key z = key x
   · have hg : ∀ a ∈ r, key x < key a := fun a ha => by have := hz a ha; omega
     rw [List.filter_cons, List.filter_cons, none_lt hg, all_gt hg, List.map_cons, same (fun a ha => by have := hg a ha; omega)]
     simp [e]
   · obtain ⟨y, hy, hye⟩ := h
     have hyr : y ∈ r := by
       rcases List.mem_cons.1 hy with rfl | h
       · exact absurd hye e
       · exact h
     have hlt : key z < key x := by have := hz y hyr; omega
     have ih := layG_hit hr' ⟨y, hyr, hye⟩
     rw [layG_open _ _ hr'] at ih
     rw [List.filter_cons, List.filter_cons, List.map_cons]
     have h1 : decide (key z < key x) = true := by simpa using hlt
     have h2 : decide (key x < key z) = false := by simp; omega
     rw [h1, h2, if_neg e]
     simp only [if_true, Bool.false_eq_true, if_false, List.cons_append]
     rw [ih]
theorem replN_map {n : Node} {ns : List Node} (hr : Rising keyN ns) (hm : ∃ m ∈ ns, m.x.id = n.x.id) (ht : n.x.there = true) : (replN n ns).map Node.x = layV n.x (ns.map Node.x) := by
 unfold layV
 rw [ht, show (!true) = false from rfl, layG_hit (rising_map hr) (by obtain ⟨m, h1, h2⟩ := hm; exact ⟨m.x, List.mem_map_of_mem h1, h2⟩)]
 unfold replN
 rw [List.map_map, List.map_map]
 apply List.map_congr_left
 intro m _
 simp only [Function.comp]
 split <;> rfl
theorem replN_f {n n0 : Node} {ns : List Node} (hr : Rising keyN ns) (h0 : n0 ∈ ns) (hi : n.x.id = n0.x.id) (hp : n.p = n0.p) : (replN n ns).map Node.f = ns.map Node.f := by
 unfold replN
 rw [List.map_map]
 apply List.map_congr_left
 intro m hm
 simp only [Function.comp]
 split
 · rename_i e
   have : m = n0 := hr.uniq hm h0 (show m.x.id = n0.x.id from e.trans hi)
   subst this
   simp [Node.f, hi, hp]
 · rfl
theorem NM.repl {S : Nat → Prop} {w w' : World} {bm : Nat} {ns : List Node} (h : NM w bm ns) {n0 n : Node} (h0 : n0 ∈ ns) (hi : n.x.id = n0.x.id) (hb : n.blocks = n0.blocks) (m : Mod S w w') (hS : ∀ b, S b → b = n0.mp ∨ b = n0.me) (hn : NAt w' n) : NM w' bm (replN n ns) := by
 have hp : n.p = n0.p := by have := hb; simp only [Node.blocks] at this; injection this
 have hmp : n.mp = n0.mp := by have := hb; simp only [Node.blocks] at this; injection this with _ t; injection t
 have hme : n.me = n0.me := by have := hb; simp only [Node.blocks] at this; injection this with _ t; injection t with _ t; injection t
 have hin : ∀ b, S b → b ∈ n0.blocks := fun b hb => by rcases hS b hb with e | e <;> simp [Node.blocks, e]
 have back : ∀ o ∈ replN n ns, ∃ o0 ∈ ns, o.blocks = o0.blocks ∧ (o = n ∧ o0 = n0 ∨ o = o0 ∧ o0 ≠ n0) := by
   intro o ho
   rcases replN_mem ho with rfl | ⟨h1, h2⟩
   · exact ⟨n0, h0, hb, .inl ⟨rfl, rfl⟩⟩
   · exact ⟨o, h1, rfl, .inr ⟨rfl, fun e => h2 (by rw [e, hi])⟩⟩
 refine ⟨?_, ?_, ?_, ?_, ?_⟩
 · rw [replN_f h.rising h0 hi hp]
   exact h.map.mod m (fun s => h.off n0 h0 (hin _ s))
 · intro o ho
   rcases replN_mem ho with rfl | ⟨h1, h2⟩
   · exact hn
   · refine (h.each o h1).mod m (fun b hb s => h2 ?_)
     rw [h.sep o h1 n0 h0 b hb (hin b s), hi]
 · intro o ho
   obtain ⟨o0, h1, h2, h3⟩ := back o ho
   rcases h3 with ⟨rfl, rfl⟩ | ⟨rfl, _⟩
   · rw [hp, hmp, hme]; exact h.own _ h1
   · exact h.own _ h1
 · intro o ho o' ho' b hb1 hb2
   obtain ⟨o0, h1, h2, h3⟩ := back o ho
   obtain ⟨o1, k1, k2, k3⟩ := back o' ho'
   rw [h2] at hb1
   rw [k2] at hb2
   have e := h.sep o0 h1 o1 k1 b hb1 hb2
   subst e
   rcases h3 with ⟨rfl, rfl⟩ | ⟨rfl, hne⟩
   · rcases k3 with ⟨rfl, _⟩ | ⟨rfl, hne⟩
     · rfl
     · exact absurd rfl hne
   · rcases k3 with ⟨_, e⟩ | ⟨rfl, _⟩
     · exact absurd e hne
     · rfl
 · intro o ho
   obtain ⟨o0, h1, h2, h3⟩ := back o ho
   rw [h2]; exact h.off o0 h1
theorem footN_repl {bm : Nat} {ns : List Node} {n0 n : Node} (h0 : n0 ∈ ns) (hb : n.blocks = n0.blocks) {b : Nat} (h : FootN bm (replN n ns) b) : FootN bm ns b := by
 rcases h with h | ⟨o, ho, h⟩
 · exact .inl h
 · rcases replN_mem ho with rfl | ⟨h1, h2⟩
   · exact .inr ⟨n0, h0, hb ▸ h⟩
   · exact .inr ⟨o, h1, h⟩
theorem PG.repl {S : Nat → Prop} {w w' : World} {g bm : Nat} {ns : List Node} (h : PG w g bm ns) {n0 n : Node} (h0 : n0 ∈ ns) (hi : n.x.id = n0.x.id) (hb : n.blocks = n0.blocks) (m : Mod S w w') (hS : ∀ b, S b → b = n0.mp ∨ b = n0.me) (hn : NAt w' n) : PG w' g bm (replN n ns) := by
 refine ⟨m.heap h.cell (fun s => h.goff (.inr ⟨n0, h0, ?_⟩)), h.nm.repl h0 hi hb m hS hn, fun f => h.goff (footN_repl h0 hb f)⟩
 rcases hS _ s with e | e <;> simp [Node.blocks, e]
theorem layN_mem {n m : Node} {ns : List Node} (hr : Rising keyN ns) (h : m ∈ layG keyN n false ns) : m = n ∨ (m ∈ ns ∧ m.x.id ≠ n.x.id) := by
 rcases (layG_mem hr).1 h with h | ⟨_, h⟩
 · exact .inr h
 · exact .inl h
theorem NM.add {w w' : World} {bm : Nat} {ns : List Node} (h : NM w bm ns) {n : Node} (m : Mod (fun b => b = bm) w w') (hU : UMap Tryz.prog 32 .u32 w' bm (putL n.x.id (.pointer (some ⟨n.p, 0, none⟩)) (ns.map Node.f))) (hn : NAt w' n) (hd : ∀ b ∈ n.blocks, ¬ FootN bm ns b) (ho : n.p ≠ n.mp ∧ n.p ≠ n.me ∧ n.mp ≠ n.me) : NM w' bm (layG keyN n false ns) := by
 refine ⟨?_, ?_, ?_, ?_, ?_⟩
 · have := putL_map Node.f n (l := ns) h.rising
   have e : putL n.x.id (.pointer (some ⟨n.p, 0, none⟩)) (ns.map Node.f) = (layG keyN n false ns).map Node.f := this
   rw [← e]; exact hU
 · intro o hmem
   rcases layN_mem h.rising hmem with rfl | ⟨h1, _⟩
   · exact hn
   · exact (h.each o h1).mod m (fun b hb e => h.off o h1 (e ▸ hb))
 · intro o hmem
   rcases layN_mem h.rising hmem with rfl | ⟨h1, _⟩
   · exact ho
   · exact h.own o h1
 · intro o hmem o' hmem' b hb1 hb2
   rcases layN_mem h.rising hmem with rfl | ⟨h1, _⟩
   · rcases layN_mem h.rising hmem' with rfl | ⟨k1, _⟩
     · rfl
     · exact absurd (.inr ⟨o', k1, hb2⟩) (hd b hb1)
   · rcases layN_mem h.rising hmem' with rfl | ⟨k1, _⟩
     · exact absurd (.inr ⟨o, h1, hb1⟩) (hd b hb2)
     · exact h.sep o h1 o' k1 b hb1 hb2
 · intro o hmem
   rcases layN_mem h.rising hmem with rfl | ⟨h1, _⟩
   · exact fun e => hd _ e (.inl rfl)
   · exact h.off o h1
theorem footN_lay {bm : Nat} {ns : List Node} {n : Node} (hr : Rising keyN ns) {b : Nat} (h : FootN bm (layG keyN n false ns) b) : FootN bm ns b ∨ b ∈ n.blocks := by
 rcases h with h | ⟨o, ho, h⟩
 · exact .inl (.inl h)
 · rcases layN_mem hr ho with rfl | ⟨h1, _⟩
   · exact .inr h
   · exact .inl (.inr ⟨o, h1, h⟩)
theorem PG.add {w w' : World} {g bm : Nat} {ns : List Node} (h : PG w g bm ns) {n : Node} (m : Mod (fun b => b = bm) w w') (hU : UMap Tryz.prog 32 .u32 w' bm (putL n.x.id (.pointer (some ⟨n.p, 0, none⟩)) (ns.map Node.f))) (hn : NAt w' n) (hd : ∀ b ∈ n.blocks, ¬ Foot g bm ns b) (ho : n.p ≠ n.mp ∧ n.p ≠ n.me ∧ n.mp ≠ n.me) : PG w' g bm (layG keyN n false ns) := by
 refine ⟨m.heap h.cell h.ne, h.nm.add m hU hn (fun b hb f => hd b hb (.inr f)) ho, fun f => ?_⟩
 rcases footN_lay h.nm.rising f with f | f
 · exact h.goff f
 · exact hd g f (.inl rfl)
def dropN (v : Nat) (ns : List Node) : List Node := ns.filter fun n => !decide (n.x.id = v)
theorem dropN_mem {v : Nat} {n : Node} {ns : List Node} : n ∈ dropN v ns ↔ n ∈ ns ∧ n.x.id ≠ v := by
 unfold dropN
 rw [List.mem_filter]
 simp
theorem NM.drop {w w' : World} {bm : Nat} {ns : List Node} (h : NM w bm ns) (v : Nat) (m : Mod (fun b => b = bm) w w') (hU : UMap Tryz.prog 32 .u32 w' bm (delL v (ns.map Node.f))) : NM w' bm (dropN v ns) := by
 have hs : ∀ o ∈ dropN v ns, o ∈ ns := fun o ho => (List.mem_filter.1 ho).1
 refine ⟨?_, fun o ho => (h.each o (hs o ho)).mod m (fun b hb e => h.off o (hs o ho) (e ▸ hb)), fun o ho => h.own o (hs o ho), fun o ho o' ho' => h.sep o (hs o ho) o' (hs o' ho'), fun o ho => h.off o (hs o ho)⟩
 have e : delL v (ns.map Node.f) = (dropN v ns).map Node.f := by
   have := delL_map Node.f ⟨⟨v, true, [], []⟩, 0, 0, 0⟩ ns
   rw [layG_done] at this
   exact this
 rw [← e]; exact hU
theorem footN_drop {bm v : Nat} {ns : List Node} {b : Nat} (h : FootN bm (dropN v ns) b) : FootN bm ns b := by
 rcases h with h | ⟨o, ho, h⟩
 · exact .inl h
 · exact .inr ⟨o, (List.mem_filter.1 ho).1, h⟩
theorem PG.drop {w w' : World} {g bm : Nat} {ns : List Node} (h : PG w g bm ns) (v : Nat) (m : Mod (fun b => b = bm) w w') (hU : UMap Tryz.prog 32 .u32 w' bm (delL v (ns.map Node.f))) : PG w' g bm (dropN v ns) :=
 ⟨m.heap h.cell h.ne, h.nm.drop v m hU, fun f => h.goff (footN_drop f)⟩
theorem dropN_map (v : Nat) (ns : List Node) : (dropN v ns).map Node.x = layV ⟨v, false, [], []⟩ (ns.map Node.x) := by
 unfold layV dropN
 rw [show (!(⟨v, false, [], []⟩ : Vtx).there) = true from rfl, layG_done, List.filter_map]
 congr 1
def FootM (bm : Nat) (ns : List Node) (b : Nat) : Prop := b = bm ∨ ∃ n ∈ ns, b = n.mp ∨ b = n.me
theorem FootM.foot {bm : Nat} {ns : List Node} {b : Nat} (h : FootM bm ns b) : FootN bm ns b := by
 rcases h with h | ⟨n, hn, h | h⟩
 · exact .inl h
 · exact .inr ⟨n, hn, by simp [Node.blocks, h]⟩
 · exact .inr ⟨n, hn, by simp [Node.blocks, h]⟩
theorem UMap.isMap {P : Program} {kt : TypeId} {q : IntKind} {w : World} {b : Nat} {es : Ents} (h : UMap P kt q w b es) : ∃ xs clock, w.heap[b]? = some (.map xs clock) := by
 obtain ⟨⟨xs, clock, hm, _⟩⟩ := h
 exact ⟨xs, clock, hm⟩
theorem NM.isMap {w : World} {bm : Nat} {ns : List Node} (h : NM w bm ns) {b : Nat} (hb : FootM bm ns b) : ∃ xs clock, w.heap[b]? = some (.map xs clock) := by
 rcases hb with rfl | ⟨n, hn, rfl | rfl⟩
 · exact h.map.isMap
 · exact (h.each n hn).props.isMap
 · exact (h.each n hn).edges.isMap
theorem NM.cell {w w' : World} {bm : Nat} {ns : List Node} (h : NM w bm ns) (m : Mod (FootM bm ns) w w') {a : Addr} {v : Value} (hc : w.cell? a = some v) : w'.cell? a = some v := by
 refine (World.cell?_of_block (w := w) (m.block a.block (World.block_lt_of_cell? _ _ hc) (fun f => ?_))).trans hc
 obtain ⟨xs, clock, hm⟩ := h.isMap f
 unfold World.cell? at hc
 rw [hm] at hc
 simp at hc
theorem NM.box {w w' : World} {bm : Nat} {ns : List Node} (h : NM w bm ns) (m : Mod (FootM bm ns) w w') {b : Nat} {cs : Array Value} {t : TypeId} {f : Nat × Nat} (hc : w.heap[b]? = some (.cells cs t f)) : w'.heap[b]? = some (.cells cs t f) := by
 refine m.heap hc (fun e => ?_)
 obtain ⟨xs, clock, hm⟩ := h.isMap e
 rw [hm] at hc
 cases hc
theorem NM.rds {w w' : World} {bm : Nat} {ns : List Node} (h : NM w bm ns) (m : Mod (FootM bm ns) w w') {size n : Nat} {v : Value} {us : List Value} (hr : RdS w size v n us) : RdS w' size v n us :=
 ⟨hr.len, hr.shape, fun a c e j u hu => by
   obtain ⟨b, off, e1, hb, hc⟩ := hr.cell a c e j u hu
   exact ⟨b, off, e1, Nat.lt_of_lt_of_le hb m.size, h.cell m hc⟩⟩
theorem NM.seg {w w' : World} {bm : Nat} {ns : List Node} (h : NM w bm ns) (m : Mod (FootM bm ns) w w') {t : TypeId} {size n : Nat} {v : Value} {us : List Value} (hr : Seg w t size v n us) : Seg w' t size v n us :=
 hr.mod m (fun b hb f => by
   obtain ⟨xs, clock, hm⟩ := h.isMap f
   rcases hr.2.2 with ⟨rfl, _⟩ | ⟨g, off, cap, cur, rfl, hg, _⟩
   · simp [Value.ownBlock] at hb
   · simp [Value.ownBlock] at hb
     subst hb
     rw [hm] at hg
     cases hg)
theorem NM.nodes {w w' : World} {bm bm' : Nat} {ns ns' : List Node} (m : Mod (FootM bm ns) w w') (h : NM w bm' ns') (hd : ∀ b, FootM bm ns b → ¬ FootN bm' ns' b) : NM w' bm' ns' := h.mod m (fun b hb f => hd b f hb)
structure Turned (g bm : Nat) (ns : List Node) (L' : Gr) (off : Nat → Prop) (w w' : World) (ns' : List Node) : Prop where
 pg : PG w' g bm ns'
 is : ns'.map Node.x = L'
 mod : Mod (FootM bm ns) w w'
 new : ∀ b, FootN bm ns' b → FootN bm ns b ∨ w.heap.size ≤ b
 newM : ∀ b, FootM bm ns' b → FootM bm ns b ∨ w.heap.size ≤ b
 same : ∀ n : Node, off n.x.id → (n ∈ ns' ↔ n ∈ ns)
theorem Turned.idle {w w' : World} {g bm : Nat} {ns : List Node} (h : PG w g bm ns) (m : Mod (fun _ => False) w w') (off : Nat → Prop) : Turned g bm ns (ns.map Node.x) off w w' ns :=
 ⟨h.keep m, rfl, m.mono (fun _ _ f => f.elim), fun b hb => .inl hb, fun b hb => .inl hb, fun _ _ => Iff.rfl⟩
theorem Turned.trans {w w1 w2 : World} {g bm : Nat} {ns ns1 ns2 : List Node} {L1 L2 : Gr} {o1 o2 off : Nat → Prop} (a : Turned g bm ns L1 o1 w w1 ns1) (b : Turned g bm ns1 L2 o2 w1 w2 ns2) (h1 : ∀ k, off k → o1 k) (h2 : ∀ k, off k → o2 k) : Turned g bm ns L2 off w w2 ns2 := by
 refine ⟨b.pg, b.is, a.mod.trans' b.mod (fun i hi f => ?_), fun x hx => ?_, fun x hx => ?_, fun n hn => (b.same n (h2 _ hn)).trans (a.same n (h1 _ hn))⟩
 · rcases a.newM i f with h | h
   · exact h
   · omega
 · rcases b.new x hx with h | h
   · exact a.new x h
   · exact .inr (Nat.le_trans a.mod.size h)
 · rcases b.newM x hx with h | h
   · exact a.newM x h
   · exact .inr (Nat.le_trans a.mod.size h)
theorem Turned.keep {w w0 w1 w2 : World} {g bm : Nat} {ns ns1 : List Node} {L1 : Gr} {off : Nat → Prop} (a : Turned g bm ns L1 off w0 w1 ns1) (m0 : Mod (fun _ => False) w w0) (m : Mod (fun _ => False) w1 w2) : Turned g bm ns L1 off w w2 ns1 :=
 ⟨a.pg.keep m, a.is, ((m0.mono (fun _ _ f => f.elim)).trans a.mod).trans' m (fun _ _ f => f.elim), fun b hb => (a.new b hb).imp id (fun h => Nat.le_trans m0.size h), fun b hb => (a.newM b hb).imp id (fun h => Nat.le_trans m0.size h), a.same⟩
theorem Turned.repl {w w' : World} {g bm : Nat} {ns : List Node} (h : PG w g bm ns) {n0 n : Node} (h0 : n0 ∈ ns) (hi : n.x.id = n0.x.id) (ht : n.x.there = true) (hb : n.blocks = n0.blocks) {S : Nat → Prop} (m : Mod S w w') (hS : ∀ b, S b → b = n0.mp ∨ b = n0.me) (hn : NAt w' n) : Turned g bm ns (layV n.x (ns.map Node.x)) (fun k => k ≠ n0.x.id) w w' (replN n ns) := by
 have hm : ∀ b, FootM bm (replN n ns) b → FootM bm ns b := by
   rintro b (h | ⟨o, ho, h⟩)
   · exact .inl h
   · rcases replN_mem ho with rfl | ⟨h1, _⟩
     · have hmp : o.mp = n0.mp := by have := hb; simp only [Node.blocks] at this; injection this with _ t; injection t
       have hme : o.me = n0.me := by have := hb; simp only [Node.blocks] at this; injection this with _ t; injection t with _ t; injection t
       exact .inr ⟨n0, h0, by rw [hmp, hme] at h; exact h⟩
     · exact .inr ⟨o, h1, h⟩
 refine ⟨h.repl h0 hi hb m hS hn, replN_map h.nm.rising ⟨n0, h0, hi.symm⟩ ht, m.mono (fun b _ s => .inr ⟨n0, h0, hS b s⟩), fun b hb' => .inl (footN_repl h0 hb hb'), fun b hb' => .inl (hm b hb'), fun o ho => ?_⟩
 unfold replN
 rw [List.mem_map]
 constructor
 · rintro ⟨o1, h1, e⟩
   split at e
   · subst e; exact absurd hi ho
   · subst e; exact h1
 · intro h1
   exact ⟨o, h1, by rw [if_neg (by rw [hi]; exact ho)]⟩
theorem Turned.add {w w' : World} {g bm : Nat} {ns : List Node} (h : PG w g bm ns) {n : Node} (ht : n.x.there = true) {w0 : World} (m0 : Mod (fun _ => False) w w0) (m : Mod (fun b => b = bm) w0 w') (hU : UMap Tryz.prog 32 .u32 w' bm (putL n.x.id (.pointer (some ⟨n.p, 0, none⟩)) (ns.map Node.f))) (hn : NAt w' n) (hnew : ∀ b ∈ n.blocks, w.heap.size ≤ b) (ho : n.p ≠ n.mp ∧ n.p ≠ n.me ∧ n.mp ≠ n.me) : Turned g bm ns (layV n.x (ns.map Node.x)) (fun k => k ≠ n.x.id) w w' (layG keyN n false ns) := by
 have hlt := h.lt
 refine ⟨(h.keep m0).add m hU hn (fun b hb f => by have := hnew b hb; have := hlt b f; omega) ho, ?_, (m0.mono (fun _ _ f => f.elim)).trans (m.mono (fun b _ e => .inl e)), fun b hb => ?_, fun b hb => ?_, fun o ho => ?_⟩
 · rw [lay_mapN]; unfold layV; rw [ht]; rfl
 · exact (footN_lay h.nm.rising hb).imp id (hnew b)
 · rcases hb with hb | ⟨o, ho, hb⟩
   · exact .inl (.inl hb)
   · rcases layN_mem h.nm.rising ho with rfl | ⟨h1, _⟩
     · exact .inr (hnew b (by rcases hb with e | e <;> simp [Node.blocks, e]))
     · exact .inl (.inr ⟨o, h1, hb⟩)
 · rw [layG_mem h.nm.rising]
   constructor
   · rintro (⟨h1, _⟩ | ⟨_, rfl⟩)
     · exact h1
     · exact absurd rfl ho
   · intro h1; exact .inl ⟨h1, ho⟩
theorem Turned.drop {w w' : World} {g bm : Nat} {ns : List Node} (h : PG w g bm ns) (v : Nat) (m : Mod (fun b => b = bm) w w') (hU : UMap Tryz.prog 32 .u32 w' bm (delL v (ns.map Node.f))) : Turned g bm ns (layV ⟨v, false, [], []⟩ (ns.map Node.x)) (fun k => k ≠ v) w w' (dropN v ns) := by
 refine ⟨h.drop v m hU, dropN_map v ns, m.mono (fun b _ e => .inl e), fun b hb => .inl (footN_drop hb), fun b hb => .inl ?_, fun o ho => ?_⟩
 · rcases hb with hb | ⟨o, ho, hb⟩
   · exact .inl hb
   · exact .inr ⟨o, (dropN_mem.1 ho).1, hb⟩
 · rw [dropN_mem]; exact ⟨fun h => h.1, fun h => ⟨h, ho⟩⟩
def edgeG (L : Gr) (y x : Nat) : Prop := ∃ z ∈ L, z.id = y ∧ ∃ h ∈ z.halves, h.key = x
theorem near_succ {L : Gr} {v d x : Nat} : nearG L v (d + 1) x = true ↔ nearG L v d x = true ∨ ∃ y, nearG L v d y = true ∧ edgeG L y x := by
 show (nearG L v d x || L.any fun y => nearG L v d y.id && (y.halves.any fun h => h.key == x)) = true ↔ _
 rw [Bool.or_eq_true, List.any_eq_true]
 constructor
 · rintro (h | ⟨z, hz, h⟩)
   · exact .inl h
   · rw [Bool.and_eq_true, List.any_eq_true] at h
     obtain ⟨h1, e, he, h2⟩ := h
     exact .inr ⟨z.id, h1, z, hz, rfl, e, he, by simpa using h2⟩
 · rintro (h | ⟨y, h1, z, hz, rfl, e, he, h2⟩)
   · exact .inl h
   · refine .inr ⟨z, hz, ?_⟩
     rw [Bool.and_eq_true, List.any_eq_true]
     exact ⟨h1, e, he, by simpa using h2⟩
theorem near_zero {L : Gr} {v x : Nat} : nearG L v 0 x = true ↔ x = v := by
 show (x == v) = true ↔ _
 simp
theorem near_in {L : Gr} (h : Good L) {v : Nat} (hv : ∃ y ∈ L, y.id = v) : ∀ d x, nearG L v d x = true → ∃ y ∈ L, y.id = x
 | 0, x, hx => by rw [near_zero] at hx; subst hx; exact hv
 | d + 1, x, hx => by
   rcases near_succ.1 hx with hx | ⟨y, _, z, hz, _, e, he, rfl⟩
   · exact near_in h hv d x hx
   · obtain ⟨u, hu, e1, _⟩ := h.pair z hz e he
     exact ⟨u, hu, e1⟩
structure Ring (L : Gr) (v d : Nat) (S : Nat → Prop) (ring : List Nat) : Prop where
 seen : ∀ x, S x ↔ nearG L v d x = true
 out : ∀ y x, nearG L v d y = true → y ∉ ring → edgeG L y x → nearG L v d x = true
 near : ∀ y ∈ ring, nearG L v d y = true
theorem Ring.start (L : Gr) (v : Nat) {S : Nat → Prop} (hS : ∀ x, S x ↔ x = v) : Ring L v 0 S [v] :=
 ⟨fun x => by rw [hS, near_zero], fun y x hy hn _ => absurd (near_zero.1 hy) (fun e => hn (by simp [e])), fun y hy => by rw [List.mem_singleton] at hy; exact near_zero.2 hy⟩
theorem Ring.next {L : Gr} {v d : Nat} {S S' : Nat → Prop} {ring next : List Nat} (h : Ring L v d S ring) (hS : ∀ x, S' x ↔ S x ∨ ∃ y ∈ ring, edgeG L y x) (hn : ∀ x, x ∈ next ↔ S' x ∧ ¬ S x) : Ring L v (d + 1) S' next := by
 have hs : ∀ x, S' x ↔ nearG L v (d + 1) x = true := fun x => by
   rw [hS, near_succ]
   constructor
   · rintro (hx | ⟨y, hy, e⟩)
     · exact .inl ((h.seen x).1 hx)
     · exact .inr ⟨y, h.near y hy, e⟩
   · rintro (hx | ⟨y, hy, e⟩)
     · exact .inl ((h.seen x).2 hx)
     · by_cases hr : y ∈ ring
       · exact .inr ⟨y, hr, e⟩
       · exact .inl ((h.seen x).2 (h.out y x hy hr e))
 refine ⟨hs, fun y x hy hny e => ?_, fun y hy => (hs y).1 ((hn y).1 hy).1⟩
 have h1 := (hs y).2 hy
 have h2 : S y := Classical.byContradiction fun c => hny ((hn y).2 ⟨h1, c⟩)
 exact near_succ.2 (.inr ⟨y, (h.seen y).1 h2, e⟩)
theorem mem_withinG {L : Gr} {v k x : Nat} : x ∈ withinG L v k ↔ nearG L v k x = true ∧ ∃ y ∈ L, y.id = x := by
 unfold withinG
 rw [List.mem_map]
 constructor
 · rintro ⟨y, hy, rfl⟩
   rw [List.mem_filter] at hy
   exact ⟨hy.2, y, hy.1, rfl⟩
 · rintro ⟨h, y, hy, rfl⟩
   exact ⟨y, List.mem_filter.2 ⟨hy, h⟩, rfl⟩
theorem withinG_rising {L : Gr} (h : Rising Vtx.id L) (v k : Nat) : (withinG L v k).Pairwise (· < ·) := by
 unfold withinG
 rw [List.pairwise_map]
 exact List.Pairwise.filter _ h
theorem rising_ext9 : ∀ {a b : List Nat}, a.Pairwise (· < ·) → b.Pairwise (· < ·) → (∀ p, p ∈ a ↔ p ∈ b) → a = b
 | [], [], _, _, _ => rfl
 | [], y :: r, _, _, h => absurd ((h y).2 (by simp)) (by simp)
 | x :: r, [], _, _, h => absurd ((h x).1 (by simp)) (by simp)
 | x :: r, y :: t, ha, hb, h => by
   obtain ⟨hx, hr⟩ := List.pairwise_cons.1 ha
   obtain ⟨hy, ht⟩ := List.pairwise_cons.1 hb
   have e : x = y := by
     rcases List.mem_cons.1 ((h x).1 (by simp)) with e | e
     · exact e
     · rcases List.mem_cons.1 ((h y).2 (by simp)) with e2 | e2
       · exact e2.symm
       · have := hx y e2; have := hy x e; omega
   subst e
   rw [rising_ext9 hr ht (fun p => ?_)]
   constructor
   · intro hp
     rcases List.mem_cons.1 ((h p).1 (by simp [hp])) with e | e
     · have := hx p hp; omega
     · exact e
   · intro hp
     rcases List.mem_cons.1 ((h p).2 (by simp [hp])) with e | e
     · have := hy p hp; omega
     · exact e
theorem Ring.all {L : Gr} (hL : Good L) {v : Nat} (hv : ∃ y ∈ L, y.id = v) {k : Nat} {S : Nat → Prop} {ring : List Nat} (h : Ring L v k S ring) {ks : List Nat} (hr : ks.Pairwise (· < ·)) (hk : ∀ x, x ∈ ks ↔ S x) : ks = withinG L v k :=
 rising_ext9 hr (withinG_rising hL.rise v k) fun x => by
   rw [hk, h.seen, mem_withinG]
   exact ⟨fun e => ⟨e, near_in hL hv k x e⟩, fun e => e.1⟩
section
variable {α : Type} {key : α → Nat}
theorem rising_extG : ∀ {a b : List α}, Rising key a → Rising key b → (∀ p, p ∈ a ↔ p ∈ b) → a = b
 | [], [], _, _, _ => rfl
 | [], y :: r, _, _, h => absurd ((h y).2 (by simp)) (by simp)
 | x :: r, [], _, _, h => absurd ((h x).1 (by simp)) (by simp)
 | x :: r, y :: t, ha, hb, h => by
   obtain ⟨hx, hr⟩ := List.pairwise_cons.1 ha
   obtain ⟨hy, ht⟩ := List.pairwise_cons.1 hb
   have e : x = y := by
     rcases List.mem_cons.1 ((h x).1 (by simp)) with e | e
     · exact e
     · rcases List.mem_cons.1 ((h y).2 (by simp)) with e2 | e2
       · exact e2.symm
       · have := hx y e2; have := hy x e; omega
   subst e
   rw [rising_extG hr ht (fun p => ?_)]
   constructor
   · intro hp
     rcases List.mem_cons.1 ((h p).1 (by simp [hp])) with e | e
     · subst e; have := hx p hp; omega
     · exact e
   · intro hp
     rcases List.mem_cons.1 ((h p).2 (by simp [hp])) with e | e
     · subst e; have := hy p hp; omega
     · exact e
end
theorem findV_iff {L : Gr} (hr : Rising Vtx.id L) {v : Nat} {x : Vtx} : findV L v = some x ↔ x ∈ L ∧ x.id = v := by
 constructor
 · exact findV_mem
 · rintro ⟨hx, rfl⟩
   cases h : findV L x.id with
   | none => exact absurd rfl (findV_none.1 h x hx)
   | some y =>
     obtain ⟨h1, h2⟩ := findV_mem h
     rw [hr.uniq h1 hx h2]
open Go.RowKit Go.Maps
def namedB (ops : List Opr) (k : Nat) : Bool := ops.any fun o => o.a == k || o.b == k
def namedTo (ops : List Opr) (ids : List Nat) (j k : Nat) : Bool := namedB ops k || (ids.take j).any fun i => i == k
theorem namedTo_zero (ops : List Opr) (ids : List Nat) : namedTo ops ids 0 = namedB ops := by
 funext k; simp [namedTo]
theorem namedTo_succ {ops : List Opr} {ids : List Nat} {j i : Nat} (h : ids[j]? = some i) (k : Nat) : namedTo ops ids (j + 1) k = (namedTo ops ids j k || i == k) := by
 obtain ⟨h1, h2⟩ := List.getElem?_eq_some_iff.1 h
 unfold namedTo
 rw [List.take_succ_eq_append_getElem h1, h2, List.any_append]
 simp [Bool.or_assoc]
theorem namedB_next {ops : List Opr} {i : Nat} {o : Opr} (h : ops[i]? = some o) : namedB (ops.take (i + 1)) = namedTo (ops.take i) [o.a, o.b] 2 := by
 obtain ⟨h1, h2⟩ := List.getElem?_eq_some_iff.1 h
 funext k
 unfold namedB namedTo
 rw [List.take_succ_eq_append_getElem h1, h2, List.any_append]
 simp [namedB]
theorem namedB_nil : namedB [] = fun _ => false := rfl
theorem filter_more {L : Gr} (hr : Rising Vtx.id L) {x : Vtx} (hx : x ∈ L) (p : Nat → Bool) : layG Vtx.id x false (L.filter fun y => p y.id) = L.filter fun y => p y.id || x.id == y.id := by
 have hf : Rising Vtx.id (L.filter fun y => p y.id) := List.Pairwise.filter _ hr
 refine rising_extG (Rising.lay hf) (List.Pairwise.filter _ hr) fun y => ?_
 rw [layG_mem hf, List.mem_filter, List.mem_filter, Bool.or_eq_true, beq_iff_eq]
 constructor
 · rintro (⟨⟨h1, h2⟩, _⟩ | ⟨_, rfl⟩)
   · exact ⟨h1, .inl h2⟩
   · exact ⟨hx, .inr rfl⟩
 · rintro ⟨h1, h2⟩
   by_cases e : y.id = x.id
   · exact .inr ⟨rfl, hr.uniq h1 hx e⟩
   · exact .inl ⟨⟨h1, h2.resolve_right (fun c => e c.symm)⟩, e⟩
theorem filter_none {L : Gr} {v : Nat} (hv : findV L v = none) (p : Nat → Bool) : (L.filter fun y => p y.id || v == y.id) = L.filter fun y => p y.id := by
 apply List.filter_congr
 intro y hy
 have := findV_none.1 hv y hy
 have e : (v == y.id) = false := by simp; omega
 rw [e, Bool.or_false]
theorem laid_back {ops : List Opr} {ns0 nsi nsf cs : List Node} (h0 : Rising keyN ns0) (hf : Rising keyN nsf) (hs : ∀ n : Node, namedB ops n.x.id = false → (n ∈ nsi ↔ n ∈ ns0)) (hc : cs.map Node.x = (ns0.map Node.x).filter fun y => namedB ops y.id)
   (hm : ∀ n : Node, n ∈ nsf ↔ (n ∈ nsi ∧ namedB ops n.x.id = false) ∨ n ∈ cs) : nsf.map Node.x = ns0.map Node.x := by
 refine rising_extG (key := Vtx.id) (rising_map hf) (rising_map h0) fun p => ?_
 rw [List.mem_map, List.mem_map]
 constructor
 · rintro ⟨n, hn, rfl⟩
   rcases (hm n).1 hn with ⟨h1, h2⟩ | h
   · exact ⟨n, (hs n h2).1 h1, rfl⟩
   · have : n.x ∈ cs.map Node.x := List.mem_map_of_mem h
     rw [hc] at this
     obtain ⟨m, h1, h2⟩ := List.mem_map.1 (List.mem_filter.1 this).1
     exact ⟨m, h1, h2⟩
 · rintro ⟨n, hn, rfl⟩
   cases hb : namedB ops n.x.id with
   | true =>
     have : n.x ∈ cs.map Node.x := by
       rw [hc, List.mem_filter]
       exact ⟨List.mem_map_of_mem hn, hb⟩
     obtain ⟨c, h1, h2⟩ := List.mem_map.1 this
     exact ⟨c, (hm c).2 (.inr h1), h2⟩
   | false => exact ⟨n, (hm n).2 (.inl ⟨(hs n hb).2 hn, hb⟩), rfl⟩
end Go.Proofs.YtpigipgoopeeoaaGreatDoor
