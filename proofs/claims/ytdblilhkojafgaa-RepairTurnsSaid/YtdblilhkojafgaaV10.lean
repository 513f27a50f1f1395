/- repair.right: is a list in form? -/
import Derived.Test.YtdblilhkojafgaaV9
namespace Go.Proofs.Ytdblilhkojafgaa
set_option linter.unusedVariables false
open Go.RowKit

def listOK : Option Nat → List Vs → Bool
  | _, [] => true
  | p, s :: r => ((s.x.there && s.x.right) && above p s.x.id) && listOK (some s.x.id) r
def prevV (l : List Vs) (i : Nat) : Option Nat := match i with | 0 => none | i + 1 => (l[i]?).map fun s => s.x.id
theorem listOK_step {l : List Vs} {i : Nat} {s : Vs} (h : l[i]? = some s) : listOK (prevV l i) (l.drop i) = (((s.x.there && s.x.right) && above (prevV l i) s.x.id) && listOK (prevV l (i + 1)) (l.drop (i + 1))) := by
  obtain ⟨hi, hx⟩ := List.getElem?_eq_some_iff.1 h
  rw [List.drop_eq_getElem_cons hi, hx, listOK]
  congr 2
  simp [prevV, h]
theorem prevV_zero {l : List Vs} {k : Nat} (h : k = 0) : prevV l k = none := by subst h; rfl
theorem prevV_pos {l : List Vs} {k : Nat} (h : 0 < k) {y : Vs} (hy : l[k - 1]? = some y) : prevV l k = some y.x.id := by
  obtain ⟨m, rfl⟩ : ∃ m, k = m + 1 := ⟨k - 1, by omega⟩
  simp only [Nat.add_sub_cancel] at hy
  simp [prevV, hy]
theorem listOK_nil {l : List Vs} {k : Nat} (h : l.length ≤ k) (p : Option Nat) : listOK p (l.drop k) = true := by
  rw [List.drop_of_length_le h]; rfl

/-- The worlds of the loop, at a round's head. -/
structure RLoop (w : World) (k : Nat) (wr : World) : Prop where
  mod : Mod (fun _ => False) w wr
  gat : ∃ es, GAt wr (w.heap.size + 1) w.heap.size es ∧ es.length ≤ k
theorem RLoop.start {w wr : World} {k : Nat} (h : RLoop w k wr) (id : Nat) (o : Array Value) : ∃ x : RC w (w.heap.size + 1) w.heap.size wr.heap.size id k o, x.w = wr.alloc (.cells o 31) := by
  obtain ⟨es, hg, hl⟩ := h.gat
  exact ⟨⟨_, h.mod.alloc _, heap_alloc_new' wr _, es, hg.mod ((Mod.refl (fun _ => False) wr).alloc _) (fun f => f) (fun f => f), by omega, Nat.le_trans (List.length_filter_le _ _) hl⟩, rfl⟩
theorem RLoop.next {w w' : World} {k b5 id : Nat} {o : Array Value} (h : ∃ x : RC w (w.heap.size + 1) w.heap.size b5 id k o, w' = x.w) : RLoop w (k + 1) w' := by
  obtain ⟨x, rfl⟩ := h
  exact ⟨x.mod, x.es, x.gat, x.l1⟩
theorem RC.mod_of {w0 w' : World} {g bm b5 id n : Nat} {o : Array Value} (h : ∃ x : RC w0 g bm b5 id n o, w' = x.w) : Mod (fun _ => False) w0 w' := by
  obtain ⟨x, rfl⟩ := h
  exact x.mod

set_option maxRecDepth 100000 in
set_option maxHeartbeats 2000000 in
theorem rright_any (v : Value) (l : List Vs) (w : World) (hv : LRd w v l) (hl : l.length < 999999) :
    Calls Try.prog 36 #[v] w fun e w' => e = .returned (.bool (listOK none l)) ∧ Mod (fun _ => False) w w' := by
  have HV := Lib.hid hv
  obtain ⟨a, c, rfl, hc1, hc2, -⟩ := hv.row.shape
  clear hv
  obtain ⟨n, hn⟩ : ∃ n, n = l.length := ⟨_, rfl⟩
  have HN := Lib.hid hn
  rw [← hn] at HV hc1 hl ⊢
  clear hn
  have HNEW := Lib.hid (new_any w)
  go_enter Try.func36, Try.ntmps36
  go_wp2_with (go_at_call 53; refine HNEW.out.mono ?_; rintro e w3 ⟨rfl, hm, hg⟩; have HL0 : Hid (RLoop w 0 w3) := Lib.hid ⟨hm, _, hg, Nat.le_refl _⟩; clear hm hg HNEW)
  go_loopw [9] (fun i wr => ∃ k : Nat, i = .int .i64 k ∧ k ≤ n ∧ listOK none l = listOK (prevV l k) (l.drop k) ∧ RLoop w k wr) (fun i _ => n - (intOf i).toNat)
  case atStart => exact ⟨0, rfl, Nat.zero_le _, rfl, HL0.out⟩
  case round =>
    obtain ⟨k, rfl, hk, hch, hm⟩ := hrel
    have HCH := Lib.hid hch
    have HM := Lib.hid hm
    clear hch hm HL0
    by_cases hkn : k < n
    · obtain ⟨x, hx⟩ : ∃ x, l[k]? = some x := ⟨_, List.getElem?_eq_getElem (by rw [← HN.out]; exact hkn)⟩
      have HX := Lib.hid hx
      obtain ⟨b, off, rfl, hb, p0, p1, p2, p3⟩ := HV.out.ent hx rfl
      have p0 := HM.out.mod.cell p0
      have p1 := HM.out.mod.cell p1
      have p2 := HM.out.mod.cell p2
      have p3 := HM.out.mod.cell p3
      have HVR := Lib.hid (HV.out.at hx)
      have zb : w.heap.size + 1 < wr.heap.size := by
        obtain ⟨es, hg, -⟩ := HM.out.gat
        exact lt_of_block hg.cell
      clear hx
      obtain ⟨⟨id, there, ps, hs⟩, vp, vh⟩ := x
      obtain ⟨np, ap, cp, rfl⟩ : ∃ np ap cp, vp = .slice ap np cp := by
        obtain ⟨a, c, e, _⟩ := HVR.out.props.shape
        exact ⟨_, _, _, e⟩
      obtain ⟨nh, ah, ch, rfl⟩ : ∃ np ap cp, vh = .slice ap np cp := by
        obtain ⟨a, c, e, _⟩ := HVR.out.halves.shape
        exact ⟨_, _, _, e⟩
      simp only at p0 p1 p2 p3 HVR
      have HST := Lib.hid (listOK_step HX.out)
      simp only at HST
      have hk6 : k + 1 < 1000000 := by omega
      cases there with
      | false =>
        have HR : Hid (listOK none l = false) := Lib.hid (by rw [HCH.out, HST.out]; simp)
        clear HST
        obtain ⟨x0, hx0⟩ := HM.out.start id #[.int .u32 (id : Int), .bool false, (.slice ap np cp), (.slice ah nh ch)]
        haveI hne0 : Nonempty (RC w (w.heap.size + 1) w.heap.size wr.heap.size id k #[.int .u32 (id : Int), .bool false, (.slice ap np cp), (.slice ah nh ch)]) := ⟨x0⟩
        have c0 : ∀ x : RC w (w.heap.size + 1) w.heap.size wr.heap.size id k #[.int .u32 (id : Int), .bool false, (.slice ap np cp), (.slice ah nh ch)], x.w.cell? ⟨wr.heap.size, 0, none⟩ = some (.int .u32 (id : Int)) := fun x => x.boxc (by simp)
        have c1 : ∀ x : RC w (w.heap.size + 1) w.heap.size wr.heap.size id k #[.int .u32 (id : Int), .bool false, (.slice ap np cp), (.slice ah nh ch)], x.w.cell? ⟨wr.heap.size, 1, none⟩ = some (.bool false) := fun x => x.boxc (by simp)
        have c2 : ∀ x : RC w (w.heap.size + 1) w.heap.size wr.heap.size id k #[.int .u32 (id : Int), .bool false, (.slice ap np cp), (.slice ah nh ch)], x.w.cell? ⟨wr.heap.size, 2, none⟩ = some (.slice ap np cp) := fun x => x.boxc (by simp)
        have c3 : ∀ x : RC w (w.heap.size + 1) w.heap.size wr.heap.size id k #[.int .u32 (id : Int), .bool false, (.slice ap np cp), (.slice ah nh ch)], x.w.cell? ⟨wr.heap.size, 3, none⟩ = some (.slice ah nh ch) := fun x => x.boxc (by simp)
        go_wp2_with fail
        refine wp_region_RC x0 hx0 (by kernel_rfl) (by kernel_rfl) ?_
        repeat (go_big_quiet_step (fail))
        refine wpQuiet_nil ?_
        intro w3 hm3
        have M3 : Hid (Mod (fun _ => False) w w3) := Lib.hid (RC.mod_of hm3)
        clear hm3 hx0 x0 c0 c1 c2 c3
        go_wp2
        go_ret
        exact ⟨ret_bool HR.out.symm, M3.out⟩
      | true =>
        obtain ⟨rb, hrb⟩ : ∃ rb, Vtx.right ⟨id, true, ps, hs⟩ = rb := ⟨_, rfl⟩
        have HRB := Lib.hid hrb
        clear hrb
        cases rb with
        | false =>
          have HR : Hid (listOK none l = false) := Lib.hid (by rw [HCH.out, HST.out, HRB.out]; simp)
          have HPUT : Hid (∀ x : RC w (w.heap.size + 1) w.heap.size wr.heap.size id k #[.int .u32 (id : Int), .bool true, (.slice ap np cp), (.slice ah nh ch)], Calls Try.prog 54 #[.pointer (some ⟨w.heap.size + 1, 0, none⟩), .agg #[.int .u32 (id : Int), .bool true, (.slice ap np cp), (.slice ah nh ch)]] x.w fun e w' => e = .returned (.int .i64 3) ∧ ∃ x' : RC w (w.heap.size + 1) w.heap.size wr.heap.size id k #[.int .u32 (id : Int), .bool true, (.slice ap np cp), (.slice ah nh ch)], w' = x'.w) := Lib.hid (fun x => put_RCbad ⟨⟨id, true, ps, hs⟩, (.slice ap np cp), (.slice ah nh ch)⟩ HRB.out HVR.out x)
          clear HST
          obtain ⟨x0, hx0⟩ := HM.out.start id #[.int .u32 (id : Int), .bool true, (.slice ap np cp), (.slice ah nh ch)]
          haveI hne0 : Nonempty (RC w (w.heap.size + 1) w.heap.size wr.heap.size id k #[.int .u32 (id : Int), .bool true, (.slice ap np cp), (.slice ah nh ch)]) := ⟨x0⟩
          have c0 : ∀ x : RC w (w.heap.size + 1) w.heap.size wr.heap.size id k #[.int .u32 (id : Int), .bool true, (.slice ap np cp), (.slice ah nh ch)], x.w.cell? ⟨wr.heap.size, 0, none⟩ = some (.int .u32 (id : Int)) := fun x => x.boxc (by simp)
          have c1 : ∀ x : RC w (w.heap.size + 1) w.heap.size wr.heap.size id k #[.int .u32 (id : Int), .bool true, (.slice ap np cp), (.slice ah nh ch)], x.w.cell? ⟨wr.heap.size, 1, none⟩ = some (.bool true) := fun x => x.boxc (by simp)
          have c2 : ∀ x : RC w (w.heap.size + 1) w.heap.size wr.heap.size id k #[.int .u32 (id : Int), .bool true, (.slice ap np cp), (.slice ah nh ch)], x.w.cell? ⟨wr.heap.size, 2, none⟩ = some (.slice ap np cp) := fun x => x.boxc (by simp)
          have c3 : ∀ x : RC w (w.heap.size + 1) w.heap.size wr.heap.size id k #[.int .u32 (id : Int), .bool true, (.slice ap np cp), (.slice ah nh ch)], x.w.cell? ⟨wr.heap.size, 3, none⟩ = some (.slice ah nh ch) := fun x => x.boxc (by simp)
          go_wp2_with fail
          refine wp_region_RC x0 hx0 (by kernel_rfl) (by kernel_rfl) ?_
          repeat (go_big_quiet_step ((go_at_call 54; exact HPUT.out _)))
          refine wpQuiet_nil ?_
          intro w3 hm3
          have M3 : Hid (Mod (fun _ => False) w w3) := Lib.hid (RC.mod_of hm3)
          clear hm3 hx0 x0 c0 c1 c2 c3
          go_wp2
          go_ret
          exact ⟨ret_bool HR.out.symm, M3.out⟩
        | true =>
          have HPUT : Hid (∀ x : RC w (w.heap.size + 1) w.heap.size wr.heap.size id k #[.int .u32 (id : Int), .bool true, (.slice ap np cp), (.slice ah nh ch)], Calls Try.prog 54 #[.pointer (some ⟨w.heap.size + 1, 0, none⟩), .agg #[.int .u32 (id : Int), .bool true, (.slice ap np cp), (.slice ah nh ch)]] x.w fun e w' => e = .returned (.int .i64 0) ∧ ∃ x' : RC w (w.heap.size + 1) w.heap.size wr.heap.size id k #[.int .u32 (id : Int), .bool true, (.slice ap np cp), (.slice ah nh ch)], w' = x'.w) := Lib.hid (fun x => put_RC ⟨⟨id, true, ps, hs⟩, (.slice ap np cp), (.slice ah nh ch)⟩ (Nat.le_refl _) (by omega) hk6 HRB.out rfl HVR.out x)
          by_cases hk0 : k = 0
          · have tk : ¬ ((0 : Int) < (k : Int)) := by omega
            have tk3 : ¬ 0 < k := by omega
            have tk2 : decide (0 < k) = false := by simpa using tk3
            have HG : Hid (listOK none l = listOK (prevV l (k + 1)) (l.drop (k + 1))) := Lib.hid (by rw [HCH.out, HST.out, HRB.out, prevV_zero hk0]; simp [above])
            clear HST hk0
            obtain ⟨x0, hx0⟩ := HM.out.start id #[.int .u32 (id : Int), .bool true, (.slice ap np cp), (.slice ah nh ch)]
            haveI hne0 : Nonempty (RC w (w.heap.size + 1) w.heap.size wr.heap.size id k #[.int .u32 (id : Int), .bool true, (.slice ap np cp), (.slice ah nh ch)]) := ⟨x0⟩
            have c0 : ∀ x : RC w (w.heap.size + 1) w.heap.size wr.heap.size id k #[.int .u32 (id : Int), .bool true, (.slice ap np cp), (.slice ah nh ch)], x.w.cell? ⟨wr.heap.size, 0, none⟩ = some (.int .u32 (id : Int)) := fun x => x.boxc (by simp)
            have c1 : ∀ x : RC w (w.heap.size + 1) w.heap.size wr.heap.size id k #[.int .u32 (id : Int), .bool true, (.slice ap np cp), (.slice ah nh ch)], x.w.cell? ⟨wr.heap.size, 1, none⟩ = some (.bool true) := fun x => x.boxc (by simp)
            have c2 : ∀ x : RC w (w.heap.size + 1) w.heap.size wr.heap.size id k #[.int .u32 (id : Int), .bool true, (.slice ap np cp), (.slice ah nh ch)], x.w.cell? ⟨wr.heap.size, 2, none⟩ = some (.slice ap np cp) := fun x => x.boxc (by simp)
            have c3 : ∀ x : RC w (w.heap.size + 1) w.heap.size wr.heap.size id k #[.int .u32 (id : Int), .bool true, (.slice ap np cp), (.slice ah nh ch)], x.w.cell? ⟨wr.heap.size, 3, none⟩ = some (.slice ah nh ch) := fun x => x.boxc (by simp)
            go_wp2_with fail
            refine wp_region_RC x0 hx0 (by kernel_rfl) (by kernel_rfl) ?_
            repeat (go_big_quiet_step ((go_at_call 54; exact HPUT.out _)))
            refine wpQuiet_nil ?_
            intro w3 hm3
            have M3 : Hid (RLoop w (k + 1) w3) := Lib.hid (RLoop.next hm3)
            clear hm3 hx0 x0 c0 c1 c2 c3
            go_wp2
            go_roundw
            case rel => exact ⟨k + 1, by go_num, by omega, HG.out, M3.out⟩
            case measure => simp [intOf]; omega
          · have tk : (0 : Int) < (k : Int) := by omega
            have tk1 : (k : Int) - 1 = ((k - 1 : Nat) : Int) := by omega
            have hkp : 0 < k := by omega
            have hkn1 : k - 1 < n := by omega
            obtain ⟨y, hy⟩ : ∃ y, l[k - 1]? = some y := ⟨_, List.getElem?_eq_getElem (by rw [← HN.out]; exact hkn1)⟩
            obtain ⟨b', off', hb', _, y0, _, _, _⟩ := HV.out.ent hy rfl
            injection hb' with hb'
            injection hb' with e1 e2
            subst e1 e2
            have HPV := Lib.hid (prevV_pos hkp hy)
            generalize y.x.id = ykey at y0 HPV
            clear hy
            by_cases hlt : ykey < id
            · have tl : ¬ ((id : Int) ≤ (ykey : Int)) := by omega
              have tl2 : decide ((id : Int) ≤ (ykey : Int)) = false := by simpa using tl
              have HG : Hid (listOK none l = listOK (prevV l (k + 1)) (l.drop (k + 1))) := Lib.hid (by rw [HCH.out, HST.out, HRB.out, HPV.out]; simp [above, hlt])
              clear HST hlt
              obtain ⟨x0, hx0⟩ := HM.out.start id #[.int .u32 (id : Int), .bool true, (.slice ap np cp), (.slice ah nh ch)]
              haveI hne0 : Nonempty (RC w (w.heap.size + 1) w.heap.size wr.heap.size id k #[.int .u32 (id : Int), .bool true, (.slice ap np cp), (.slice ah nh ch)]) := ⟨x0⟩
              have c0 : ∀ x : RC w (w.heap.size + 1) w.heap.size wr.heap.size id k #[.int .u32 (id : Int), .bool true, (.slice ap np cp), (.slice ah nh ch)], x.w.cell? ⟨wr.heap.size, 0, none⟩ = some (.int .u32 (id : Int)) := fun x => x.boxc (by simp)
              have c1 : ∀ x : RC w (w.heap.size + 1) w.heap.size wr.heap.size id k #[.int .u32 (id : Int), .bool true, (.slice ap np cp), (.slice ah nh ch)], x.w.cell? ⟨wr.heap.size, 1, none⟩ = some (.bool true) := fun x => x.boxc (by simp)
              have c2 : ∀ x : RC w (w.heap.size + 1) w.heap.size wr.heap.size id k #[.int .u32 (id : Int), .bool true, (.slice ap np cp), (.slice ah nh ch)], x.w.cell? ⟨wr.heap.size, 2, none⟩ = some (.slice ap np cp) := fun x => x.boxc (by simp)
              have c3 : ∀ x : RC w (w.heap.size + 1) w.heap.size wr.heap.size id k #[.int .u32 (id : Int), .bool true, (.slice ap np cp), (.slice ah nh ch)], x.w.cell? ⟨wr.heap.size, 3, none⟩ = some (.slice ah nh ch) := fun x => x.boxc (by simp)
              have c4 : ∀ x : RC w (w.heap.size + 1) w.heap.size wr.heap.size id k #[.int .u32 (id : Int), .bool true, (.slice ap np cp), (.slice ah nh ch)], x.w.cell? ⟨b, off + (k - 1) * 4, none⟩ = some (.int .u32 (ykey : Int)) := fun x => x.cell y0
              go_wp2_with fail
              refine wp_region_RC x0 hx0 (by kernel_rfl) (by kernel_rfl) ?_
              repeat (go_big_quiet_step ((go_at_call 54; exact HPUT.out _)))
              refine wpQuiet_nil ?_
              intro w3 hm3
              have M3 : Hid (RLoop w (k + 1) w3) := Lib.hid (RLoop.next hm3)
              clear hm3 hx0 x0 c0 c1 c2 c3 c4
              go_wp2
              go_roundw
              case rel => exact ⟨k + 1, by go_num, by omega, HG.out, M3.out⟩
              case measure => simp [intOf]; omega
            · have tl : (id : Int) ≤ (ykey : Int) := by omega
              have tl2 : decide ((id : Int) ≤ (ykey : Int)) = true := by simpa using tl
              have HR : Hid (listOK none l = false) := Lib.hid (by rw [HCH.out, HST.out, HRB.out, HPV.out]; simp [above, hlt])
              clear HST hlt
              obtain ⟨x0, hx0⟩ := HM.out.start id #[.int .u32 (id : Int), .bool true, (.slice ap np cp), (.slice ah nh ch)]
              haveI hne0 : Nonempty (RC w (w.heap.size + 1) w.heap.size wr.heap.size id k #[.int .u32 (id : Int), .bool true, (.slice ap np cp), (.slice ah nh ch)]) := ⟨x0⟩
              have c0 : ∀ x : RC w (w.heap.size + 1) w.heap.size wr.heap.size id k #[.int .u32 (id : Int), .bool true, (.slice ap np cp), (.slice ah nh ch)], x.w.cell? ⟨wr.heap.size, 0, none⟩ = some (.int .u32 (id : Int)) := fun x => x.boxc (by simp)
              have c1 : ∀ x : RC w (w.heap.size + 1) w.heap.size wr.heap.size id k #[.int .u32 (id : Int), .bool true, (.slice ap np cp), (.slice ah nh ch)], x.w.cell? ⟨wr.heap.size, 1, none⟩ = some (.bool true) := fun x => x.boxc (by simp)
              have c2 : ∀ x : RC w (w.heap.size + 1) w.heap.size wr.heap.size id k #[.int .u32 (id : Int), .bool true, (.slice ap np cp), (.slice ah nh ch)], x.w.cell? ⟨wr.heap.size, 2, none⟩ = some (.slice ap np cp) := fun x => x.boxc (by simp)
              have c3 : ∀ x : RC w (w.heap.size + 1) w.heap.size wr.heap.size id k #[.int .u32 (id : Int), .bool true, (.slice ap np cp), (.slice ah nh ch)], x.w.cell? ⟨wr.heap.size, 3, none⟩ = some (.slice ah nh ch) := fun x => x.boxc (by simp)
              have c4 : ∀ x : RC w (w.heap.size + 1) w.heap.size wr.heap.size id k #[.int .u32 (id : Int), .bool true, (.slice ap np cp), (.slice ah nh ch)], x.w.cell? ⟨b, off + (k - 1) * 4, none⟩ = some (.int .u32 (ykey : Int)) := fun x => x.cell y0
              go_wp2_with fail
              refine wp_region_RC x0 hx0 (by kernel_rfl) (by kernel_rfl) ?_
              repeat (go_big_quiet_step ((go_at_call 54; exact HPUT.out _)))
              refine wpQuiet_nil ?_
              intro w3 hm3
              have M3 : Hid (Mod (fun _ => False) w w3) := Lib.hid (RC.mod_of hm3)
              clear hm3 hx0 x0 c0 c1 c2 c3 c4
              go_wp2
              go_ret
              exact ⟨ret_bool HR.out.symm, M3.out⟩
    · have HF : Hid (listOK none l = true) := Lib.hid (by rw [HCH.out]; exact listOK_nil (by have := HN.out; omega) _)
      go_wp2
      go_ret
      exact ⟨ret_bool HF.out.symm, HM.out.mod⟩
end Go.Proofs.Ytdblilhkojafgaa
