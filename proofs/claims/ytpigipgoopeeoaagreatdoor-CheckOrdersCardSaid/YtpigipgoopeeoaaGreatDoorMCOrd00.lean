import Derived.Test.YtpigipgoopeeoaaGreatDoorMAll28
set_option linter.unusedVariables false
set_option linter.unusedSimpArgs false
namespace Go.Proofs.YtpigipgoopeeoaaGreatDoor
open Go.RowKit Go.Maps
set_option maxRecDepth 100000 in
set_option maxHeartbeats 2000000 in
theorem cfinal_long (a : Option Addr) (m c : Nat) (w : World) (hm : 4096 < m) :
   Calls Tryz.prog 15 #[.slice a m c] w fun e w' => e = .returned (.tuple #[.slice none 0 0, .int .i64 2]) ∧ Mod (fun _ => False) w w' := by
 have hm' : (4096 : Int) < (m : Int) := by omega
 go_enter Tryz.func15, Tryz.ntmps15
 go_wp2
 exact bodyPost_ret (v := .tuple #[.slice none 0 0, .int .i64 2]) (by simp [results, Tryz.results15, go_sem]) rfl ⟨rfl, Mod.refl _ _⟩
open Go.RowKit Go.Maps
set_option maxRecDepth 100000 in
set_option maxHeartbeats 2000000 in
theorem cverify_longC (a : Option Addr) (m c : Nat) (u : Value) (w : World) (hm : 4096 < m) :
   Calls Tryz.prog 10 #[.slice a m c, u] w fun e w' => e = .returned (.tuple #[.agg #[.int .i64 0, .int .i64 0], .bool false, .int .i64 2]) ∧ Mod (fun _ => False) w w' := by
 have hm' : (4096 : Int) < (m : Int) := by omega
 go_enter Tryz.func10, Tryz.ntmps10
 go_wp2
 refine bodyPost_ret (v := .tuple #[.agg #[.int .i64 0, .int .i64 0], .bool false, .int .i64 2]) (by simp [results, Tryz.results10, go_sem]) rfl ⟨rfl, ?_⟩
 repeat (with_reducible (first | exact Mod.refl _ _ | refine Mod.drew ?_ | refine Mod.alloc ?_ _ | refine Mod.setCell ?_ (fun h => absurd h (by simp)) _))
set_option maxRecDepth 100000 in
set_option maxHeartbeats 2000000 in
theorem cverify_longR (a a' : Option Addr) (m c m' c' : Nat) (w : World) (hm : m ≤ 4096) (hm' : 4096 < m') :
   Calls Tryz.prog 10 #[.slice a m c, .slice a' m' c'] w fun e w' => e = .returned (.tuple #[.agg #[.int .i64 0, .int .i64 0], .bool false, .int .i64 2]) ∧ Mod (fun _ => False) w w' := by
 have h1 : ¬ (4096 : Int) < (m : Int) := by omega
 have h2 : (4096 : Int) < (m' : Int) := by omega
 go_enter Tryz.func10, Tryz.ntmps10
 go_wp2
 refine bodyPost_ret (v := .tuple #[.agg #[.int .i64 0, .int .i64 0], .bool false, .int .i64 2]) (by simp [results, Tryz.results10, go_sem]) rfl ⟨rfl, ?_⟩
 repeat (with_reducible (first | exact Mod.refl _ _ | refine Mod.drew ?_ | refine Mod.alloc ?_ _ | refine Mod.setCell ?_ (fun h => absurd h (by simp)) _))
open Go.RowKit Go.Maps
def ordersI (fa ta fb tb : Int) : Int := if ta ≤ fb ∧ ¬ tb ≤ fa then -1 else if tb ≤ fa ∧ ¬ ta ≤ fb then 1 else 0
set_option maxRecDepth 100000 in
set_option maxHeartbeats 4000000 in
theorem orders_any (x y : Cm) (w : World) (hx : x.Rd w) (hy : y.Rd w) :
   Calls Tryz.prog 21 #[.agg x.c13.toArray, .agg y.c13.toArray] w fun e w' => e = .returned (.int .i64 (ordersI x.x.fr x.x.to_ y.x.fr y.x.to_)) ∧ Mod (fun _ => False) w w' := by
 obtain ⟨ao, co, hvo⟩ := hx.vo_eq
 obtain ⟨av, cv, hvv⟩ := hx.vv_eq
 obtain ⟨al, cl, hvl⟩ := hx.vl_eq
 obtain ⟨bo, do_, gvo⟩ := hy.vo_eq
 obtain ⟨bv, dv, gvv⟩ := hy.vv_eq
 obtain ⟨bl, dl, gvl⟩ := hy.vl_eq
 clear hx hy
 obtain ⟨⟨xc, xq, ⟨kind, ops, rv, rk, rd⟩, ae, ap, vals, list, fr, to_⟩, vo, vv, vl⟩ := x
 obtain ⟨⟨yc, yq, ⟨ykind, yops, yrv, yrk, yrd⟩, ye, yp, yvals, ylist, yfr, yto⟩, yvo, yvv, yvl⟩ := y
 simp only at hvo hvv hvl gvo gvv gvl
 subst hvo hvv hvl gvo gvv gvl
 obtain ⟨no, hno⟩ : ∃ n, n = ops.length := ⟨_, rfl⟩
 obtain ⟨nv, hnv⟩ : ∃ n, n = vals.length := ⟨_, rfl⟩
 obtain ⟨nl, hnl⟩ : ∃ n, n = list.length := ⟨_, rfl⟩
 obtain ⟨yno, hyno⟩ : ∃ n, n = yops.length := ⟨_, rfl⟩
 obtain ⟨ynv, hynv⟩ : ∃ n, n = yvals.length := ⟨_, rfl⟩
 obtain ⟨ynl, hynl⟩ : ∃ n, n = ylist.length := ⟨_, rfl⟩
 simp only [Cm.c13, ← hno, ← hnv, ← hnl, ← hyno, ← hynv, ← hynl]
 clear hno hnv hnl hyno hynv hynl
 have HM : Hid (Mod (fun _ => False) w ((w.alloc (.cells #[.int .u8 (xc : Int), .int .u32 (xq : Int), .int .u8 (kind : Int), .slice ao no co, .int .u32 (rv : Int), .int .i64 rk, .int .i64 rd, .int .i64 ae, .int .i64 ap, .slice av nv cv, .slice al nl cl, .int .i64 fr, .int .i64 to_] 74)).alloc (.cells #[.int .u8 (yc : Int), .int .u32 (yq : Int), .int .u8 (ykind : Int), .slice bo yno do_, .int .u32 (yrv : Int), .int .i64 yrk, .int .i64 yrd, .int .i64 ye, .int .i64 yp, .slice bv ynv dv, .slice bl ynl dl, .int .i64 yfr, .int .i64 yto] 74))) := Lib.hid (((Mod.refl _ _).alloc _).alloc _)
 obtain ⟨b1, hb1⟩ : ∃ b, b = decide (to_ ≤ yfr) := ⟨_, rfl⟩
 obtain ⟨b2, hb2⟩ : ∃ b, b = decide (yto ≤ fr) := ⟨_, rfl⟩
 have HR : Hid (ordersI fr to_ yfr yto = if b1 = true ∧ ¬ b2 = true then -1 else if b2 = true ∧ ¬ b1 = true then 1 else 0) := Lib.hid (by rw [hb1, hb2]; unfold ordersI; simp)
 rw [HR.out]
 clear HR
 by_cases h1 : to_ ≤ yfr
 · have g1 : decide (to_ ≤ yfr) = true := by simpa using h1
   have e1 : (!decide (to_ ≤ yfr)) = false := by rw [g1]; rfl
   rw [g1] at hb1
   by_cases h2 : yto ≤ fr
   · have g2 : decide (yto ≤ fr) = true := by simpa using h2
     have e2 : (!decide (yto ≤ fr)) = false := by rw [g2]; rfl
     rw [g2] at hb2
     clear h1 h2
     subst hb1 hb2
     go_enter Tryz.func21, Tryz.ntmps21
     go_wp2_with fail
     go_quiet (fail)
     go_wp2
     go_ret
     exact ⟨by simp, HM.out.drewN _⟩
   · have g2 : decide (yto ≤ fr) = false := by simpa using h2
     have e2 : (!decide (yto ≤ fr)) = true := by rw [g2]; rfl
     rw [g2] at hb2
     clear h1 h2
     subst hb1 hb2
     go_enter Tryz.func21, Tryz.ntmps21
     go_wp2_with fail
     go_quiet (fail)
     go_wp2
     go_ret
     exact ⟨by simp, HM.out.drewN _⟩
 · have g1 : decide (to_ ≤ yfr) = false := by simpa using h1
   have e1 : (!decide (to_ ≤ yfr)) = true := by rw [g1]; rfl
   rw [g1] at hb1
   by_cases h2 : yto ≤ fr
   · have g2 : decide (yto ≤ fr) = true := by simpa using h2
     have e2 : (!decide (yto ≤ fr)) = false := by rw [g2]; rfl
     rw [g2] at hb2
     clear h1 h2
     subst hb1 hb2
     go_enter Tryz.func21, Tryz.ntmps21
     go_wp2_with fail
     go_quiet (fail)
     go_wp2
     go_ret
     exact ⟨by simp, HM.out.drewN _⟩
   · have g2 : decide (yto ≤ fr) = false := by simpa using h2
     have e2 : (!decide (yto ≤ fr)) = true := by rw [g2]; rfl
     rw [g2] at hb2
     clear h1 h2
     subst hb1 hb2
     go_enter Tryz.func21, Tryz.ntmps21
     go_wp2_with fail
     go_quiet (fail)
     go_wp2
     go_ret
     exact ⟨by simp, HM.out.drewN _⟩
end Go.Proofs.YtpigipgoopeeoaaGreatDoor
