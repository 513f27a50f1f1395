/- The walk of RankReads. -/
import Derived.Test.YtggbohdgcalblaaDoorR21
import Derived.SizedLaws
namespace Go.Proofs.YtggbohdgcalblaaDoor
set_option linter.unusedVariables false
open Go.RowKit

theorem resU_form (r : Option (Nat × Nat)) : ∃ n i e : Int, resU r = .returned (.tuple #[.int .u64 n, .int .i64 i, .int .i64 e]) := by
  cases r with
  | none => exact ⟨_, _, _, rfl⟩
  | some p => exact ⟨_, _, _, rfl⟩
theorem resI_form (r : Option (Int × Nat)) : ∃ n i e : Int, resI r = .returned (.tuple #[.int .i64 n, .int .i64 i, .int .i64 e]) := by
  cases r with
  | none => exact ⟨_, _, _, rfl⟩
  | some p => exact ⟨_, _, _, rfl⟩
def TextOut (w : World) (l : List Nat) (k e : Int) (en : Ending) (w' : World) : Prop := ∃ z, en = .returned (.tuple #[z, .int .i64 k, .int .i64 e]) ∧ Bytes w w' z l
theorem nil_bytes {w w' : World} (m : Mod (fun _ => False) w w') : Bytes w w' (.slice none 0 0) [] := (Bytes.nil w).fwd m
def outL (r : Option (List Nat × Nat)) : List Nat := match r with | none => [] | some p => p.1
def outK (r : Option (List Nat × Nat)) : Int := match r with | none => 0 | some p => (p.2 : Int)
def outE (r : Option (List Nat × Nat)) : Int := match r with | none => 3 | some p => 0
theorem GivesText.out {w : World} {r : Option (List Nat × Nat)} {en : Ending} {w' : World} (h : GivesText w r en w') : TextOut w (outL r) (outK r) (outE r) en w' := by
  cases r with
  | none => exact ⟨_, h.1, nil_bytes h.2⟩
  | some p => obtain ⟨v, rfl, hb⟩ := h; exact ⟨v, rfl, hb⟩
theorem text_both (xs : List Nat) (m : Int) (hl : xs.length ≤ 140737488351232) : ∃ (l : List Nat) (k e : Int),
    (∀ (v : Value) (w : World), Rd w v xs → Calls Tryd.prog 24 #[v, .int .i64 m] w (TextOut w l k e)) ∧
    (∀ (v : Value) (w : World), Rd w v xs → Calls Tryd.prog 27 #[v, .int .i64 m] w (TextOut w l k e)) := by
  by_cases hm : m < 0 ∨ 65536 < m
  · exact ⟨[], 0, 1, fun v w hv => (readT_range v xs m w hv hm).mono fun _ _ ⟨h, h'⟩ => ⟨_, h, nil_bytes (h' ▸ Mod.refl _ _)⟩, fun v w hv => (docT_range v xs m w hv hm).mono fun _ _ ⟨h, h'⟩ => ⟨_, h, nil_bytes (h' ▸ Mod.refl _ _)⟩⟩
  · obtain ⟨most, rfl⟩ := Int.eq_ofNat_of_zero_le (show 0 ≤ m by omega)
    refine ⟨outL (readT most xs), outK (readT most xs), outE (readT most xs), fun v w hv => (readT_any v xs most w hv (by omega)).mono fun _ _ h => h.out, fun v w hv => (docT_any v xs most w hv (by omega) hl).mono fun _ _ h => ?_⟩
    rw [docT_eq] at h
    exact h.out

structure XorRel (w : World) (z : Value) (n : Nat) (wr : World) : Prop where
  seg : ∃ cs : List Int, cs.length = n ∧ Seg wr 5 1 z n (cs.map fun c => .int .u8 c)
  own : ∀ b, z.ownBlock = some b → w.heap.size ≤ b
  mod : Mod (fun _ => False) w wr
theorem Bytes.xor {w w' : World} {z : Value} {l : List Nat} (h : Bytes w w' z l) : XorRel w z l.length w' :=
  ⟨⟨ints l, by simp [ints], by have := h.seg; simpa [bs, ints, Function.comp_def] using this⟩, h.own, h.mod⟩
theorem XorRel.fwd {w w1 w2 : World} {z : Value} {n : Nat} (h : XorRel w z n w1) (m : Mod (fun _ => False) w1 w2) : XorRel w z n w2 := by
  obtain ⟨cs, hl, hs⟩ := h.seg
  exact ⟨⟨cs, hl, hs.mod m (fun _ _ f => f)⟩, h.own, h.mod.trans m⟩
theorem XorRel.open {w wr : World} {z : Value} {n : Nat} (h : XorRel w z n wr) {j : Nat} (hj : j < n) : ∃ g off cap c, z = .slice (some ⟨g, off, none⟩) n cap ∧ wr.cell? ⟨g, off + j, none⟩ = some (.int .u8 c) ∧ wr.frozen? ⟨g, off + j, none⟩ = false ∧
    ∀ u : Int, XorRel w z n (wr.setCell ⟨g, off + j, none⟩ (.int .u8 u)) := by
  obtain ⟨cs, hl, hs⟩ := h.seg
  obtain ⟨g, off, cap, rfl, h1, h2, hg, hc⟩ := hs.open (by omega)
  refine ⟨g, off, cap, cs.getD j 0, rfl, ?_, (hc j (by omega)).2, fun u => ⟨⟨cs.set j u, by simp [hl], ?_⟩, h.own, h.mod.setCell (fun hlt => ?_) _⟩⟩
  · rw [(hc j (by omega)).1]
    simp [List.getD_eq_getElem?_getD, hl, hj]
  · rw [List.map_set]
    exact hs.set (j := j) (by omega) _ rfl
  · have := h.own g rfl
    have hlt2 : g < w.heap.size := hlt
    omega

set_option maxRecDepth 100000 in
set_option maxHeartbeats 4000000 in
theorem reads_core (a1 : Option Addr) (l1 c1 : Nat) (m : Int) (xs : List Nat) (w : World) (hx : RowIn w a1 l1 c1 xs) (hxl : xs.length = l1) (hl : xs.length ≤ 140737488351232) (hb : ∀ b ∈ xs, b < 256) :
    Calls Tryd.prog 7 #[.slice a1 l1 c1, .int .i64 m] w fun e w' => e = .returned (.bool true) ∧ Mod (fun _ => False) w w' := by
  have P1 := Lib.hid hx.arg.rd
  have HL := Lib.hid hl
  have HB := Lib.hid hb
  obtain ⟨nU, iU, eU, hU⟩ := resU_form (readU xs)
  obtain ⟨nI, iI, eI, hI⟩ := resI_form (readI xs)
  obtain ⟨l, k, et, hT1, hT2⟩ := text_both xs m hl
  have HU := Lib.hid hU
  have HI := Lib.hid hI
  have HT1 := Lib.hid hT1
  have HT2 := Lib.hid hT2
  subst hxl
  clear hx hl hb hU hI hT1 hT2
  go_enter Tryd.func7, Tryd.ntmps7
  go_wp2_with fail
  refine (awake_any _).mono ?_
  rintro e w1 ⟨rfl, hm⟩
  have M1 := Lib.hid hm
  clear hm
  go_wp2_with fail
  refine (spare_any _ xs _ (P1.out.keep M1.out).src (by have := HL.out; omega)).mono ?_
  rintro e w2 ⟨g, off, cap, rfl, hsp, hcap, hcm⟩
  have F2 : Hid (Rd w2 (.slice (some ⟨g, off, none⟩) (xs.length + 3) cap) (xs ++ mark)) := by
    have := hsp.rd
    exact this
  have Q2 := Lib.hid F2.out.front
  have M2 := Lib.hid (M1.out.trans hsp.mod)
  have P2 := Lib.hid (P1.out.keep M2.out)
  clear hsp M1 P1 hcap
  go_wp2_with fail
  refine (readU_any _ _ _ Q2.out HB.out).mono ?_
  rw [HU.out]
  rintro e w3 ⟨rfl, hm⟩
  have M3 := Lib.hid hm
  clear hm
  go_wp2_with fail
  refine (docU_any _ _ _ (P2.out.keep M3.out) HB.out).mono ?_
  rw [HU.out]
  rintro e w4 ⟨rfl, hm⟩
  have M4 := Lib.hid (M3.out.trans hm)
  clear hm M3
  go_wp2_with fail
  refine (readI_any _ _ _ (Q2.out.keep M4.out) HB.out).mono ?_
  rw [HI.out]
  rintro e w5 ⟨rfl, hm⟩
  have M5 := Lib.hid (M4.out.trans hm)
  clear hm M4
  go_wp2_with fail
  refine (docI_any _ _ _ (P2.out.keep M5.out) HB.out).mono ?_
  rw [HI.out]
  rintro e w6 ⟨rfl, hm⟩
  have M6 := Lib.hid (M5.out.trans hm)
  clear hm M5
  go_wp2_with fail
  refine (HT1.out _ _ (Q2.out.keep M6.out)).mono ?_
  rintro e w7 ⟨z, rfl, hB⟩
  have B7 := Lib.hid hB
  have M7 := Lib.hid (M6.out.trans hB.mod)
  obtain ⟨az, cz, rfl, -⟩ := hB.seg.shape
  clear hB
  go_wp2_with fail
  refine (HT2.out _ _ (P2.out.keep M7.out)).mono ?_
  rintro e w8 ⟨y, rfl, hB⟩
  have B8 := Lib.hid hB
  obtain ⟨ay, cy, rfl, -⟩ := hB.seg.shape
  clear hB
  go_wp2_with fail
  refine (same_any _ _ _ _ _ (B7.out.rd.keep B8.out.mod) B8.out.rd).mono ?_
  rintro e w9 ⟨rfl, hm⟩
  rw [show sameB l l = true by simp [sameB]]
  have X9 := Lib.hid ((B7.out.fwd (B8.out.mod.trans hm)).xor)
  have F6 := Lib.hid (F2.out.keep M6.out)
  have P6 := Lib.hid (P2.out.keep M6.out)
  have MW := Lib.hid (M2.out.trans M6.out)
  clear hm B7 B8 M7 Q2 F2 P2 M2 M6
  generalize l.length = n at X9 ⊢
  have hn : n ≤ 9223372036854775807 := by
    obtain ⟨cs, _, hs⟩ := X9.out.seg
    obtain ⟨a, c, e, h1, h2⟩ := hs.shape
    unfold maxLen at h2; omega
  go_wp2_with fail
  go_loopw [117] (fun i wr => ∃ j : Nat, i = .int .i64 j ∧ j ≤ n ∧ XorRel w6 (.slice az n cz) n wr) (fun i _ => n - (intOf i).toNat)
  case atStart => exact ⟨0, rfl, Nat.zero_le _, X9.out⟩
  case round =>
    obtain ⟨j, rfl, hj, hxr⟩ := hrel
    by_cases hjn : j < n
    · obtain ⟨g1, o1, cap1, c, ez, d1, d2, hset⟩ := hxr.open hjn
      injection ez with ez1 ez2 ez3
      subst ez1 ez3
      have HSET := Lib.hid hset
      clear hset hxr ez2 X9
      go_wp2
      go_roundw
      case rel => exact ⟨j + 1, by go_num, by omega, HSET.out _⟩
      case measure => simp [intOf]; omega
    · have HX := Lib.hid hxr
      clear hxr X9
      go_wp2_with fail
      refine (kept_any g off cap _ xs _ (F6.out.keep HX.out.mod) (P6.out.keep HX.out.mod)).mono ?_
      rintro e w10 ⟨rfl, hm⟩
      have MF := Lib.hid ((MW.out.trans HX.out.mod).trans hm)
      clear hm
      go_wp2
      go_ret
      exact ⟨rfl, MF.out⟩
end Go.Proofs.YtggbohdgcalblaaDoor
