/-
  The program's answers to an accident and to the worst one.
  Conditions: none beyond those of the types.
-/
import Derived.Test.YtmjlnhhgpdcobaaCostI
import Derived.Test.YtmjlnhhgpdcobaaAccS
namespace Go.Proofs.Ytmjlnhhgpdcobaa
open Go.RowKit
set_option linter.unusedSimpArgs false
set_option linter.unusedVariables false

theorem AccidentsOf_I (w : World) (wi hi : Int) (wl : -128 ≤ wi) (wu : wi ≤ 127) (hl : -128 ≤ hi) (hu : hi ≤ 127) (a : Option Addr) (c : Nat) (xs : List Pc) (h : SlA Pc.enc 5 w a xs) (_ : a = none → c = 0) (ok : ∀ p ∈ xs, p.Ok) (_ : xs.length ≤ 1048576) (i : Int) (il : -9223372036854775808 ≤ i) (iu : i ≤ 9223372036854775807) :
    Calls Try.prog 8 #[.agg #[.int .i8 wi, .int .i8 hi, .slice a xs.length c], .int .i64 i] w fun e w' => e = .returned (.tuple #[.int .i64 (AccidentsOfG wi hi xs i).1, .int .i64 (AccidentsOfG wi hi xs i).2]) ∧ Below w.heap.size w w' := by
  obtain ⟨W0, hW0⟩ : ∃ W, W = w.alloc (.cells #[.int .i8 wi, .int .i8 hi, .slice a xs.length c] 31) := ⟨_, rfl⟩
  have B0 : Below w.heap.size w W0 := by rw [hW0]; exact (Below.refl _ _).alloc (Nat.le_refl _) _
  have hbd : BdA W0 w.heap.size wi hi a xs.length c := by rw [hW0]; exact ⟨by simp, by simp [go_sem], by simp [go_sem], by simp [go_sem]⟩
  have d0 : W0.cell? ⟨w.heap.size, 0, none⟩ = some (.int .i8 wi) := hbd.c0
  have d1 : W0.cell? ⟨w.heap.size, 1, none⟩ = some (.int .i8 hi) := hbd.c1
  have d2 : W0.cell? ⟨w.heap.size, 2, none⟩ = some (.slice a xs.length c) := hbd.c2
  have HBu := hid (builtOk_I wi hi a c xs W0 ⟨wl, wu, hl, hu⟩ (h.below B0) ok)
  have sa := h.small
  have HIx := hid (fun W (hB : Below W0.heap.size W0 W) => indexOk_I w.heap.size wi hi a xs.length c i W (by omega) (hbd.below hB hbd.lt))
  have HB0 := hid B0
  rcases built_three wi hi xs with hb | hb | hb
  · obtain ⟨hB, hn⟩ := built_zero hb
    have HSt := hid (fun W (hB2 : Below W0.heap.size W0 W) => stage_I w.heap.size wi hi a c xs W (hbd.below hB2 hbd.lt) ((h.below B0).below hB2) (by omega) hB.pc hB.one)
    rw [hb] at HBu
    cases hin : inB i 0 ((xs.length : Int) - 1) with
    | false =>
      have HG := hid (show AccidentsOfG wi hi xs i = (0, 2) by unfold AccidentsOfG; rw [if_pos hb, hin]; rfl)
      rw [hin] at HIx
      clear B0 hbd h hb hin
      go_enter Try.func8, Try.ntmps8
      go_upto_region 1 with fail
      rw [← hW0]
      clear hW0
      go_wp2_with fail
      refine HBu.out.mono ?_
      rintro e w1 ⟨rfl, hb1⟩
      have HB1 := hid (below_of HB0.out HB0.out.size hb1)
      have HIx1 := hid (HIx.out _ hb1)
      clear hb1
      go_wp2_with fail
      refine HIx1.out.mono ?_
      rintro e w2 ⟨rfl, rfl⟩
      go_wp2_with fail
      go_ret2
      exact ⟨by rw [HG.out]; rfl, HB1.out⟩
    | true =>
      have HG := hid (show AccidentsOfG wi hi xs i = ((worstA xs i.toNat).2, 0) by unfold AccidentsOfG; rw [if_pos hb, hin]; rfl)
      rw [hin] at HIx
      have hi2 : 0 ≤ i ∧ i ≤ (xs.length : Int) - 1 := by simpa [inB] using hin
      obtain ⟨j, rfl⟩ : ∃ j : Nat, i = j := ⟨i.toNat, by omega⟩
      rw [Int.toNat_natCast] at HG
      have hj : j < xs.length := by omega
      have hBh := hid hB
      clear B0 hbd h hb hin hB
      go_enter Try.func8, Try.ntmps8
      go_upto_region 1 with fail
      rw [← hW0]
      clear hW0
      go_wp2_with fail
      refine HBu.out.mono ?_
      rintro e w1 ⟨rfl, hb1⟩
      have HB1 := hid (below_of HB0.out HB0.out.size hb1)
      have HIx1 := hid (HIx.out _ hb1)
      have HS1 := hid (HSt.out _ hb1)
      clear hb1
      go_wp2_with fail
      refine HIx1.out.mono ?_
      rintro e w2 ⟨rfl, rfl⟩
      go_wp2_with fail
      refine HS1.out.mono ?_
      rintro e w3 ⟨T, rfl, hb3, rfl, _, _, hst⟩
      have HW := hid (worstAt_I w3 T hst hBh.out j hj)
      have HB3 := hid (below_of HB1.out HB1.out.size hb3)
      clear hb3 hst
      go_wp2_with fail
      refine HW.out.mono ?_
      rintro e w4 ⟨rfl, hb4⟩
      have HB4 := hid (below_of HB3.out HB3.out.size hb4)
      clear hb4
      go_wp2_with fail
      go_ret2
      exact ⟨by rw [HG.out]; rfl, HB4.out⟩
  all_goals (
    have HG := hid (show AccidentsOfG wi hi xs i = (0, builtG wi hi xs) by unfold AccidentsOfG; rw [if_neg (by rw [hb]; omega)])
    rw [hb] at HG HBu
    clear B0 hbd h hb
    go_enter Try.func8, Try.ntmps8
    go_upto_region 1 with fail
    rw [← hW0]
    clear hW0
    go_wp2_with fail
    refine HBu.out.mono ?_
    rintro e w1 ⟨rfl, hb1⟩
    have HB1 := hid (below_of HB0.out HB0.out.size hb1)
    clear hb1
    go_wp2_with fail
    go_ret2
    exact ⟨by rw [HG.out]; rfl, HB1.out⟩)
theorem WorstAccident_I (w : World) (wi hi : Int) (wl : -128 ≤ wi) (wu : wi ≤ 127) (hl : -128 ≤ hi) (hu : hi ≤ 127) (a : Option Addr) (c : Nat) (xs : List Pc) (h : SlA Pc.enc 5 w a xs) (_ : a = none → c = 0) (ok : ∀ p ∈ xs, p.Ok) (_ : xs.length ≤ 1048576) :
    Calls Try.prog 11 #[.agg #[.int .i8 wi, .int .i8 hi, .slice a xs.length c]] w fun e w' => e = .returned (.tuple #[.int .i64 (WorstAccidentG wi hi xs).1, .int .i64 (WorstAccidentG wi hi xs).2.1, .int .i64 (WorstAccidentG wi hi xs).2.2.1, .int .i64 (WorstAccidentG wi hi xs).2.2.2]) ∧ Below w.heap.size w w' := by
  obtain ⟨W0, hW0⟩ : ∃ W, W = w.alloc (.cells #[.int .i8 wi, .int .i8 hi, .slice a xs.length c] 31) := ⟨_, rfl⟩
  have B0 : Below w.heap.size w W0 := by rw [hW0]; exact (Below.refl _ _).alloc (Nat.le_refl _) _
  have hbd : BdA W0 w.heap.size wi hi a xs.length c := by rw [hW0]; exact ⟨by simp, by simp [go_sem], by simp [go_sem], by simp [go_sem]⟩
  have d0 : W0.cell? ⟨w.heap.size, 0, none⟩ = some (.int .i8 wi) := hbd.c0
  have d1 : W0.cell? ⟨w.heap.size, 1, none⟩ = some (.int .i8 hi) := hbd.c1
  have d2 : W0.cell? ⟨w.heap.size, 2, none⟩ = some (.slice a xs.length c) := hbd.c2
  have HBu := hid (builtOk_I wi hi a c xs W0 ⟨wl, wu, hl, hu⟩ (h.below B0) ok)
  have sa := h.small
  have HB0 := hid B0
  rcases built_three wi hi xs with hb | hb | hb
  · obtain ⟨hB, hn⟩ := built_zero hb
    have HSt := hid (fun W (hB2 : Below W0.heap.size W0 W) => stage_I w.heap.size wi hi a c xs W (hbd.below hB2 hbd.lt) ((h.below B0).below hB2) (by omega) hB.pc hB.one)
    rw [hb] at HBu
    have hBh := hid hB
    by_cases h0 : xs.length = 0
    · have HG := hid (show WorstAccidentG wi hi xs = (0, 0, 0, 6) by unfold WorstAccidentG; rw [if_pos hb, if_pos h0])
      have hw0 : worstG xs = (-1, 0, 0) := by unfold worstG; rw [h0]; rfl
      have HW0 := hid hw0
      clear B0 hbd h hb hB h0 hw0
      go_enter Try.func11, Try.ntmps11
      go_upto_region 1 with fail
      rw [← hW0]
      clear hW0
      go_wp2_with fail
      refine HBu.out.mono ?_
      rintro e w1 ⟨rfl, hb1⟩
      have HB1 := hid (below_of HB0.out HB0.out.size hb1)
      have HS1 := hid (HSt.out _ hb1)
      clear hb1
      go_wp2_with fail
      refine HS1.out.mono ?_
      rintro e w3 ⟨T, rfl, hb3, rfl, _, _, hst⟩
      have HW := hid (worst_I w3 T hst hBh.out)
      rw [HW0.out] at HW
      have HB3 := hid (below_of HB1.out HB1.out.size hb3)
      clear hb3 hst
      go_wp2_with fail
      refine HW.out.mono ?_
      rintro e w4 ⟨rfl, hb4⟩
      have HB4 := hid (below_of HB3.out HB3.out.size hb4)
      clear hb4
      go_wp2_with fail
      refine bodyPost_ret (v := .tuple #[.int .i64 0, .int .i64 0, .int .i64 0, .int .i64 6]) (by simp [results, Try.results11, go_sem]) rfl ?_
      exact ⟨by rw [HG.out], HB4.out⟩
    · have HG := hid (show WorstAccidentG wi hi xs = ((worstG xs).1, (worstG xs).2.1, (worstG xs).2.2, 0) by unfold WorstAccidentG; rw [if_pos hb, if_neg h0])
      have hp0 : 0 ≤ (worstG xs).1 := (pieceW_in xs xs.length).2.2.2.2.2.2 (by omega)
      obtain ⟨u, hu⟩ : ∃ u, worstG xs = u := ⟨_, rfl⟩
      rw [hu] at HG hp0
      have HU := hid hu
      have hd0 : decide (u.1 < 0) = false := by rw [decide_eq_false_iff_not]; omega
      clear B0 hbd h hb hB hu
      go_enter Try.func11, Try.ntmps11
      go_upto_region 1 with fail
      rw [← hW0]
      clear hW0
      go_wp2_with fail
      refine HBu.out.mono ?_
      rintro e w1 ⟨rfl, hb1⟩
      have HB1 := hid (below_of HB0.out HB0.out.size hb1)
      have HS1 := hid (HSt.out _ hb1)
      clear hb1
      go_wp2_with fail
      refine HS1.out.mono ?_
      rintro e w3 ⟨T, rfl, hb3, rfl, _, _, hst⟩
      have HW := hid (worst_I w3 T hst hBh.out)
      rw [HU.out] at HW
      have HB3 := hid (below_of HB1.out HB1.out.size hb3)
      clear hb3 hst
      go_wp2_with fail
      refine HW.out.mono ?_
      rintro e w4 ⟨rfl, hb4⟩
      have HB4 := hid (below_of HB3.out HB3.out.size hb4)
      clear hb4
      go_wp2_with fail
      refine bodyPost_ret (v := .tuple #[.int .i64 u.1, .int .i64 u.2.1, .int .i64 u.2.2, .int .i64 0]) (by simp [results, Try.results11, go_sem]) rfl ?_
      exact ⟨by rw [HG.out], HB4.out⟩
  · have HG := hid (show WorstAccidentG wi hi xs = (0, 0, 0, builtG wi hi xs) by unfold WorstAccidentG; rw [if_neg (by rw [hb]; omega)])
    rw [hb] at HG HBu
    clear B0 hbd h hb
    go_enter Try.func11, Try.ntmps11
    go_upto_region 1 with fail
    rw [← hW0]
    clear hW0
    go_wp2_with fail
    refine HBu.out.mono ?_
    rintro e w1 ⟨rfl, hb1⟩
    have HB1 := hid (below_of HB0.out HB0.out.size hb1)
    clear hb1
    go_wp2_with fail
    refine bodyPost_ret (v := .tuple #[.int .i64 0, .int .i64 0, .int .i64 0, .int .i64 1]) (by simp [results, Try.results11, go_sem]) rfl ?_
    exact ⟨by rw [HG.out], HB1.out⟩
  · have HG := hid (show WorstAccidentG wi hi xs = (0, 0, 0, builtG wi hi xs) by unfold WorstAccidentG; rw [if_neg (by rw [hb]; omega)])
    rw [hb] at HG HBu
    clear B0 hbd h hb
    go_enter Try.func11, Try.ntmps11
    go_upto_region 1 with fail
    rw [← hW0]
    clear hW0
    go_wp2_with fail
    refine HBu.out.mono ?_
    rintro e w1 ⟨rfl, hb1⟩
    have HB1 := hid (below_of HB0.out HB0.out.size hb1)
    clear hb1
    go_wp2_with fail
    refine bodyPost_ret (v := .tuple #[.int .i64 0, .int .i64 0, .int .i64 0, .int .i64 3]) (by simp [results, Try.results11, go_sem]) rfl ?_
    exact ⟨by rw [HG.out], HB1.out⟩
end Go.Proofs.Ytmjlnhhgpdcobaa
