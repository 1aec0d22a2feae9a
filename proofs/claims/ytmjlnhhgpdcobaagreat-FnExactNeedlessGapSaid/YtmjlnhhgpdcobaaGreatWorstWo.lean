/-
  WorstWithout and CheckGaps, both the program's and the reference's.
  Conditions: the fields are in their kinds' ranges.
-/
import Derived.Test.YtmjlnhhgpdcobaaGreatLeftS
namespace Go.Proofs.YtmjlnhhgpdcobaaGreat
open Go.RowKit
set_option linter.unusedSimpArgs false
set_option linter.unusedVariables false

theorem gaps_zero {wi hi : Int} {xs : List Pc} {gs : List Int} (h : gapsG wi hi xs gs = 0) : BrdOk xs ∧ xs.length ≤ 40 ∧ gapsB xs.length gs = true := by
  unfold gapsG at h
  split at h
  · rename_i h1; exact absurd h h1
  · rename_i h1
    have h2 := built_zero (show builtG wi hi xs = 0 by omega)
    split at h
    · rename_i h3; exact ⟨h2.1, h2.2, h3⟩
    · cases h
def WorstWithoutG (wi hi : Int) (xs : List Pc) (gs : List Int) : Int × Int := if gapsG wi hi xs gs = 0 then (leftG xs gs, 0) else (0, gapsG wi hi xs gs)
def CheckGapsG (wi hi : Int) (xs : List Pc) (gs : List Int) (most : Int) : Bool × Int := if gapsG wi hi xs gs = 0 then (decide (leftG xs gs ≤ most), 0) else (false, gapsG wi hi xs gs)
theorem WorstWithout_S (w : World) (wi hi : Int) (wl : -128 ≤ wi) (wu : wi ≤ 127) (hl : -128 ≤ hi) (hu : hi ≤ 127) (a : Option Addr) (c : Nat) (xs : List Pc) (h : SlA Pc.enc 5 w a xs) (_ : a = none → c = 0) (ok : ∀ p ∈ xs, p.Ok) (hs : xs.length ≤ 1048576) (a2 : Option Addr) (c2 : Nat) (gs : List Int) (h2 : SlA en1 1 w a2 gs) (_ : a2 = none → c2 = 0) (ok2 : ∀ p ∈ gs, -9223372036854775808 ≤ p ∧ p ≤ 9223372036854775807) (_ : gs.length ≤ 1048576) :
    Calls Tryz.prog 14 #[.agg #[.int .i8 wi, .int .i8 hi, .slice a xs.length c], .slice a2 gs.length c2] w fun e w' => e = .returned (.tuple #[.int .i64 (WorstWithoutG wi hi xs gs).1, .int .i64 (WorstWithoutG wi hi xs gs).2]) ∧ Below w.heap.size w w' := by
  obtain ⟨W0, hW0⟩ : ∃ W, W = w.alloc (.cells #[.int .i8 wi, .int .i8 hi, .slice a xs.length c] 32) := ⟨_, rfl⟩
  have B0 : Below w.heap.size w W0 := by rw [hW0]; exact (Below.refl _ _).alloc (Nat.le_refl _) _
  have hbd : BdA W0 w.heap.size wi hi a xs.length c := by rw [hW0]; exact bd_box _ _ _ _ _ _ _
  have HGi := hid (given_S w.heap.size wi hi a c xs a2 c2 gs W0 ⟨wl, wu, hl, hu⟩ hs hbd (h.below B0) ok (h2.below B0) ok2)
  have HB0 := hid B0
  obtain ⟨v, hv⟩ : ∃ v, gapsG wi hi xs gs = v := ⟨_, rfl⟩
  rw [hv] at HGi
  by_cases hv0 : v = 0
  · have G := hid (show WorstWithoutG wi hi xs gs = (leftG xs gs, 0) by unfold WorstWithoutG; rw [hv, if_pos hv0])
    subst hv0
    obtain ⟨hB, hn, _⟩ := gaps_zero hv
    have HL := hid (fun W (hb : Below W0.heap.size W0 W) => left_S w.heap.size wi hi a c xs a2 c2 gs W hB (by omega) (hbd.below hb hbd.lt) ((h.below B0).below hb) ((h2.below B0).below hb))
    clear B0 hbd h h2 hv
    go_enter Tryz.func14, Tryz.ntmps14
    go_wp2_with fail
    rw [← hW0]
    clear hW0
    refine HGi.out.mono ?_
    rintro e w1 ⟨rfl, hb1⟩
    have HL1 := hid (HL.out _ hb1)
    have B1 := hid (below_of HB0.out HB0.out.size hb1)
    clear hb1
    go_wp2_with fail
    refine HL1.out.mono ?_
    rintro e w2 ⟨rfl, hb2⟩
    have B2 := hid (below_of B1.out B1.out.size hb2)
    clear hb2
    go_wp2_with fail
    refine bodyPost_ret (v := .tuple #[.int .i64 (leftG xs gs), .int .i64 0]) (by simp [results, Tryz.results14, go_sem]) rfl ?_
    exact ⟨by rw [G.out], B2.out⟩
  · have G := hid (show WorstWithoutG wi hi xs gs = (0, v) by unfold WorstWithoutG; rw [hv, if_neg hv0])
    have hne : (v != 0) = true := by simpa using hv0
    clear B0 hbd h h2 hv hv0
    go_enter Tryz.func14, Tryz.ntmps14
    go_wp2_with fail
    rw [← hW0]
    clear hW0
    refine HGi.out.mono ?_
    rintro e w1 ⟨rfl, hb1⟩
    have B1 := hid (below_of HB0.out HB0.out.size hb1)
    clear hb1
    go_wp2_with fail
    refine bodyPost_ret (v := .tuple #[.int .i64 0, .int .i64 v]) (by simp [results, Tryz.results14, go_sem]) rfl ?_
    exact ⟨by rw [G.out], B1.out⟩
theorem WorstWithout_I (w : World) (wi hi : Int) (wl : -128 ≤ wi) (wu : wi ≤ 127) (hl : -128 ≤ hi) (hu : hi ≤ 127) (a : Option Addr) (c : Nat) (xs : List Pc) (h : SlA Pc.enc 5 w a xs) (_ : a = none → c = 0) (ok : ∀ p ∈ xs, p.Ok) (hs : xs.length ≤ 1048576) (a2 : Option Addr) (c2 : Nat) (gs : List Int) (h2 : SlA en1 1 w a2 gs) (_ : a2 = none → c2 = 0) (ok2 : ∀ p ∈ gs, -9223372036854775808 ≤ p ∧ p ≤ 9223372036854775807) (_ : gs.length ≤ 1048576) :
    Calls Tryz.prog 17 #[.agg #[.int .i8 wi, .int .i8 hi, .slice a xs.length c], .slice a2 gs.length c2] w fun e w' => e = .returned (.tuple #[.int .i64 (WorstWithoutG wi hi xs gs).1, .int .i64 (WorstWithoutG wi hi xs gs).2]) ∧ Below w.heap.size w w' := by
  obtain ⟨W0, hW0⟩ : ∃ W, W = w.alloc (.cells #[.int .i8 wi, .int .i8 hi, .slice a xs.length c] 32) := ⟨_, rfl⟩
  have B0 : Below w.heap.size w W0 := by rw [hW0]; exact (Below.refl _ _).alloc (Nat.le_refl _) _
  have hbd : BdA W0 w.heap.size wi hi a xs.length c := by rw [hW0]; exact bd_box _ _ _ _ _ _ _
  have d0 : W0.cell? ⟨w.heap.size, 0, none⟩ = some (.int .i8 wi) := hbd.c0
  have d1 : W0.cell? ⟨w.heap.size, 1, none⟩ = some (.int .i8 hi) := hbd.c1
  have d2 : W0.cell? ⟨w.heap.size, 2, none⟩ = some (.slice a xs.length c) := hbd.c2
  have HGi := hid (gapsOk_I wi hi a c xs a2 c2 gs W0 ⟨wl, wu, hl, hu⟩ hs (h.below B0) ok (h2.below B0) ok2)
  have HB0 := hid B0
  obtain ⟨v, hv⟩ : ∃ v, gapsG wi hi xs gs = v := ⟨_, rfl⟩
  rw [hv] at HGi
  by_cases hv0 : v = 0
  · have G := hid (show WorstWithoutG wi hi xs gs = (leftG xs gs, 0) by unfold WorstWithoutG; rw [hv, if_pos hv0])
    subst hv0
    obtain ⟨hB, hn, _⟩ := gaps_zero hv
    have HL := hid (fun W (hb : Below W0.heap.size W0 W) => without_I w.heap.size wi hi a c xs a2 c2 gs W hs (hbd.below hb hbd.lt) ((h.below B0).below hb) ((h2.below B0).below hb))
    have HK := hid (hB.part (keep_sub gs xs 0))
    have HGL := hid (show leftG xs gs = costW (keepL gs 0 xs) from rfl)
    generalize keepL gs 0 xs = ys at *
    clear B0 hbd h h2 hv hB
    go_enter Tryz.func17, Tryz.ntmps17
    go_upto_region 1 with fail
    rw [← hW0]
    clear hW0
    go_wp2_with fail
    refine HGi.out.mono ?_
    rintro e w1 ⟨rfl, hb1⟩
    have HL1 := hid (HL.out _ hb1)
    have B1 := hid (below_of HB0.out HB0.out.size hb1)
    clear hb1
    go_wp2_with fail
    refine HL1.out.mono ?_
    rintro e w2 ⟨A, cA, rfl, hb2, own⟩
    have HWo := hid (worstOf_I wi hi A cA ys w2 HK.out (SlA.of_own Pc.enc_length own))
    have B2 := hid (below_of B1.out B1.out.size hb2)
    clear hb2 own
    go_wp2_with fail
    refine HWo.out.mono ?_
    rintro e w3 ⟨rfl, hb3⟩
    have B3 := hid (below_of B2.out B2.out.size hb3)
    clear hb3
    go_wp2_with fail
    refine bodyPost_ret (v := .tuple #[.int .i64 (costW ys), .int .i64 0]) (by simp [results, Tryz.results17, go_sem]) rfl ?_
    exact ⟨by rw [G.out, HGL.out], B3.out⟩
  · have G := hid (show WorstWithoutG wi hi xs gs = (0, v) by unfold WorstWithoutG; rw [hv, if_neg hv0])
    have hne : (v != 0) = true := by simpa using hv0
    clear B0 hbd h h2 hv hv0
    go_enter Tryz.func17, Tryz.ntmps17
    go_upto_region 1 with fail
    rw [← hW0]
    clear hW0
    go_wp2_with fail
    refine HGi.out.mono ?_
    rintro e w1 ⟨rfl, hb1⟩
    have B1 := hid (below_of HB0.out HB0.out.size hb1)
    clear hb1
    go_wp2_with fail
    refine bodyPost_ret (v := .tuple #[.int .i64 0, .int .i64 v]) (by simp [results, Tryz.results17, go_sem]) rfl ?_
    exact ⟨by rw [G.out], B1.out⟩
theorem CheckGaps_S (w : World) (wi hi : Int) (wl : -128 ≤ wi) (wu : wi ≤ 127) (hl : -128 ≤ hi) (hu : hi ≤ 127) (a : Option Addr) (c : Nat) (xs : List Pc) (h : SlA Pc.enc 5 w a xs) (_ : a = none → c = 0) (ok : ∀ p ∈ xs, p.Ok) (hs : xs.length ≤ 1048576) (a2 : Option Addr) (c2 : Nat) (gs : List Int) (h2 : SlA en1 1 w a2 gs) (_ : a2 = none → c2 = 0) (ok2 : ∀ p ∈ gs, -9223372036854775808 ≤ p ∧ p ≤ 9223372036854775807) (_ : gs.length ≤ 1048576) (most : Int) (ml : -9223372036854775808 ≤ most) (mu : most ≤ 9223372036854775807) :
    Calls Tryz.prog 20 #[.agg #[.int .i8 wi, .int .i8 hi, .slice a xs.length c], .slice a2 gs.length c2, .int .i64 most] w fun e w' => e = .returned (.tuple #[.bool (CheckGapsG wi hi xs gs most).1, .int .i64 (CheckGapsG wi hi xs gs most).2]) ∧ Below w.heap.size w w' := by
  obtain ⟨W0, hW0⟩ : ∃ W, W = w.alloc (.cells #[.int .i8 wi, .int .i8 hi, .slice a xs.length c] 32) := ⟨_, rfl⟩
  have B0 : Below w.heap.size w W0 := by rw [hW0]; exact (Below.refl _ _).alloc (Nat.le_refl _) _
  have hbd : BdA W0 w.heap.size wi hi a xs.length c := by rw [hW0]; exact bd_box _ _ _ _ _ _ _
  have HGi := hid (given_S w.heap.size wi hi a c xs a2 c2 gs W0 ⟨wl, wu, hl, hu⟩ hs hbd (h.below B0) ok (h2.below B0) ok2)
  have HB0 := hid B0
  obtain ⟨v, hv⟩ : ∃ v, gapsG wi hi xs gs = v := ⟨_, rfl⟩
  rw [hv] at HGi
  by_cases hv0 : v = 0
  · have G := hid (show CheckGapsG wi hi xs gs most = (decide (leftG xs gs ≤ most), 0) by unfold CheckGapsG; rw [hv, if_pos hv0])
    subst hv0
    obtain ⟨hB, hn, _⟩ := gaps_zero hv
    have HL := hid (fun W (hb : Below W0.heap.size W0 W) => left_S w.heap.size wi hi a c xs a2 c2 gs W hB (by omega) (hbd.below hb hbd.lt) ((h.below B0).below hb) ((h2.below B0).below hb))
    generalize leftG xs gs = L at *
    clear B0 hbd h h2 hv
    go_enter Tryz.func20, Tryz.ntmps20
    go_wp2_with fail
    rw [← hW0]
    clear hW0
    refine HGi.out.mono ?_
    rintro e w1 ⟨rfl, hb1⟩
    have HL1 := hid (HL.out _ hb1)
    have B1 := hid (below_of HB0.out HB0.out.size hb1)
    clear hb1
    go_wp2_with fail
    refine HL1.out.mono ?_
    rintro e w2 ⟨rfl, hb2⟩
    have B2 := hid (below_of B1.out B1.out.size hb2)
    clear hb2
    go_wp2_with fail
    refine bodyPost_ret (v := .tuple #[.bool (decide (L ≤ most)), .int .i64 0]) (by simp [results, Tryz.results20, go_sem]) rfl ?_
    exact ⟨by rw [G.out], B2.out⟩
  · have G := hid (show CheckGapsG wi hi xs gs most = (false, v) by unfold CheckGapsG; rw [hv, if_neg hv0])
    have hne : (v != 0) = true := by simpa using hv0
    clear B0 hbd h h2 hv hv0
    go_enter Tryz.func20, Tryz.ntmps20
    go_wp2_with fail
    rw [← hW0]
    clear hW0
    refine HGi.out.mono ?_
    rintro e w1 ⟨rfl, hb1⟩
    have B1 := hid (below_of HB0.out HB0.out.size hb1)
    clear hb1
    go_wp2_with fail
    refine bodyPost_ret (v := .tuple #[.bool false, .int .i64 v]) (by simp [results, Tryz.results20, go_sem]) rfl ?_
    exact ⟨by rw [G.out], B1.out⟩
theorem CheckGaps_I (w : World) (wi hi : Int) (wl : -128 ≤ wi) (wu : wi ≤ 127) (hl : -128 ≤ hi) (hu : hi ≤ 127) (a : Option Addr) (c : Nat) (xs : List Pc) (h : SlA Pc.enc 5 w a xs) (hac : a = none → c = 0) (ok : ∀ p ∈ xs, p.Ok) (hs : xs.length ≤ 1048576) (a2 : Option Addr) (c2 : Nat) (gs : List Int) (h2 : SlA en1 1 w a2 gs) (hac2 : a2 = none → c2 = 0) (ok2 : ∀ p ∈ gs, -9223372036854775808 ≤ p ∧ p ≤ 9223372036854775807) (hs2 : gs.length ≤ 1048576) (most : Int) (ml : -9223372036854775808 ≤ most) (mu : most ≤ 9223372036854775807) :
    Calls Tryz.prog 21 #[.agg #[.int .i8 wi, .int .i8 hi, .slice a xs.length c], .slice a2 gs.length c2, .int .i64 most] w fun e w' => e = .returned (.tuple #[.bool (CheckGapsG wi hi xs gs most).1, .int .i64 (CheckGapsG wi hi xs gs most).2]) ∧ Below w.heap.size w w' := by
  have HWW := hid (fun W (hb : Below w.heap.size w W) => WorstWithout_I W wi hi wl wu hl hu a c xs (h.below hb) hac ok hs a2 c2 gs (h2.below hb) hac2 ok2 hs2)
  have HBo := hid (fun o => (Below.refl w.heap.size w).alloc (Nat.le_refl _) o)
  obtain ⟨v, hv⟩ : ∃ v, gapsG wi hi xs gs = v := ⟨_, rfl⟩
  by_cases hv0 : v = 0
  · have G := hid (show CheckGapsG wi hi xs gs most = (decide (leftG xs gs ≤ most), 0) by unfold CheckGapsG; rw [hv, if_pos hv0])
    have GW : WorstWithoutG wi hi xs gs = (leftG xs gs, 0) := by unfold WorstWithoutG; rw [hv, if_pos hv0]
    rw [GW] at HWW
    generalize leftG xs gs = L at *
    clear h h2 hv hv0 GW
    go_enter Tryz.func21, Tryz.ntmps21
    go_wp2_with fail
    refine (HWW.out _ (by first | exact Below.refl _ _ | exact HBo.out _)).mono ?_
    rintro e w1 ⟨rfl, hb1⟩
    have B1 := hid (show Below w.heap.size w w1 from by first | exact hb1 | exact below_of (HBo.out _) (HBo.out _).size hb1)
    clear hb1
    go_wp2_with fail
    refine bodyPost_ret (v := .tuple #[.bool (decide (L ≤ most)), .int .i64 0]) (by simp [results, Tryz.results21, go_sem]) rfl ?_
    exact ⟨by rw [G.out], B1.out⟩
  · have G := hid (show CheckGapsG wi hi xs gs most = (false, v) by unfold CheckGapsG; rw [hv, if_neg hv0])
    have GW : WorstWithoutG wi hi xs gs = (0, v) := by unfold WorstWithoutG; rw [hv, if_neg hv0]
    rw [GW] at HWW
    have hne : (v == 0) = false := by simpa using hv0
    clear h h2 hv hv0 GW
    go_enter Tryz.func21, Tryz.ntmps21
    go_wp2_with fail
    refine (HWW.out _ (by first | exact Below.refl _ _ | exact HBo.out _)).mono ?_
    rintro e w1 ⟨rfl, hb1⟩
    have B1 := hid (show Below w.heap.size w w1 from by first | exact hb1 | exact below_of (HBo.out _) (HBo.out _).size hb1)
    clear hb1
    go_wp2_with fail
    refine bodyPost_ret (v := .tuple #[.bool false, .int .i64 v]) (by simp [results, Tryz.results21, go_sem]) rfl ?_
    exact ⟨by rw [G.out], B1.out⟩
end Go.Proofs.YtmjlnhhgpdcobaaGreat
