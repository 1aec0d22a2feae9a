/-
  FnExactFewestGaps' call: it returns true, whatever the arguments are.
  Conditions: none beyond the statement's own.
-/
import Derived.Test.YtebefcfalnkdmaaGreatConvBd
import Derived.Test.YtebefcfalnkdmaaGreatConvNu
import Derived.Test.YtebefcfalnkdmaaGreatFewS
import Derived.Test.YtebefcfalnkdmaaGreatFewI
import Derived.Test.YtebefcfalnkdmaaGreatOb
import Derived.Deep.RegionHeld3
namespace Go.Proofs.YtebefcfalnkdmaaGreat
open Go.RowKit
set_option linter.unusedSimpArgs false
set_option linter.unusedVariables false

set_option maxRecDepth 100000 in
set_option maxHeartbeats 4000000 in
theorem law_FnExactFewestGaps (w : World) (wi0 hi0 : Int) (wl0 : -128 ≤ wi0) (wu0 : wi0 ≤ 127) (hl0 : -128 ≤ hi0) (hu0 : hi0 ≤ 127) (a0 : Option Addr) (c0 : Nat) (x0 : List Pc) (ok0 : ∀ p ∈ x0, p.Ok) (s0 : SlA Pc.enc 5 w a0 x0) (n1 : Int) (nl1 : -9223372036854775808 ≤ n1) (nu1 : n1 ≤ 9223372036854775807) (n2 : Int) (nl2 : -9223372036854775808 ≤ n2) (nu2 : n2 ≤ 9223372036854775807) (n3 : Int) (nl3 : -9223372036854775808 ≤ n3) (nu3 : n3 ≤ 9223372036854775807) :
    Calls Tryz.prog 5 #[.agg #[.int .i8 wi0, .int .i8 hi0, .slice a0 x0.length c0], .int .i64 n1, .int .i64 n2, .int .i64 n3] w fun e w' => e = .returned (.bool true) ∧ Below w.heap.size w w' := by
  have m0 := s0.small
  have z0 := fun W => sz_Bd_L wi0 hi0 a0 x0.length c0 ((1048576 : Int)) W (by omega) (by omega) m0
  by_cases h0 : x0.length ≤ 1048576
  · skip
    simp only [show ¬ ((1048576 : Int) - (x0.length : Int) < 0) from by omega, if_false] at z0
    have l0 : (0 : Int) ≤ (1048576 : Int) - (x0.length : Int) := by omega
    have Z0 := hid z0
    clear z0
    have HS := fun (W : World) (A0 : Option Addr) (C0 : Nat) (h0 : SlA Pc.enc 5 W A0 x0) (q0 : A0 = none → C0 = 0) => FewestGaps_S W wi0 hi0 wl0 wu0 hl0 hu0 A0 C0 x0 h0 q0 ok0 (by omega) n1 nl1 nu1 n2 nl2 nu2 n3 nl3 nu3
    have HI := fun (W : World) (A0 : Option Addr) (C0 : Nat) (h0 : SlA Pc.enc 5 W A0 x0) (q0 : A0 = none → C0 = 0) => FewestGaps_I W wi0 hi0 wl0 wu0 hl0 hu0 A0 C0 x0 h0 q0 ok0 (by omega) n1 nl1 nu1 n2 nl2 nu2 n3 nl3 nu3
    have hRl := FewestGaps_len wi0 hi0 x0 n1 n2 n3 (by omega)
    obtain ⟨R, hR⟩ : ∃ R, (FewestGapsG wi0 hi0 x0 n1 n2 n3).1 = R := ⟨_, rfl⟩
    obtain ⟨sd, hsd⟩ : ∃ sd, (FewestGapsG wi0 hi0 x0 n1 n2 n3).2.1 = sd := ⟨_, rfl⟩
    obtain ⟨cd, hcd⟩ : ∃ cd, (FewestGapsG wi0 hi0 x0 n1 n2 n3).2.2 = cd := ⟨_, rfl⟩
    rw [hR] at hRl
    simp only [hR, hsd, hcd] at HS HI
    replace HS := hid HS
    replace HI := hid HI
    clear hR hcd hsd
    have sdd : (sd != sd) = false := by simp
    have cdd : (cd != cd) = false := by simp
    go_enter Tryz.func5, Tryz.ntmps5
    go_wp2_with fail
    obtain ⟨wb, hwb⟩ : ∃ wb, wb = w.alloc (Obj.cells #[.int .i8 wi0, .int .i8 hi0, .slice a0 x0.length c0] 25) := ⟨_, rfl⟩
    have B0 : Below w.heap.size w wb := by rw [hwb]; exact (Below.refl _ _).alloc (Nat.le_refl _) _
    have k0_0 : wb.cell? ⟨w.heap.size, 0, none⟩ = some (.int .i8 wi0) := by rw [hwb]; simp
    have k0_1 : wb.cell? ⟨w.heap.size, 1, none⟩ = some (.int .i8 hi0) := by rw [hwb]; simp
    have k0_2 : wb.cell? ⟨w.heap.size, 2, none⟩ = some (.slice a0 x0.length c0) := by rw [hwb]; simp
    have wlt : w.heap.size < wb.heap.size := by rw [hwb]; simp
    rw [← hwb]
    clear hwb
    have wsz := B0.size
    refine (Z0.out _).mono ?_
    rintro e w1 ⟨rfl, b1⟩
    have B1 := below_of B0 B0.size b1
    have zz1 := b1.size
    replace k0_0 := cell_on b1 k0_0
    replace k0_1 := cell_on b1 k0_1
    replace k0_2 := cell_on b1 k0_2
    clear b1
    go_wp2_with fail
    refine (to_Bd_L wi0 hi0 a0 c0 x0 _ (s0.below B1) (by omega)).mono ?_
    rintro e w2 ⟨g2, rfl, b2, own2⟩
    have Bp := B1
    have B2 := below_of B1 B1.size b2
    have zz2 := b2.size
    have p0 := Ob.new (b0 := w.heap.size) own2 Bp.size
    clear Bp
    replace k0_0 := cell_on b2 k0_0
    replace k0_1 := cell_on b2 k0_1
    replace k0_2 := cell_on b2 k0_2
    clear own2 b2
    go_wp2_with fail
    refine (HS.out _ _ _ (p0.sla Pc.enc_length) p0.nilcap).mono ?_
    rintro e w3 ⟨A3, ca3, rfl, b3, own3⟩
    have d_p0_ow := p0.top
    have Bp := B2
    have B3 := below_of B2 B2.size b3
    have zz3 := b3.size
    have ow := Ob.new (b0 := w.heap.size) own3 Bp.size
    clear Bp
    replace k0_0 := cell_on b3 k0_0
    replace k0_1 := cell_on b3 k0_1
    replace k0_2 := cell_on b3 k0_2
    replace p0 := p0.step b3
    clear own3 b3
    go_wp2_with fail
    clear p0
    refine (to_Bd_L wi0 hi0 a0 c0 x0 _ (s0.below B3) (by omega)).mono ?_
    rintro e w4 ⟨g4, rfl, b4, own4⟩
    have d_ow_v0 := ow.top
    have Bp := B3
    have B4 := below_of B3 B3.size b4
    have zz4 := b4.size
    have v0 := Ob.new (b0 := w.heap.size) own4 Bp.size
    clear Bp
    replace k0_0 := cell_on b4 k0_0
    replace k0_1 := cell_on b4 k0_1
    replace k0_2 := cell_on b4 k0_2
    replace ow := ow.step b4
    clear own4 b4
    have a_k0_0 := fun o => cell_on ((Below.refl w4.heap.size w4).alloc (Nat.le_refl _) o) k0_0
    have a_k0_1 := fun o => cell_on ((Below.refl w4.heap.size w4).alloc (Nat.le_refl _) o) k0_1
    have a_k0_2 := fun o => cell_on ((Below.refl w4.heap.size w4).alloc (Nat.le_refl _) o) k0_2
    go_wp2_with fail
    clear a_k0_0 a_k0_1 a_k0_2
    obtain ⟨w5, hw5⟩ : ∃ W, W = w4.alloc (Obj.cells #[.int .i8 wi0, .int .i8 hi0, .slice (some ⟨g4, 0, none⟩) x0.length x0.length] 32) := ⟨_, rfl⟩
    have b5 : Below w4.heap.size w4 w5 := by rw [hw5]; exact (Below.refl _ _).alloc (Nat.le_refl _) _
    have kx0_0 : w5.cell? ⟨w4.heap.size, 0, none⟩ = some (.int .i8 wi0) := by rw [hw5]; simp
    have kx0_1 : w5.cell? ⟨w4.heap.size, 1, none⟩ = some (.int .i8 hi0) := by rw [hw5]; simp
    have kx0_2 : w5.cell? ⟨w4.heap.size, 2, none⟩ = some (.slice (some ⟨g4, 0, none⟩) x0.length x0.length) := by rw [hw5]; simp
    have wl5 : w4.heap.size < w5.heap.size := by rw [hw5]; simp
    rw [← hw5]
    clear hw5
    have B5 := below_of B4 B4.size b5
    have zz5 := b5.size
    replace k0_0 := cell_on b5 k0_0
    replace k0_1 := cell_on b5 k0_1
    replace k0_2 := cell_on b5 k0_2
    replace ow := ow.step b5
    replace v0 := v0.step b5
    clear b5
    refine (HI.out _ _ _ (v0.sla Pc.enc_length) v0.nilcap).mono ?_
    rintro e w6 ⟨A6, ca6, rfl, b6, own6⟩
    have d_ow_og := ow.top
    have d_v0_og := v0.top
    have Bp := B5
    have B6 := below_of B5 B5.size b6
    have zz6 := b6.size
    have og := Ob.new (b0 := w.heap.size) own6 Bp.size
    clear Bp
    replace k0_0 := cell_on b6 k0_0
    replace k0_1 := cell_on b6 k0_1
    replace k0_2 := cell_on b6 k0_2
    replace kx0_0 := cell_on b6 kx0_0
    replace kx0_1 := cell_on b6 kx0_1
    replace kx0_2 := cell_on b6 kx0_2
    replace ow := ow.step b6
    replace v0 := v0.step b6
    clear own6 b6
    go_wp2_with fail
    refine (eqS_en1_L _ _ _ _ R R _ (og.sla en1_length) (ow.sla en1_length)).mono ?_
    rintro e w7 ⟨rfl, b7⟩
    have B7 := below_of B6 B6.size b7
    have zz7 := b7.size
    replace k0_0 := cell_on b7 k0_0
    replace k0_1 := cell_on b7 k0_1
    replace k0_2 := cell_on b7 k0_2
    replace kx0_0 := cell_on b7 kx0_0
    replace kx0_1 := cell_on b7 kx0_1
    replace kx0_2 := cell_on b7 kx0_2
    replace ow := ow.step b7
    replace v0 := v0.step b7
    replace og := og.step b7
    clear b7
    rw [dec_self]
    go_wp2_with fail
    have b8 : Below w7.heap.size w7 w7.drew := (Below.refl _ _).drew
    have B8 := below_of B7 B7.size b8
    have zz8 := b8.size
    replace k0_0 := cell_on b8 k0_0
    replace k0_1 := cell_on b8 k0_1
    replace k0_2 := cell_on b8 k0_2
    replace kx0_0 := cell_on b8 kx0_0
    replace kx0_1 := cell_on b8 kx0_1
    replace kx0_2 := cell_on b8 kx0_2
    replace ow := ow.step b8
    replace v0 := v0.step b8
    replace og := og.step b8
    clear b8
    go_region_held3 (fun w' => w'.cell? ⟨w4.heap.size, 0, none⟩ = some (.int .i8 wi0) ∧ w'.cell? ⟨w4.heap.size, 1, none⟩ = some (.int .i8 hi0) ∧ w'.cell? ⟨w4.heap.size, 2, none⟩ = some (.slice (some ⟨g4, 0, none⟩) x0.length x0.length) ∧ w'.cell? ⟨w.heap.size, 0, none⟩ = some (.int .i8 wi0) ∧ w'.cell? ⟨w.heap.size, 1, none⟩ = some (.int .i8 hi0) ∧ w'.cell? ⟨w.heap.size, 2, none⟩ = some (.slice a0 x0.length c0)) ((refine ⟨?_, ?_, ?_, ?_, ?_, ?_⟩ <;> assumption)) (first | (go_at_call 10; refine (to_Bd_L wi0 hi0 a0 c0 x0 _ (s0.below B8) (by omega)).mono ?_; rintro e w9 ⟨g9, rfl, b9, own9⟩; have d_ow_u0 := ow.top; have d_v0_u0 := v0.top; have d_og_u0 := og.top; have Bp := B8; have B9 := below_of B8 B8.size b9; have zz9 := b9.size; have u0 := Ob.new (b0 := w.heap.size) own9 Bp.size; clear Bp; replace k0_0 := cell_on b9 k0_0; replace k0_1 := cell_on b9 k0_1; replace k0_2 := cell_on b9 k0_2; replace kx0_0 := cell_on b9 kx0_0; replace kx0_1 := cell_on b9 kx0_1; replace kx0_2 := cell_on b9 kx0_2; replace ow := ow.step b9; replace v0 := v0.step b9; replace og := og.step b9; clear own9 b9) | (go_at_call 13; refine (eq_Bd_L wi0 hi0 wi0 hi0 _ _ _ _ x0 x0 _ (v0.sla Pc.enc_length) (u0.sla Pc.enc_length)).mono ?_; rintro e w10 ⟨rfl, b10⟩; have B10 := below_of B9 B9.size b10; have zz10 := b10.size; replace k0_0 := cell_on b10 k0_0; replace k0_1 := cell_on b10 k0_1; replace k0_2 := cell_on b10 k0_2; replace kx0_0 := cell_on b10 kx0_0; replace kx0_1 := cell_on b10 kx0_1; replace kx0_2 := cell_on b10 kx0_2; replace ow := ow.step b10; replace v0 := v0.step b10; replace og := og.step b10; replace u0 := u0.step b10; clear b10; rw [decide_eq_true (show wi0 = wi0 ∧ hi0 = hi0 ∧ x0 = x0 from ⟨rfl, rfl, rfl⟩)]))
    go_wp2_with fail
    clear u0
    clear kx0_0
    clear kx0_1
    clear kx0_2
    refine (markS_Bd_L _ wi0 hi0 _ _ x0 (1) _ v0.own (by omega) (by omega) (by omega)).mono ?_
    rintro e w11 ⟨rfl, hg11, own11⟩
    have Bn := v0.below B10 hg11
    have zz11 := hg11.size
    replace k0_0 := by first | exact cell_mark v0 k0_0 hg11 (by dsimp only; omega) | exact cell_mark2 v0 k0_0 hg11 (by dsimp only; omega)
    replace k0_1 := by first | exact cell_mark v0 k0_1 hg11 (by dsimp only; omega) | exact cell_mark2 v0 k0_1 hg11 (by dsimp only; omega)
    replace k0_2 := by first | exact cell_mark v0 k0_2 hg11 (by dsimp only; omega) | exact cell_mark2 v0 k0_2 hg11 (by dsimp only; omega)
    replace ow := ow.other v0 hg11 (by omega)
    replace og := og.other v0 hg11 (by omega)
    replace v0 := v0.marked (ys := markL Pc.mk_ 5 x0.length (1)) (markL_length _ _ _ _) own11 hg11
    have B11 := Bn
    clear Bn hg11 own11
    go_wp2_with fail
    refine (eqS_en1_L _ _ _ _ R R _ (og.sla en1_length) (ow.sla en1_length)).mono ?_
    rintro e w12 ⟨rfl, b12⟩
    have B12 := below_of B11 B11.size b12
    have zz12 := b12.size
    replace k0_0 := cell_on b12 k0_0
    replace k0_1 := cell_on b12 k0_1
    replace k0_2 := cell_on b12 k0_2
    replace ow := ow.step b12
    replace v0 := v0.step b12
    replace og := og.step b12
    clear b12
    rw [dec_self]
    go_wp2_with fail
    refine (markS_en1_L _ _ _ R (1) _ og.own (by omega) (by omega) (by omega)).mono ?_
    rintro e w13 ⟨rfl, hg13, own13⟩
    have Bn := og.below B12 hg13
    have zz13 := hg13.size
    replace k0_0 := by first | exact cell_mark og k0_0 hg13 (by dsimp only; omega) | exact cell_mark2 og k0_0 hg13 (by dsimp only; omega)
    replace k0_1 := by first | exact cell_mark og k0_1 hg13 (by dsimp only; omega) | exact cell_mark2 og k0_1 hg13 (by dsimp only; omega)
    replace k0_2 := by first | exact cell_mark og k0_2 hg13 (by dsimp only; omega) | exact cell_mark2 og k0_2 hg13 (by dsimp only; omega)
    replace ow := ow.other og hg13 (by omega)
    replace v0 := v0.other og hg13 (by omega)
    replace og := og.marked (ys := markL id 1 R.length (1)) (markL_length _ _ _ _) own13 hg13
    have B13 := Bn
    clear Bn hg13 own13
    go_wp2_with fail
    refine (heldS_en1_L _ _ R.length 1 _ (og.sla en1_length) (by omega) (by omega) (by omega)).mono ?_
    rintro e w14 ⟨rfl, rfl⟩
    go_wp2_with fail
    refine (to_Bd_L wi0 hi0 a0 c0 x0 _ (s0.below B13) (by omega)).mono ?_
    rintro e w15 ⟨g15, rfl, b15, own15⟩
    have d_ow_p0 := ow.top
    have d_v0_p0 := v0.top
    have d_og_p0 := og.top
    have Bp := B13
    have B15 := below_of B13 B13.size b15
    have zz15 := b15.size
    have p0 := Ob.new (b0 := w.heap.size) own15 Bp.size
    clear Bp
    replace k0_0 := cell_on b15 k0_0
    replace k0_1 := cell_on b15 k0_1
    replace k0_2 := cell_on b15 k0_2
    replace ow := ow.step b15
    replace v0 := v0.step b15
    replace og := og.step b15
    clear own15 b15
    go_wp2_with fail
    refine (HI.out _ _ _ (p0.sla Pc.enc_length) p0.nilcap).mono ?_
    rintro e w16 ⟨A16, ca16, rfl, b16, own16⟩
    have d_ow_oh := ow.top
    have d_v0_oh := v0.top
    have d_og_oh := og.top
    have d_p0_oh := p0.top
    have Bp := B15
    have B16 := below_of B15 B15.size b16
    have zz16 := b16.size
    have oh := Ob.new (b0 := w.heap.size) own16 Bp.size
    clear Bp
    replace k0_0 := cell_on b16 k0_0
    replace k0_1 := cell_on b16 k0_1
    replace k0_2 := cell_on b16 k0_2
    replace ow := ow.step b16
    replace v0 := v0.step b16
    replace og := og.step b16
    replace p0 := p0.step b16
    clear own16 b16
    go_wp2_with fail
    refine (eqS_en1_L _ _ _ _ R R _ (oh.sla en1_length) (ow.sla en1_length)).mono ?_
    rintro e w17 ⟨rfl, b17⟩
    have B17 := below_of B16 B16.size b17
    have zz17 := b17.size
    replace k0_0 := cell_on b17 k0_0
    replace k0_1 := cell_on b17 k0_1
    replace k0_2 := cell_on b17 k0_2
    replace ow := ow.step b17
    replace v0 := v0.step b17
    replace og := og.step b17
    replace p0 := p0.step b17
    replace oh := oh.step b17
    clear b17
    rw [dec_self]
    go_wp2_with fail
    refine (heldS_en1_L _ _ R.length 1 _ (og.sla en1_length) (by omega) (by omega) (by omega)).mono ?_
    rintro e w18 ⟨rfl, rfl⟩
    go_wp2_with fail
    go_ret
    exact ⟨rfl, B17⟩
  · skip
    simp only [show (1048576 : Int) - (x0.length : Int) < 0 from by omega, if_true] at z0
    have Z0 := hid z0
    clear z0
    go_enter Tryz.func5, Tryz.ntmps5
    go_wp2_with fail
    obtain ⟨wb, hwb⟩ : ∃ wb, wb = w.alloc (Obj.cells #[.int .i8 wi0, .int .i8 hi0, .slice a0 x0.length c0] 25) := ⟨_, rfl⟩
    have B0 : Below w.heap.size w wb := by rw [hwb]; exact (Below.refl _ _).alloc (Nat.le_refl _) _
    have k0_0 : wb.cell? ⟨w.heap.size, 0, none⟩ = some (.int .i8 wi0) := by rw [hwb]; simp
    have k0_1 : wb.cell? ⟨w.heap.size, 1, none⟩ = some (.int .i8 hi0) := by rw [hwb]; simp
    have k0_2 : wb.cell? ⟨w.heap.size, 2, none⟩ = some (.slice a0 x0.length c0) := by rw [hwb]; simp
    have wlt : w.heap.size < wb.heap.size := by rw [hwb]; simp
    rw [← hwb]
    clear hwb
    refine (Z0.out _).mono ?_
    rintro e w1 ⟨rfl, b1⟩
    have B1 := below_of B0 B0.size b1
    have zz1 := b1.size
    replace k0_0 := cell_on b1 k0_0
    replace k0_1 := cell_on b1 k0_1
    replace k0_2 := cell_on b1 k0_2
    clear b1
    go_wp2_with fail
    go_ret
    exact ⟨rfl, B1⟩
end Go.Proofs.YtebefcfalnkdmaaGreat
