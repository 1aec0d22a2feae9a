/-
  FnExactNarrowSpan' call: it returns true, whatever the arguments are.
  Conditions: none beyond the statement's own.
-/
import Derived.Test.YtnoiendelcidbaaConvSp
import Derived.Test.YtnoiendelcidbaaNarrow
import Derived.Test.YtnoiendelcidbaaOb
namespace Go.Proofs.Ytnoiendelcidbaa
open Go.RowKit
set_option linter.unusedSimpArgs false
set_option linter.unusedVariables false

set_option maxRecDepth 100000 in
set_option maxHeartbeats 4000000 in
theorem law_FnExactNarrowSpan (w : World) (a0 : Option Addr) (c0 : Nat) (x0 : List Sp) (ok0 : ∀ p ∈ x0, p.Ok) (s0 : SlA Sp.enc 2 w a0 x0) (n1 : Int) (nl1 : -9223372036854775808 ≤ n1) (nu1 : n1 ≤ 9223372036854775807) (n2 : Int) (nl2 : -9223372036854775808 ≤ n2) (nu2 : n2 ≤ 9223372036854775807) (n3 : Int) (nl3 : -9223372036854775808 ≤ n3) (nu3 : n3 ≤ 9223372036854775807) :
    Calls Try.prog 5 #[.slice a0 x0.length c0, .int .i64 n1, .int .i64 n2, .int .i64 n3] w fun e w' => e = .returned (.bool true) ∧ Below w.heap.size w w' := by
  have m0 := s0.small
  have z0 := fun W => sz_Sp_L a0 x0.length c0 ((1048576 : Int)) W (by omega) (by omega) m0
  by_cases h0 : x0.length ≤ 1048576
  · skip
    simp only [show ¬ ((1048576 : Int) - (x0.length : Int) < 0) from by omega, if_false] at z0
    have l0 : (0 : Int) ≤ (1048576 : Int) - (x0.length : Int) := by omega
    have Z0 := hid z0
    clear z0
    have HS := fun (W : World) (A0 : Option Addr) (C0 : Nat) (h0 : SlA Sp.enc 2 W A0 x0) (q0 : A0 = none → C0 = 0) => NarrowSpan_S W A0 C0 x0 h0 q0 ok0 (by omega) n1 nl1 nu1 n2 nl2 nu2 n3 nl3 nu3
    have HI := fun (W : World) (A0 : Option Addr) (C0 : Nat) (h0 : SlA Sp.enc 2 W A0 x0) (q0 : A0 = none → C0 = 0) => NarrowSpan_I W A0 C0 x0 h0 q0 ok0 (by omega) n1 nl1 nu1 n2 nl2 nu2 n3 nl3 nu3
    have hRl := NarrowSpan_len x0 n1 n2 n3 (by omega)
    obtain ⟨R, hR⟩ : ∃ R, (NarrowSpanG x0 n1 n2 n3).1 = R := ⟨_, rfl⟩
    obtain ⟨cd, hcd⟩ : ∃ cd, (NarrowSpanG x0 n1 n2 n3).2 = cd := ⟨_, rfl⟩
    rw [hR] at hRl
    simp only [hR, hcd] at HS HI
    replace HS := hid HS
    replace HI := hid HI
    clear hR hcd
    have cdd : (cd != cd) = false := by simp
    go_enter Try.func5, Try.ntmps5
    go_wp2_with fail
    have B0 : Below w.heap.size w w := Below.refl _ _
    have wsz := B0.size
    refine (Z0.out _).mono ?_
    rintro e w1 ⟨rfl, rfl⟩
    go_wp2_with fail
    refine (toS_Sp_L a0 c0 x0 _ (s0.below B0) (by omega)).mono ?_
    rintro e w2 ⟨g2, rfl, b2, own2⟩
    have Bp := B0
    have B2 := below_of B0 B0.size b2
    have p0 := Ob.new (b0 := w.heap.size) own2 Bp.size
    clear Bp
    clear own2 b2
    go_wp2_with fail
    refine (HS.out _ _ _ (p0.sla Sp.enc_length) p0.nilcap).mono ?_
    rintro e w3 ⟨A3, ca3, rfl, b3, own3⟩
    have d_p0_ow := p0.top
    have Bp := B2
    have B3 := below_of B2 B2.size b3
    have ow := Ob.new (b0 := w.heap.size) own3 Bp.size
    clear Bp
    replace p0 := p0.step b3
    clear own3 b3
    go_wp2_with fail
    clear p0
    refine (toS_Sp_L a0 c0 x0 _ (s0.below B3) (by omega)).mono ?_
    rintro e w4 ⟨g4, rfl, b4, own4⟩
    have d_ow_v0 := ow.top
    have Bp := B3
    have B4 := below_of B3 B3.size b4
    have v0 := Ob.new (b0 := w.heap.size) own4 Bp.size
    clear Bp
    replace ow := ow.step b4
    clear own4 b4
    go_wp2_with fail
    refine (HI.out _ _ _ (v0.sla Sp.enc_length) v0.nilcap).mono ?_
    rintro e w5 ⟨A5, ca5, rfl, b5, own5⟩
    have d_ow_og := ow.top
    have d_v0_og := v0.top
    have Bp := B4
    have B5 := below_of B4 B4.size b5
    have og := Ob.new (b0 := w.heap.size) own5 Bp.size
    clear Bp
    replace ow := ow.step b5
    replace v0 := v0.step b5
    clear own5 b5
    go_wp2_with fail
    refine (eqS_Sp_L _ _ _ _ R R _ (og.sla Sp.enc_length) (ow.sla Sp.enc_length)).mono ?_
    rintro e w6 ⟨rfl, b6⟩
    have B6 := below_of B5 B5.size b6
    replace ow := ow.step b6
    replace v0 := v0.step b6
    replace og := og.step b6
    clear b6
    rw [dec_self]
    go_wp2_with fail
    refine (toS_Sp_L a0 c0 x0 _ (s0.below B6) (by omega)).mono ?_
    rintro e w7 ⟨g7, rfl, b7, own7⟩
    have d_ow_u0 := ow.top
    have d_v0_u0 := v0.top
    have d_og_u0 := og.top
    have Bp := B6
    have B7 := below_of B6 B6.size b7
    have u0 := Ob.new (b0 := w.heap.size) own7 Bp.size
    clear Bp
    replace ow := ow.step b7
    replace v0 := v0.step b7
    replace og := og.step b7
    clear own7 b7
    go_wp2_with fail
    refine (eqS_Sp_L _ _ _ _ x0 x0 _ (v0.sla Sp.enc_length) (u0.sla Sp.enc_length)).mono ?_
    rintro e w8 ⟨rfl, b8⟩
    have B8 := below_of B7 B7.size b8
    replace ow := ow.step b8
    replace v0 := v0.step b8
    replace og := og.step b8
    replace u0 := u0.step b8
    clear b8
    rw [dec_self]
    go_wp2_with fail
    clear u0
    refine (markS_Sp_L _ _ _ x0 (1) _ v0.own (by omega) (by omega) (by omega)).mono ?_
    rintro e w9 ⟨rfl, hg9, own9⟩
    have Bn := v0.below B8 hg9
    replace ow := ow.other v0 hg9 (by omega)
    replace og := og.other v0 hg9 (by omega)
    replace v0 := v0.marked (ys := markL Sp.mk_ 2 x0.length (1)) (markL_length _ _ _ _) own9 hg9
    have B9 := Bn
    clear Bn hg9 own9
    go_wp2_with fail
    refine (eqS_Sp_L _ _ _ _ R R _ (og.sla Sp.enc_length) (ow.sla Sp.enc_length)).mono ?_
    rintro e w10 ⟨rfl, b10⟩
    have B10 := below_of B9 B9.size b10
    replace ow := ow.step b10
    replace v0 := v0.step b10
    replace og := og.step b10
    clear b10
    rw [dec_self]
    go_wp2_with fail
    refine (markS_Sp_L _ _ _ R (1) _ og.own (by omega) (by omega) (by omega)).mono ?_
    rintro e w11 ⟨rfl, hg11, own11⟩
    have Bn := og.below B10 hg11
    replace ow := ow.other og hg11 (by omega)
    replace v0 := v0.other og hg11 (by omega)
    replace og := og.marked (ys := markL Sp.mk_ 2 R.length (1)) (markL_length _ _ _ _) own11 hg11
    have B11 := Bn
    clear Bn hg11 own11
    go_wp2_with fail
    refine (heldS_Sp_L _ _ R.length 1 _ (og.sla Sp.enc_length) (by omega) (by omega) (by omega)).mono ?_
    rintro e w12 ⟨rfl, rfl⟩
    go_wp2_with fail
    refine (toS_Sp_L a0 c0 x0 _ (s0.below B11) (by omega)).mono ?_
    rintro e w13 ⟨g13, rfl, b13, own13⟩
    have d_ow_p0 := ow.top
    have d_v0_p0 := v0.top
    have d_og_p0 := og.top
    have Bp := B11
    have B13 := below_of B11 B11.size b13
    have p0 := Ob.new (b0 := w.heap.size) own13 Bp.size
    clear Bp
    replace ow := ow.step b13
    replace v0 := v0.step b13
    replace og := og.step b13
    clear own13 b13
    go_wp2_with fail
    refine (HI.out _ _ _ (p0.sla Sp.enc_length) p0.nilcap).mono ?_
    rintro e w14 ⟨A14, ca14, rfl, b14, own14⟩
    have d_ow_oh := ow.top
    have d_v0_oh := v0.top
    have d_og_oh := og.top
    have d_p0_oh := p0.top
    have Bp := B13
    have B14 := below_of B13 B13.size b14
    have oh := Ob.new (b0 := w.heap.size) own14 Bp.size
    clear Bp
    replace ow := ow.step b14
    replace v0 := v0.step b14
    replace og := og.step b14
    replace p0 := p0.step b14
    clear own14 b14
    go_wp2_with fail
    refine (eqS_Sp_L _ _ _ _ R R _ (oh.sla Sp.enc_length) (ow.sla Sp.enc_length)).mono ?_
    rintro e w15 ⟨rfl, b15⟩
    have B15 := below_of B14 B14.size b15
    replace ow := ow.step b15
    replace v0 := v0.step b15
    replace og := og.step b15
    replace p0 := p0.step b15
    replace oh := oh.step b15
    clear b15
    rw [dec_self]
    go_wp2_with fail
    refine (heldS_Sp_L _ _ R.length 1 _ (og.sla Sp.enc_length) (by omega) (by omega) (by omega)).mono ?_
    rintro e w16 ⟨rfl, rfl⟩
    go_wp2_with fail
    go_ret
    exact ⟨rfl, B15⟩
  · skip
    simp only [show (1048576 : Int) - (x0.length : Int) < 0 from by omega, if_true] at z0
    have Z0 := hid z0
    clear z0
    go_enter Try.func5, Try.ntmps5
    go_wp2_with fail
    have B0 : Below w.heap.size w w := Below.refl _ _
    refine (Z0.out _).mono ?_
    rintro e w1 ⟨rfl, rfl⟩
    go_wp2_with fail
    go_ret
    exact ⟨rfl, B0⟩
end Go.Proofs.Ytnoiendelcidbaa
