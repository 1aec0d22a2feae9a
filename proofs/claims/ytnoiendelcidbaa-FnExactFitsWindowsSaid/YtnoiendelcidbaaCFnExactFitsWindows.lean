/-
  FnExactFitsWindows' call: it returns true, whatever the arguments are.
  Conditions: none beyond the statement's own.
-/
import Derived.Test.YtnoiendelcidbaaConvWn
import Derived.Test.YtnoiendelcidbaaConvFa
import Derived.Test.YtnoiendelcidbaaFitsWs
import Derived.Test.YtnoiendelcidbaaOb
namespace Go.Proofs.Ytnoiendelcidbaa
open Go.RowKit
set_option linter.unusedSimpArgs false
set_option linter.unusedVariables false

set_option maxRecDepth 100000 in
set_option maxHeartbeats 4000000 in
theorem law_FnExactFitsWindows (w : World) (a0 : Option Addr) (c0 : Nat) (x0 : List Wn) (ok0 : ∀ p ∈ x0, p.Ok) (s0 : SlA Wn.enc 4 w a0 x0) (a1 : Option Addr) (c1 : Nat) (x1 : List Fa) (ok1 : ∀ p ∈ x1, p.Ok) (s1 : SlA Fa.enc 3 w a1 x1) :
    Calls Try.prog 6 #[.slice a0 x0.length c0, .slice a1 x1.length c1] w fun e w' => e = .returned (.bool true) ∧ Below w.heap.size w w' := by
  have m0 := s0.small
  have m1 := s1.small
  have z0 := fun W => sz_Wn_L a0 x0.length c0 ((1048576 : Int)) W (by omega) (by omega) m0
  by_cases h0 : x0.length ≤ 1048576
  · skip
    simp only [show ¬ ((1048576 : Int) - (x0.length : Int) < 0) from by omega, if_false] at z0
    have l0 : (0 : Int) ≤ (1048576 : Int) - (x0.length : Int) := by omega
    have Z0 := hid z0
    clear z0
    have z1 := fun W => sz_Fa_L a1 x1.length c1 ((1048576 : Int) - (x0.length : Int)) W (by omega) (by omega) m1
    by_cases h1 : x0.length + x1.length ≤ 1048576
    · skip
      simp only [show ¬ ((1048576 : Int) - (x0.length : Int) - (x1.length : Int) < 0) from by omega, if_false] at z1
      have l1 : (0 : Int) ≤ (1048576 : Int) - (x0.length : Int) - (x1.length : Int) := by omega
      have Z1 := hid z1
      clear z1
      have HS := fun (W : World) (A0 : Option Addr) (C0 : Nat) (h0 : SlA Wn.enc 4 W A0 x0) (q0 : A0 = none → C0 = 0) (A1 : Option Addr) (C1 : Nat) (h1 : SlA Fa.enc 3 W A1 x1) (q1 : A1 = none → C1 = 0) => FitsWindows_S W A0 C0 x0 h0 q0 ok0 (by omega) A1 C1 x1 h1 q1 ok1 (by omega)
      have HI := fun (W : World) (A0 : Option Addr) (C0 : Nat) (h0 : SlA Wn.enc 4 W A0 x0) (q0 : A0 = none → C0 = 0) (A1 : Option Addr) (C1 : Nat) (h1 : SlA Fa.enc 3 W A1 x1) (q1 : A1 = none → C1 = 0) => FitsWindows_I W A0 C0 x0 h0 q0 ok0 (by omega) A1 C1 x1 h1 q1 ok1 (by omega)
      obtain ⟨r0, hr0⟩ : ∃ r, (FitsWindowsG x0 x1).1 = r := ⟨_, rfl⟩
      obtain ⟨r1, hr1⟩ : ∃ r, (FitsWindowsG x0 x1).2 = r := ⟨_, rfl⟩
      simp only [hr0, hr1] at HS HI
      replace HS := hid HS
      replace HI := hid HI
      clear hr0
      have rr0 : (r0 != r0) = false := by simp
      clear hr1
      have rr1 : (r1 != r1) = false := by simp
      go_enter Try.func6, Try.ntmps6
      go_wp2_with fail
      have B0 : Below w.heap.size w w := Below.refl _ _
      have wsz := B0.size
      refine (Z0.out _).mono ?_
      rintro e w1 ⟨rfl, rfl⟩
      go_wp2_with fail
      refine (Z1.out _).mono ?_
      rintro e w2 ⟨rfl, rfl⟩
      go_wp2_with fail
      refine (toS_Wn_L a0 c0 x0 _ (s0.below B0) (by omega)).mono ?_
      rintro e w3 ⟨g3, rfl, b3, own3⟩
      have Bp := B0
      have B3 := below_of B0 B0.size b3
      have p0 := Ob.new (b0 := w.heap.size) own3 Bp.size
      clear Bp
      clear own3 b3
      go_wp2_with fail
      refine (toS_Fa_L a1 c1 x1 _ (s1.below B3) (by omega)).mono ?_
      rintro e w4 ⟨g4, rfl, b4, own4⟩
      have d_p0_p1 := p0.top
      have Bp := B3
      have B4 := below_of B3 B3.size b4
      have p1 := Ob.new (b0 := w.heap.size) own4 Bp.size
      clear Bp
      replace p0 := p0.step b4
      clear own4 b4
      go_wp2_with fail
      refine (HS.out _ _ _ (p0.sla Wn.enc_length) p0.nilcap _ _ (p1.sla Fa.enc_length) p1.nilcap).mono ?_
      rintro e w5 ⟨rfl, b5⟩
      have B5 := below_of B4 B4.size b5
      replace p0 := p0.step b5
      replace p1 := p1.step b5
      clear b5
      go_wp2_with fail
      clear p0 p1
      refine (toS_Wn_L a0 c0 x0 _ (s0.below B5) (by omega)).mono ?_
      rintro e w6 ⟨g6, rfl, b6, own6⟩
      have Bp := B5
      have B6 := below_of B5 B5.size b6
      have v0 := Ob.new (b0 := w.heap.size) own6 Bp.size
      clear Bp
      clear own6 b6
      go_wp2_with fail
      refine (toS_Fa_L a1 c1 x1 _ (s1.below B6) (by omega)).mono ?_
      rintro e w7 ⟨g7, rfl, b7, own7⟩
      have d_v0_v1 := v0.top
      have Bp := B6
      have B7 := below_of B6 B6.size b7
      have v1 := Ob.new (b0 := w.heap.size) own7 Bp.size
      clear Bp
      replace v0 := v0.step b7
      clear own7 b7
      go_wp2_with fail
      refine (HI.out _ _ _ (v0.sla Wn.enc_length) v0.nilcap _ _ (v1.sla Fa.enc_length) v1.nilcap).mono ?_
      rintro e w8 ⟨rfl, b8⟩
      have B8 := below_of B7 B7.size b8
      replace v0 := v0.step b8
      replace v1 := v1.step b8
      clear b8
      go_wp2_with fail
      refine (toS_Wn_L a0 c0 x0 _ (s0.below B8) (by omega)).mono ?_
      rintro e w9 ⟨g9, rfl, b9, own9⟩
      have d_v0_u0 := v0.top
      have d_v1_u0 := v1.top
      have Bp := B8
      have B9 := below_of B8 B8.size b9
      have u0 := Ob.new (b0 := w.heap.size) own9 Bp.size
      clear Bp
      replace v0 := v0.step b9
      replace v1 := v1.step b9
      clear own9 b9
      go_wp2_with fail
      refine (eqS_Wn_L _ _ _ _ x0 x0 _ (v0.sla Wn.enc_length) (u0.sla Wn.enc_length)).mono ?_
      rintro e w10 ⟨rfl, b10⟩
      have B10 := below_of B9 B9.size b10
      replace v0 := v0.step b10
      replace v1 := v1.step b10
      replace u0 := u0.step b10
      clear b10
      rw [dec_self]
      go_wp2_with fail
      clear u0
      refine (toS_Fa_L a1 c1 x1 _ (s1.below B10) (by omega)).mono ?_
      rintro e w11 ⟨g11, rfl, b11, own11⟩
      have d_v0_u1 := v0.top
      have d_v1_u1 := v1.top
      have Bp := B10
      have B11 := below_of B10 B10.size b11
      have u1 := Ob.new (b0 := w.heap.size) own11 Bp.size
      clear Bp
      replace v0 := v0.step b11
      replace v1 := v1.step b11
      clear own11 b11
      go_wp2_with fail
      refine (eqS_Fa_L _ _ _ _ x1 x1 _ (v1.sla Fa.enc_length) (u1.sla Fa.enc_length)).mono ?_
      rintro e w12 ⟨rfl, b12⟩
      have B12 := below_of B11 B11.size b12
      replace v0 := v0.step b12
      replace v1 := v1.step b12
      replace u1 := u1.step b12
      clear b12
      rw [dec_self]
      go_wp2_with fail
      clear u1
      go_ret
      exact ⟨rfl, B12⟩
    · skip
      simp only [show (1048576 : Int) - (x0.length : Int) - (x1.length : Int) < 0 from by omega, if_true] at z1
      have Z1 := hid z1
      clear z1
      go_enter Try.func6, Try.ntmps6
      go_wp2_with fail
      have B0 : Below w.heap.size w w := Below.refl _ _
      refine (Z0.out _).mono ?_
      rintro e w1 ⟨rfl, rfl⟩
      go_wp2_with fail
      refine (Z1.out _).mono ?_
      rintro e w2 ⟨rfl, rfl⟩
      go_wp2_with fail
      go_ret
      exact ⟨rfl, B0⟩
  · skip
    simp only [show (1048576 : Int) - (x0.length : Int) < 0 from by omega, if_true] at z0
    have Z0 := hid z0
    clear z0
    go_enter Try.func6, Try.ntmps6
    go_wp2_with fail
    have B0 : Below w.heap.size w w := Below.refl _ _
    refine (Z0.out _).mono ?_
    rintro e w1 ⟨rfl, rfl⟩
    go_wp2_with fail
    go_ret
    exact ⟨rfl, B0⟩
end Go.Proofs.Ytnoiendelcidbaa
