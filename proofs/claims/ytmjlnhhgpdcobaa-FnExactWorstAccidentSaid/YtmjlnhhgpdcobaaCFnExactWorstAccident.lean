/-
  FnExactWorstAccident' call: it returns true, whatever the arguments are.
  Conditions: none beyond the statement's own.
-/
import Derived.Test.YtmjlnhhgpdcobaaConvBd
import Derived.Test.YtmjlnhhgpdcobaaAccS
import Derived.Test.YtmjlnhhgpdcobaaAccI
import Derived.Test.YtmjlnhhgpdcobaaOb
import Derived.Deep.RegionHeld3
namespace Go.Proofs.Ytmjlnhhgpdcobaa
open Go.RowKit
set_option linter.unusedSimpArgs false
set_option linter.unusedVariables false

set_option maxRecDepth 100000 in
set_option maxHeartbeats 4000000 in
theorem law_FnExactWorstAccident (w : World) (wi0 hi0 : Int) (wl0 : -128 ≤ wi0) (wu0 : wi0 ≤ 127) (hl0 : -128 ≤ hi0) (hu0 : hi0 ≤ 127) (a0 : Option Addr) (c0 : Nat) (x0 : List Pc) (ok0 : ∀ p ∈ x0, p.Ok) (s0 : SlA Pc.enc 5 w a0 x0) :
    Calls Try.prog 4 #[.agg #[.int .i8 wi0, .int .i8 hi0, .slice a0 x0.length c0]] w fun e w' => e = .returned (.bool true) ∧ Below w.heap.size w w' := by
  have m0 := s0.small
  have z0 := fun W => sz_Bd_L wi0 hi0 a0 x0.length c0 ((1048576 : Int)) W (by omega) (by omega) m0
  by_cases h0 : x0.length ≤ 1048576
  · skip
    simp only [show ¬ ((1048576 : Int) - (x0.length : Int) < 0) from by omega, if_false] at z0
    have l0 : (0 : Int) ≤ (1048576 : Int) - (x0.length : Int) := by omega
    have Z0 := hid z0
    clear z0
    have HS := fun (W : World) (A0 : Option Addr) (C0 : Nat) (h0 : SlA Pc.enc 5 W A0 x0) (q0 : A0 = none → C0 = 0) => WorstAccident_S W wi0 hi0 wl0 wu0 hl0 hu0 A0 C0 x0 h0 q0 ok0 (by omega)
    have HI := fun (W : World) (A0 : Option Addr) (C0 : Nat) (h0 : SlA Pc.enc 5 W A0 x0) (q0 : A0 = none → C0 = 0) => WorstAccident_I W wi0 hi0 wl0 wu0 hl0 hu0 A0 C0 x0 h0 q0 ok0 (by omega)
    obtain ⟨r0, hr0⟩ : ∃ r, (WorstAccidentG wi0 hi0 x0).1 = r := ⟨_, rfl⟩
    obtain ⟨r1, hr1⟩ : ∃ r, (WorstAccidentG wi0 hi0 x0).2.1 = r := ⟨_, rfl⟩
    obtain ⟨r2, hr2⟩ : ∃ r, (WorstAccidentG wi0 hi0 x0).2.2.1 = r := ⟨_, rfl⟩
    obtain ⟨r3, hr3⟩ : ∃ r, (WorstAccidentG wi0 hi0 x0).2.2.2 = r := ⟨_, rfl⟩
    simp only [hr0, hr1, hr2, hr3] at HS HI
    replace HS := hid HS
    replace HI := hid HI
    clear hr0
    have rr0 : (r0 != r0) = false := by simp
    clear hr1
    have rr1 : (r1 != r1) = false := by simp
    clear hr2
    have rr2 : (r2 != r2) = false := by simp
    clear hr3
    have rr3 : (r3 != r3) = false := by simp
    go_enter Try.func4, Try.ntmps4
    go_wp2_with fail
    obtain ⟨wb, hwb⟩ : ∃ wb, wb = w.alloc (Obj.cells #[.int .i8 wi0, .int .i8 hi0, .slice a0 x0.length c0] 25) := ⟨_, rfl⟩
    have B0 : Below w.heap.size w wb := by rw [hwb]; exact (Below.refl _ _).alloc (Nat.le_refl _) _
    have k0_0 : wb.cell? ⟨w.heap.size, 0, none⟩ = some (.int .i8 wi0) := by rw [hwb]; simp
    have k0_1 : wb.cell? ⟨w.heap.size, 1, none⟩ = some (.int .i8 hi0) := by rw [hwb]; simp
    have k0_2 : wb.cell? ⟨w.heap.size, 2, none⟩ = some (.slice a0 x0.length c0) := by rw [hwb]; simp
    have wlt : w.heap.size < wb.heap.size := by rw [hwb]; simp
    rw [← hwb]
    clear hwb
    have wsz := B0.size
    refine (Z0.out _).mono ?_
    rintro e w1 ⟨rfl, b1⟩
    have B1 := below_of B0 B0.size b1
    have zz1 := b1.size
    replace k0_0 := cell_on b1 k0_0
    replace k0_1 := cell_on b1 k0_1
    replace k0_2 := cell_on b1 k0_2
    clear b1
    go_wp2_with fail
    refine (to_Bd_L wi0 hi0 a0 c0 x0 _ (s0.below B1) (by omega)).mono ?_
    rintro e w2 ⟨g2, rfl, b2, own2⟩
    have Bp := B1
    have B2 := below_of B1 B1.size b2
    have zz2 := b2.size
    have p0 := Ob.new (b0 := w.heap.size) own2 Bp.size
    clear Bp
    replace k0_0 := cell_on b2 k0_0
    replace k0_1 := cell_on b2 k0_1
    replace k0_2 := cell_on b2 k0_2
    clear own2 b2
    go_wp2_with fail
    refine (HS.out _ _ _ (p0.sla Pc.enc_length) p0.nilcap).mono ?_
    rintro e w3 ⟨rfl, b3⟩
    have B3 := below_of B2 B2.size b3
    have zz3 := b3.size
    replace k0_0 := cell_on b3 k0_0
    replace k0_1 := cell_on b3 k0_1
    replace k0_2 := cell_on b3 k0_2
    replace p0 := p0.step b3
    clear b3
    go_wp2_with fail
    clear p0
    refine (to_Bd_L wi0 hi0 a0 c0 x0 _ (s0.below B3) (by omega)).mono ?_
    rintro e w4 ⟨g4, rfl, b4, own4⟩
    have Bp := B3
    have B4 := below_of B3 B3.size b4
    have zz4 := b4.size
    have v0 := Ob.new (b0 := w.heap.size) own4 Bp.size
    clear Bp
    replace k0_0 := cell_on b4 k0_0
    replace k0_1 := cell_on b4 k0_1
    replace k0_2 := cell_on b4 k0_2
    clear own4 b4
    have a_k0_0 := fun o => cell_on ((Below.refl w4.heap.size w4).alloc (Nat.le_refl _) o) k0_0
    have a_k0_1 := fun o => cell_on ((Below.refl w4.heap.size w4).alloc (Nat.le_refl _) o) k0_1
    have a_k0_2 := fun o => cell_on ((Below.refl w4.heap.size w4).alloc (Nat.le_refl _) o) k0_2
    go_wp2_with fail
    clear a_k0_0 a_k0_1 a_k0_2
    obtain ⟨w5, hw5⟩ : ∃ W, W = w4.alloc (Obj.cells #[.int .i8 wi0, .int .i8 hi0, .slice (some ⟨g4, 0, none⟩) x0.length x0.length] 31) := ⟨_, rfl⟩
    have b5 : Below w4.heap.size w4 w5 := by rw [hw5]; exact (Below.refl _ _).alloc (Nat.le_refl _) _
    have kx0_0 : w5.cell? ⟨w4.heap.size, 0, none⟩ = some (.int .i8 wi0) := by rw [hw5]; simp
    have kx0_1 : w5.cell? ⟨w4.heap.size, 1, none⟩ = some (.int .i8 hi0) := by rw [hw5]; simp
    have kx0_2 : w5.cell? ⟨w4.heap.size, 2, none⟩ = some (.slice (some ⟨g4, 0, none⟩) x0.length x0.length) := by rw [hw5]; simp
    have wl5 : w4.heap.size < w5.heap.size := by rw [hw5]; simp
    rw [← hw5]
    clear hw5
    have B5 := below_of B4 B4.size b5
    have zz5 := b5.size
    replace k0_0 := cell_on b5 k0_0
    replace k0_1 := cell_on b5 k0_1
    replace k0_2 := cell_on b5 k0_2
    replace v0 := v0.step b5
    clear b5
    refine (HI.out _ _ _ (v0.sla Pc.enc_length) v0.nilcap).mono ?_
    rintro e w6 ⟨rfl, b6⟩
    have B6 := below_of B5 B5.size b6
    have zz6 := b6.size
    replace k0_0 := cell_on b6 k0_0
    replace k0_1 := cell_on b6 k0_1
    replace k0_2 := cell_on b6 k0_2
    replace kx0_0 := cell_on b6 kx0_0
    replace kx0_1 := cell_on b6 kx0_1
    replace kx0_2 := cell_on b6 kx0_2
    replace v0 := v0.step b6
    clear b6
    go_wp2_with fail
    have b7 : Below w6.heap.size w6 w6.drew := (Below.refl _ _).drew
    have B7 := below_of B6 B6.size b7
    have zz7 := b7.size
    replace k0_0 := cell_on b7 k0_0
    replace k0_1 := cell_on b7 k0_1
    replace k0_2 := cell_on b7 k0_2
    replace kx0_0 := cell_on b7 kx0_0
    replace kx0_1 := cell_on b7 kx0_1
    replace kx0_2 := cell_on b7 kx0_2
    replace v0 := v0.step b7
    clear b7
    go_region_held3 (fun w' => w'.cell? ⟨w4.heap.size, 0, none⟩ = some (.int .i8 wi0) ∧ w'.cell? ⟨w4.heap.size, 1, none⟩ = some (.int .i8 hi0) ∧ w'.cell? ⟨w4.heap.size, 2, none⟩ = some (.slice (some ⟨g4, 0, none⟩) x0.length x0.length) ∧ w'.cell? ⟨w.heap.size, 0, none⟩ = some (.int .i8 wi0) ∧ w'.cell? ⟨w.heap.size, 1, none⟩ = some (.int .i8 hi0) ∧ w'.cell? ⟨w.heap.size, 2, none⟩ = some (.slice a0 x0.length c0)) ((refine ⟨?_, ?_, ?_, ?_, ?_, ?_⟩ <;> assumption)) (first | (go_at_call 7; refine (to_Bd_L wi0 hi0 a0 c0 x0 _ (s0.below B7) (by omega)).mono ?_; rintro e w8 ⟨g8, rfl, b8, own8⟩; have d_v0_u0 := v0.top; have Bp := B7; have B8 := below_of B7 B7.size b8; have zz8 := b8.size; have u0 := Ob.new (b0 := w.heap.size) own8 Bp.size; clear Bp; replace k0_0 := cell_on b8 k0_0; replace k0_1 := cell_on b8 k0_1; replace k0_2 := cell_on b8 k0_2; replace kx0_0 := cell_on b8 kx0_0; replace kx0_1 := cell_on b8 kx0_1; replace kx0_2 := cell_on b8 kx0_2; replace v0 := v0.step b8; clear own8 b8) | (go_at_call 9; refine (eq_Bd_L wi0 hi0 wi0 hi0 _ _ _ _ x0 x0 _ (v0.sla Pc.enc_length) (u0.sla Pc.enc_length)).mono ?_; rintro e w9 ⟨rfl, b9⟩; have B9 := below_of B8 B8.size b9; have zz9 := b9.size; replace k0_0 := cell_on b9 k0_0; replace k0_1 := cell_on b9 k0_1; replace k0_2 := cell_on b9 k0_2; replace kx0_0 := cell_on b9 kx0_0; replace kx0_1 := cell_on b9 kx0_1; replace kx0_2 := cell_on b9 kx0_2; replace v0 := v0.step b9; replace u0 := u0.step b9; clear b9; rw [decide_eq_true (show wi0 = wi0 ∧ hi0 = hi0 ∧ x0 = x0 from ⟨rfl, rfl, rfl⟩)]))
    go_wp2_with fail
    clear u0
    go_ret
    exact ⟨rfl, B9⟩
  · skip
    simp only [show (1048576 : Int) - (x0.length : Int) < 0 from by omega, if_true] at z0
    have Z0 := hid z0
    clear z0
    go_enter Try.func4, Try.ntmps4
    go_wp2_with fail
    obtain ⟨wb, hwb⟩ : ∃ wb, wb = w.alloc (Obj.cells #[.int .i8 wi0, .int .i8 hi0, .slice a0 x0.length c0] 25) := ⟨_, rfl⟩
    have B0 : Below w.heap.size w wb := by rw [hwb]; exact (Below.refl _ _).alloc (Nat.le_refl _) _
    have k0_0 : wb.cell? ⟨w.heap.size, 0, none⟩ = some (.int .i8 wi0) := by rw [hwb]; simp
    have k0_1 : wb.cell? ⟨w.heap.size, 1, none⟩ = some (.int .i8 hi0) := by rw [hwb]; simp
    have k0_2 : wb.cell? ⟨w.heap.size, 2, none⟩ = some (.slice a0 x0.length c0) := by rw [hwb]; simp
    have wlt : w.heap.size < wb.heap.size := by rw [hwb]; simp
    rw [← hwb]
    clear hwb
    refine (Z0.out _).mono ?_
    rintro e w1 ⟨rfl, b1⟩
    have B1 := below_of B0 B0.size b1
    have zz1 := b1.size
    replace k0_0 := cell_on b1 k0_0
    replace k0_1 := cell_on b1 k0_1
    replace k0_2 := cell_on b1 k0_2
    clear b1
    go_wp2_with fail
    go_ret
    exact ⟨rfl, B1⟩
end Go.Proofs.Ytmjlnhhgpdcobaa
