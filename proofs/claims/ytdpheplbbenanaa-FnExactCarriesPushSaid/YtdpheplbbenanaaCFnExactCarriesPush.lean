/-
  FnExactCarriesPush' call: it returns true, whatever the arguments are.
  Conditions: none beyond the statement's own.
-/
import Derived.Test.YtdpheplbbenanaaConvBd
import Derived.Test.YtdpheplbbenanaaConvWy
import Derived.Test.YtdpheplbbenanaaCarryS
import Derived.Test.YtdpheplbbenanaaCarryI
import Derived.Test.YtdpheplbbenanaaOb
import Derived.Deep.RegionHeld3
namespace Go.Proofs.Ytdpheplbbenanaa
open Go.RowKit
set_option linter.unusedSimpArgs false
set_option linter.unusedVariables false

set_option maxRecDepth 100000 in
set_option maxHeartbeats 4000000 in
theorem law_FnExactCarriesPush (w : World) (wi0 hi0 : Int) (wl0 : -128 ≤ wi0) (wu0 : wi0 ≤ 127) (hl0 : -128 ≤ hi0) (hu0 : hi0 ≤ 127) (a0 : Option Addr) (c0 : Nat) (x0 : List Pc) (ok0 : ∀ p ∈ x0, p.Ok) (s0 : SlA Pc.enc 5 w a0 x0) (q1 : Wy) (okq1 : q1.Ok) :
    Calls Try.prog 3 #[.agg #[.int .i8 wi0, .int .i8 hi0, .slice a0 x0.length c0], .agg q1.enc.toArray] w fun e w' => e = .returned (.bool true) ∧ Below w.heap.size w w' := by
  obtain ⟨fx1, fy1, sd1, tx1, ty1, ou1⟩ := q1
  have TW1 := fun W => to_Wy_L ⟨fx1, fy1, sd1, tx1, ty1, ou1⟩ W
  simp only [Wy.enc] at TW1
  simp only [Wy.enc]
  have m0 := s0.small
  have z0 := fun W => sz_Bd_L wi0 hi0 a0 x0.length c0 ((1048576 : Int)) W (by omega) (by omega) m0
  by_cases h0 : x0.length ≤ 1048576
  · skip
    simp only [show ¬ ((1048576 : Int) - (x0.length : Int) < 0) from by omega, if_false] at z0
    have l0 : (0 : Int) ≤ (1048576 : Int) - (x0.length : Int) := by omega
    have Z0 := hid z0
    clear z0
    have HS := fun (W : World) (A0 : Option Addr) (C0 : Nat) (h0 : SlA Pc.enc 5 W A0 x0) (q0 : A0 = none → C0 = 0) => CarriesPush_S W wi0 hi0 wl0 wu0 hl0 hu0 A0 C0 x0 h0 q0 ok0 (by omega) ⟨fx1, fy1, sd1, tx1, ty1, ou1⟩ okq1
    have HI := fun (W : World) (A0 : Option Addr) (C0 : Nat) (h0 : SlA Pc.enc 5 W A0 x0) (q0 : A0 = none → C0 = 0) => CarriesPush_I W wi0 hi0 wl0 wu0 hl0 hu0 A0 C0 x0 h0 q0 ok0 (by omega) ⟨fx1, fy1, sd1, tx1, ty1, ou1⟩ okq1
    obtain ⟨r0, hr0⟩ : ∃ r, (CarriesPushG wi0 hi0 x0 ⟨fx1, fy1, sd1, tx1, ty1, ou1⟩).1 = r := ⟨_, rfl⟩
    obtain ⟨r1, hr1⟩ : ∃ r, (CarriesPushG wi0 hi0 x0 ⟨fx1, fy1, sd1, tx1, ty1, ou1⟩).2 = r := ⟨_, rfl⟩
    simp only [hr0, hr1] at HS HI
    replace HS := hid HS
    replace HI := hid HI
    clear hr0
    have rr0 : (r0 != r0) = false := by simp
    clear hr1
    have rr1 : (r1 != r1) = false := by simp
    go_enter Try.func3, Try.ntmps3
    go_wp2_with fail
    obtain ⟨wb, hwb⟩ : ∃ wb, wb = (w.alloc (Obj.cells #[.int .i8 wi0, .int .i8 hi0, .slice a0 x0.length c0] 25)).alloc (Obj.cells #[.int .i8 fx1, .int .i8 fy1, .int .i8 sd1, .int .i8 tx1, .int .i8 ty1, .int .i8 ou1] 28) := ⟨_, rfl⟩
    have B0 : Below w.heap.size w wb := by rw [hwb]; exact ((Below.refl _ _).alloc (Nat.le_refl _) _).alloc (by simp) _
    have k0_0 : wb.cell? ⟨w.heap.size, 0, none⟩ = some (.int .i8 wi0) := by rw [hwb]; simp [go_sem]
    have k0_1 : wb.cell? ⟨w.heap.size, 1, none⟩ = some (.int .i8 hi0) := by rw [hwb]; simp [go_sem]
    have k0_2 : wb.cell? ⟨w.heap.size, 2, none⟩ = some (.slice a0 x0.length c0) := by rw [hwb]; simp [go_sem]
    have kw_0 : wb.cell? ⟨w.heap.size + 1, 0, none⟩ = some (.int .i8 fx1) := by rw [hwb]; simp [go_sem]
    have kw_1 : wb.cell? ⟨w.heap.size + 1, 1, none⟩ = some (.int .i8 fy1) := by rw [hwb]; simp [go_sem]
    have kw_2 : wb.cell? ⟨w.heap.size + 1, 2, none⟩ = some (.int .i8 sd1) := by rw [hwb]; simp [go_sem]
    have kw_3 : wb.cell? ⟨w.heap.size + 1, 3, none⟩ = some (.int .i8 tx1) := by rw [hwb]; simp [go_sem]
    have kw_4 : wb.cell? ⟨w.heap.size + 1, 4, none⟩ = some (.int .i8 ty1) := by rw [hwb]; simp [go_sem]
    have kw_5 : wb.cell? ⟨w.heap.size + 1, 5, none⟩ = some (.int .i8 ou1) := by rw [hwb]; simp [go_sem]
    have wlt : w.heap.size + 1 < wb.heap.size := by rw [hwb]; simp
    rw [← hwb]
    clear hwb
    have wsz := B0.size
    refine (Z0.out _).mono ?_
    rintro e w1 ⟨rfl, b1⟩
    have B1 := below_of B0 B0.size b1
    have zz1 := b1.size
    replace k0_0 := cell_on b1 k0_0
    replace k0_1 := cell_on b1 k0_1
    replace k0_2 := cell_on b1 k0_2
    replace kw_0 := cell_on b1 kw_0
    replace kw_1 := cell_on b1 kw_1
    replace kw_2 := cell_on b1 kw_2
    replace kw_3 := cell_on b1 kw_3
    replace kw_4 := cell_on b1 kw_4
    replace kw_5 := cell_on b1 kw_5
    clear b1
    go_wp2_with fail
    have b2 : Below w1.heap.size w1 w1.drew := (Below.refl _ _).drew
    have B2 := below_of B1 B1.size b2
    have zz2 := b2.size
    replace k0_0 := cell_on b2 k0_0
    replace k0_1 := cell_on b2 k0_1
    replace k0_2 := cell_on b2 k0_2
    replace kw_0 := cell_on b2 kw_0
    replace kw_1 := cell_on b2 kw_1
    replace kw_2 := cell_on b2 kw_2
    replace kw_3 := cell_on b2 kw_3
    replace kw_4 := cell_on b2 kw_4
    replace kw_5 := cell_on b2 kw_5
    clear b2
    go_region_held3 (fun w' => w'.cell? ⟨w.heap.size, 0, none⟩ = some (.int .i8 wi0) ∧ w'.cell? ⟨w.heap.size, 1, none⟩ = some (.int .i8 hi0) ∧ w'.cell? ⟨w.heap.size, 2, none⟩ = some (.slice a0 x0.length c0) ∧ w'.cell? ⟨w.heap.size + 1, 0, none⟩ = some (.int .i8 fx1) ∧ w'.cell? ⟨w.heap.size + 1, 1, none⟩ = some (.int .i8 fy1) ∧ w'.cell? ⟨w.heap.size + 1, 2, none⟩ = some (.int .i8 sd1) ∧ w'.cell? ⟨w.heap.size + 1, 3, none⟩ = some (.int .i8 tx1) ∧ w'.cell? ⟨w.heap.size + 1, 4, none⟩ = some (.int .i8 ty1) ∧ w'.cell? ⟨w.heap.size + 1, 5, none⟩ = some (.int .i8 ou1)) ((refine ⟨?_, ?_, ?_, ?_, ?_, ?_, ?_, ?_, ?_⟩ <;> (with_reducible assumption))) (first | (go_at_call 6; refine (to_Bd_L wi0 hi0 a0 c0 x0 _ (s0.below B2) (by omega)).mono ?_; rintro e w3 ⟨g3, rfl, b3, own3⟩; have Bp := B2; have B3 := below_of B2 B2.size b3; have zz3 := b3.size; have p0 := Ob.new (b0 := w.heap.size) own3 Bp.size; clear Bp; replace k0_0 := cell_on b3 k0_0; replace k0_1 := cell_on b3 k0_1; replace k0_2 := cell_on b3 k0_2; replace kw_0 := cell_on b3 kw_0; replace kw_1 := cell_on b3 kw_1; replace kw_2 := cell_on b3 kw_2; replace kw_3 := cell_on b3 kw_3; replace kw_4 := cell_on b3 kw_4; replace kw_5 := cell_on b3 kw_5; clear own3 b3) | (go_at_call 7; refine (TW1 _).mono ?_; rintro e w4 ⟨rfl, b4⟩; have B4 := below_of B3 B3.size b4; have zz4 := b4.size; replace k0_0 := cell_on b4 k0_0; replace k0_1 := cell_on b4 k0_1; replace k0_2 := cell_on b4 k0_2; replace kw_0 := cell_on b4 kw_0; replace kw_1 := cell_on b4 kw_1; replace kw_2 := cell_on b4 kw_2; replace kw_3 := cell_on b4 kw_3; replace kw_4 := cell_on b4 kw_4; replace kw_5 := cell_on b4 kw_5; replace p0 := p0.step b4; clear b4) | (go_at_call 5; refine (HS.out _ _ _ (p0.sla Pc.enc_length) p0.nilcap).mono ?_; rintro e w5 ⟨rfl, b5⟩; have B5 := below_of B4 B4.size b5; have zz5 := b5.size; replace k0_0 := cell_on b5 k0_0; replace k0_1 := cell_on b5 k0_1; replace k0_2 := cell_on b5 k0_2; replace kw_0 := cell_on b5 kw_0; replace kw_1 := cell_on b5 kw_1; replace kw_2 := cell_on b5 kw_2; replace kw_3 := cell_on b5 kw_3; replace kw_4 := cell_on b5 kw_4; replace kw_5 := cell_on b5 kw_5; replace p0 := p0.step b5; clear b5))
    go_wp2_with fail
    clear p0
    refine (to_Bd_L wi0 hi0 a0 c0 x0 _ (s0.below B5) (by omega)).mono ?_
    rintro e w6 ⟨g6, rfl, b6, own6⟩
    have Bp := B5
    have B6 := below_of B5 B5.size b6
    have zz6 := b6.size
    have v0 := Ob.new (b0 := w.heap.size) own6 Bp.size
    clear Bp
    replace k0_0 := cell_on b6 k0_0
    replace k0_1 := cell_on b6 k0_1
    replace k0_2 := cell_on b6 k0_2
    replace kw_0 := cell_on b6 kw_0
    replace kw_1 := cell_on b6 kw_1
    replace kw_2 := cell_on b6 kw_2
    replace kw_3 := cell_on b6 kw_3
    replace kw_4 := cell_on b6 kw_4
    replace kw_5 := cell_on b6 kw_5
    clear own6 b6
    have a_k0_0 := fun o => cell_on ((Below.refl w6.heap.size w6).alloc (Nat.le_refl _) o) k0_0
    have a_k0_1 := fun o => cell_on ((Below.refl w6.heap.size w6).alloc (Nat.le_refl _) o) k0_1
    have a_k0_2 := fun o => cell_on ((Below.refl w6.heap.size w6).alloc (Nat.le_refl _) o) k0_2
    have a_kw_0 := fun o => cell_on ((Below.refl w6.heap.size w6).alloc (Nat.le_refl _) o) kw_0
    have a_kw_1 := fun o => cell_on ((Below.refl w6.heap.size w6).alloc (Nat.le_refl _) o) kw_1
    have a_kw_2 := fun o => cell_on ((Below.refl w6.heap.size w6).alloc (Nat.le_refl _) o) kw_2
    have a_kw_3 := fun o => cell_on ((Below.refl w6.heap.size w6).alloc (Nat.le_refl _) o) kw_3
    have a_kw_4 := fun o => cell_on ((Below.refl w6.heap.size w6).alloc (Nat.le_refl _) o) kw_4
    have a_kw_5 := fun o => cell_on ((Below.refl w6.heap.size w6).alloc (Nat.le_refl _) o) kw_5
    go_wp2_with fail
    clear a_k0_0 a_k0_1 a_k0_2 a_kw_0 a_kw_1 a_kw_2 a_kw_3 a_kw_4 a_kw_5
    obtain ⟨w7, hw7⟩ : ∃ W, W = w6.alloc (Obj.cells #[.int .i8 wi0, .int .i8 hi0, .slice (some ⟨g6, 0, none⟩) x0.length x0.length] 34) := ⟨_, rfl⟩
    have b7 : Below w6.heap.size w6 w7 := by rw [hw7]; exact (Below.refl _ _).alloc (Nat.le_refl _) _
    have kx0_0 : w7.cell? ⟨w6.heap.size, 0, none⟩ = some (.int .i8 wi0) := by rw [hw7]; simp
    have kx0_1 : w7.cell? ⟨w6.heap.size, 1, none⟩ = some (.int .i8 hi0) := by rw [hw7]; simp
    have kx0_2 : w7.cell? ⟨w6.heap.size, 2, none⟩ = some (.slice (some ⟨g6, 0, none⟩) x0.length x0.length) := by rw [hw7]; simp
    have wl7 : w6.heap.size < w7.heap.size := by rw [hw7]; simp
    rw [← hw7]
    clear hw7
    have B7 := below_of B6 B6.size b7
    have zz7 := b7.size
    replace k0_0 := cell_on b7 k0_0
    replace k0_1 := cell_on b7 k0_1
    replace k0_2 := cell_on b7 k0_2
    replace kw_0 := cell_on b7 kw_0
    replace kw_1 := cell_on b7 kw_1
    replace kw_2 := cell_on b7 kw_2
    replace kw_3 := cell_on b7 kw_3
    replace kw_4 := cell_on b7 kw_4
    replace kw_5 := cell_on b7 kw_5
    replace v0 := v0.step b7
    clear b7
    have b8 : Below w7.heap.size w7 w7.drew := (Below.refl _ _).drew
    have B8 := below_of B7 B7.size b8
    have zz8 := b8.size
    replace k0_0 := cell_on b8 k0_0
    replace k0_1 := cell_on b8 k0_1
    replace k0_2 := cell_on b8 k0_2
    replace kw_0 := cell_on b8 kw_0
    replace kw_1 := cell_on b8 kw_1
    replace kw_2 := cell_on b8 kw_2
    replace kw_3 := cell_on b8 kw_3
    replace kw_4 := cell_on b8 kw_4
    replace kw_5 := cell_on b8 kw_5
    replace kx0_0 := cell_on b8 kx0_0
    replace kx0_1 := cell_on b8 kx0_1
    replace kx0_2 := cell_on b8 kx0_2
    replace v0 := v0.step b8
    clear b8
    go_region_held3 (fun w' => w'.cell? ⟨w6.heap.size, 0, none⟩ = some (.int .i8 wi0) ∧ w'.cell? ⟨w6.heap.size, 1, none⟩ = some (.int .i8 hi0) ∧ w'.cell? ⟨w6.heap.size, 2, none⟩ = some (.slice (some ⟨g6, 0, none⟩) x0.length x0.length) ∧ w'.cell? ⟨w.heap.size, 0, none⟩ = some (.int .i8 wi0) ∧ w'.cell? ⟨w.heap.size, 1, none⟩ = some (.int .i8 hi0) ∧ w'.cell? ⟨w.heap.size, 2, none⟩ = some (.slice a0 x0.length c0) ∧ w'.cell? ⟨w.heap.size + 1, 0, none⟩ = some (.int .i8 fx1) ∧ w'.cell? ⟨w.heap.size + 1, 1, none⟩ = some (.int .i8 fy1) ∧ w'.cell? ⟨w.heap.size + 1, 2, none⟩ = some (.int .i8 sd1) ∧ w'.cell? ⟨w.heap.size + 1, 3, none⟩ = some (.int .i8 tx1) ∧ w'.cell? ⟨w.heap.size + 1, 4, none⟩ = some (.int .i8 ty1) ∧ w'.cell? ⟨w.heap.size + 1, 5, none⟩ = some (.int .i8 ou1)) ((refine ⟨?_, ?_, ?_, ?_, ?_, ?_, ?_, ?_, ?_, ?_, ?_, ?_⟩ <;> (with_reducible assumption))) (first | (go_at_call 7; refine (TW1 _).mono ?_; rintro e w9 ⟨rfl, b9⟩; have B9 := below_of B8 B8.size b9; have zz9 := b9.size; replace k0_0 := cell_on b9 k0_0; replace k0_1 := cell_on b9 k0_1; replace k0_2 := cell_on b9 k0_2; replace kw_0 := cell_on b9 kw_0; replace kw_1 := cell_on b9 kw_1; replace kw_2 := cell_on b9 kw_2; replace kw_3 := cell_on b9 kw_3; replace kw_4 := cell_on b9 kw_4; replace kw_5 := cell_on b9 kw_5; replace kx0_0 := cell_on b9 kx0_0; replace kx0_1 := cell_on b9 kx0_1; replace kx0_2 := cell_on b9 kx0_2; replace v0 := v0.step b9; clear b9) | (go_at_call 8; refine (HI.out _ _ _ (v0.sla Pc.enc_length) v0.nilcap).mono ?_; rintro e w10 ⟨rfl, b10⟩; have B10 := below_of B9 B9.size b10; have zz10 := b10.size; replace k0_0 := cell_on b10 k0_0; replace k0_1 := cell_on b10 k0_1; replace k0_2 := cell_on b10 k0_2; replace kw_0 := cell_on b10 kw_0; replace kw_1 := cell_on b10 kw_1; replace kw_2 := cell_on b10 kw_2; replace kw_3 := cell_on b10 kw_3; replace kw_4 := cell_on b10 kw_4; replace kw_5 := cell_on b10 kw_5; replace kx0_0 := cell_on b10 kx0_0; replace kx0_1 := cell_on b10 kx0_1; replace kx0_2 := cell_on b10 kx0_2; replace v0 := v0.step b10; clear b10))
    go_wp2_with fail
    have b11 : Below w10.heap.size w10 w10.drew := (Below.refl _ _).drew
    have B11 := below_of B10 B10.size b11
    have zz11 := b11.size
    replace k0_0 := cell_on b11 k0_0
    replace k0_1 := cell_on b11 k0_1
    replace k0_2 := cell_on b11 k0_2
    replace kw_0 := cell_on b11 kw_0
    replace kw_1 := cell_on b11 kw_1
    replace kw_2 := cell_on b11 kw_2
    replace kw_3 := cell_on b11 kw_3
    replace kw_4 := cell_on b11 kw_4
    replace kw_5 := cell_on b11 kw_5
    replace kx0_0 := cell_on b11 kx0_0
    replace kx0_1 := cell_on b11 kx0_1
    replace kx0_2 := cell_on b11 kx0_2
    replace v0 := v0.step b11
    clear b11
    go_region_held3 (fun w' => w'.cell? ⟨w6.heap.size, 0, none⟩ = some (.int .i8 wi0) ∧ w'.cell? ⟨w6.heap.size, 1, none⟩ = some (.int .i8 hi0) ∧ w'.cell? ⟨w6.heap.size, 2, none⟩ = some (.slice (some ⟨g6, 0, none⟩) x0.length x0.length) ∧ w'.cell? ⟨w.heap.size, 0, none⟩ = some (.int .i8 wi0) ∧ w'.cell? ⟨w.heap.size, 1, none⟩ = some (.int .i8 hi0) ∧ w'.cell? ⟨w.heap.size, 2, none⟩ = some (.slice a0 x0.length c0)) ((refine ⟨?_, ?_, ?_, ?_, ?_, ?_⟩ <;> assumption)) (first | (go_at_call 6; refine (to_Bd_L wi0 hi0 a0 c0 x0 _ (s0.below B11) (by omega)).mono ?_; rintro e w12 ⟨g12, rfl, b12, own12⟩; have d_v0_u0 := v0.top; have Bp := B11; have B12 := below_of B11 B11.size b12; have zz12 := b12.size; have u0 := Ob.new (b0 := w.heap.size) own12 Bp.size; clear Bp; replace k0_0 := cell_on b12 k0_0; replace k0_1 := cell_on b12 k0_1; replace k0_2 := cell_on b12 k0_2; replace kw_0 := cell_on b12 kw_0; replace kw_1 := cell_on b12 kw_1; replace kw_2 := cell_on b12 kw_2; replace kw_3 := cell_on b12 kw_3; replace kw_4 := cell_on b12 kw_4; replace kw_5 := cell_on b12 kw_5; replace kx0_0 := cell_on b12 kx0_0; replace kx0_1 := cell_on b12 kx0_1; replace kx0_2 := cell_on b12 kx0_2; replace v0 := v0.step b12; clear own12 b12) | (go_at_call 9; refine (eq_Bd_L wi0 hi0 wi0 hi0 _ _ _ _ x0 x0 _ (v0.sla Pc.enc_length) (u0.sla Pc.enc_length)).mono ?_; rintro e w13 ⟨rfl, b13⟩; have B13 := below_of B12 B12.size b13; have zz13 := b13.size; replace k0_0 := cell_on b13 k0_0; replace k0_1 := cell_on b13 k0_1; replace k0_2 := cell_on b13 k0_2; replace kw_0 := cell_on b13 kw_0; replace kw_1 := cell_on b13 kw_1; replace kw_2 := cell_on b13 kw_2; replace kw_3 := cell_on b13 kw_3; replace kw_4 := cell_on b13 kw_4; replace kw_5 := cell_on b13 kw_5; replace kx0_0 := cell_on b13 kx0_0; replace kx0_1 := cell_on b13 kx0_1; replace kx0_2 := cell_on b13 kx0_2; replace v0 := v0.step b13; replace u0 := u0.step b13; clear b13; rw [decide_eq_true (show wi0 = wi0 ∧ hi0 = hi0 ∧ x0 = x0 from ⟨rfl, rfl, rfl⟩)]))
    go_wp2_with fail
    clear u0
    go_ret
    exact ⟨rfl, B13⟩
  · skip
    simp only [show (1048576 : Int) - (x0.length : Int) < 0 from by omega, if_true] at z0
    have Z0 := hid z0
    clear z0
    go_enter Try.func3, Try.ntmps3
    go_wp2_with fail
    obtain ⟨wb, hwb⟩ : ∃ wb, wb = (w.alloc (Obj.cells #[.int .i8 wi0, .int .i8 hi0, .slice a0 x0.length c0] 25)).alloc (Obj.cells #[.int .i8 fx1, .int .i8 fy1, .int .i8 sd1, .int .i8 tx1, .int .i8 ty1, .int .i8 ou1] 28) := ⟨_, rfl⟩
    have B0 : Below w.heap.size w wb := by rw [hwb]; exact ((Below.refl _ _).alloc (Nat.le_refl _) _).alloc (by simp) _
    have k0_0 : wb.cell? ⟨w.heap.size, 0, none⟩ = some (.int .i8 wi0) := by rw [hwb]; simp [go_sem]
    have k0_1 : wb.cell? ⟨w.heap.size, 1, none⟩ = some (.int .i8 hi0) := by rw [hwb]; simp [go_sem]
    have k0_2 : wb.cell? ⟨w.heap.size, 2, none⟩ = some (.slice a0 x0.length c0) := by rw [hwb]; simp [go_sem]
    have kw_0 : wb.cell? ⟨w.heap.size + 1, 0, none⟩ = some (.int .i8 fx1) := by rw [hwb]; simp [go_sem]
    have kw_1 : wb.cell? ⟨w.heap.size + 1, 1, none⟩ = some (.int .i8 fy1) := by rw [hwb]; simp [go_sem]
    have kw_2 : wb.cell? ⟨w.heap.size + 1, 2, none⟩ = some (.int .i8 sd1) := by rw [hwb]; simp [go_sem]
    have kw_3 : wb.cell? ⟨w.heap.size + 1, 3, none⟩ = some (.int .i8 tx1) := by rw [hwb]; simp [go_sem]
    have kw_4 : wb.cell? ⟨w.heap.size + 1, 4, none⟩ = some (.int .i8 ty1) := by rw [hwb]; simp [go_sem]
    have kw_5 : wb.cell? ⟨w.heap.size + 1, 5, none⟩ = some (.int .i8 ou1) := by rw [hwb]; simp [go_sem]
    have wlt : w.heap.size + 1 < wb.heap.size := by rw [hwb]; simp
    rw [← hwb]
    clear hwb
    refine (Z0.out _).mono ?_
    rintro e w1 ⟨rfl, b1⟩
    have B1 := below_of B0 B0.size b1
    have zz1 := b1.size
    replace k0_0 := cell_on b1 k0_0
    replace k0_1 := cell_on b1 k0_1
    replace k0_2 := cell_on b1 k0_2
    replace kw_0 := cell_on b1 kw_0
    replace kw_1 := cell_on b1 kw_1
    replace kw_2 := cell_on b1 kw_2
    replace kw_3 := cell_on b1 kw_3
    replace kw_4 := cell_on b1 kw_4
    replace kw_5 := cell_on b1 kw_5
    clear b1
    go_wp2_with fail
    go_ret
    exact ⟨rfl, B1⟩
end Go.Proofs.Ytdpheplbbenanaa
